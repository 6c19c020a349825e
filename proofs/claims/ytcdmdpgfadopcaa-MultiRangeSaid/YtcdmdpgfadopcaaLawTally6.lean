/-
  sluicelaw04: step (Join, Clear, Join of none, nothing).
-/
import Derived.Test.YtcdmdpgfadopcaaLawTally5
namespace Go.Proofs.Ytcdmdpgfadopcaa
open Go.Slu Go.MapKept Go.RowKit Go.Sort

section
variable {B : Nat} {U : List Str} {gt ct gr cr : Nat} {D : Nat → Duo} {w : World}

theorem cond_t {T : TypeId} {tb mb g : Nat} {M M2 : List (Str × Int)} (h2 : TallyAt T ekS w tb mb g M2) (hc : ∀ x, okC (cnt M x) = true) : (∀ p ∈ M2, okC (cnt M p.1 + p.2) = true) ↔ ∀ x, okC (cnt M x + cnt M2 x) = true := by
  have hnd := MapRep.nodup keysS h2.map
  constructor
  · intro h x
    by_cases h0 : cnt M2 x = 0
    · rw [h0, Int.add_zero]; exact hc x
    · obtain ⟨p, hp, rfl⟩ := List.mem_map.1 ((tally_keys h2 x).2 h0)
      have : cnt M2 p.1 = p.2 := by unfold cnt; rw [lk_of_mem hnd (v := p.2) hp]; rfl
      rw [this]; exact h p hp
  · intro h p hp
    have : cnt M2 p.1 = p.2 := by unfold cnt; rw [lk_of_mem hnd (v := p.2) hp]; rfl
    rw [← this]; exact h p.1
theorem cond_r {M M2 : List (Str × Int)} {L L2 : List (RKey × Int)} (hl : LOk L) (hl2 : LOk L2) (hs : Same M L) (hs2 : Same M2 L2) : (∀ p ∈ L2, okC (cnt L p.1 + p.2) = true) ↔ ∀ x, okC (cnt M x + cnt M2 x) = true := by
  constructor
  · intro h x
    rw [hs.eq, hs2.eq]
    by_cases h0 : rk x ∈ L2.map (·.1)
    · obtain ⟨i, n, hi⟩ := ix_at h0
      rw [lk_ix hl2.nd hi]
      exact h _ (List.mem_of_getElem? hi)
    · rw [cnt_no h0, Int.add_zero]; exact hl.cnt _
  · intro h p hp
    have e1 : cnt L2 p.1 = p.2 := by unfold cnt; rw [lk_of_mem hl2.nd (v := p.2) hp]; rfl
    have e2 : p.1 = rk p.1.s := by
      have := hs2.txt p.1 (List.mem_map_of_mem hp)
      obtain ⟨⟨s, m⟩, n⟩ := p
      simp only at this ⊢
      rw [this]
    have := h p.1.s
    rw [hs.eq, hs2.eq, ← e2, e1] at this
    exact this

/-- both Joins, in one word -/
def JT (w : World) (d : Duo) (S : List (Str × Int)) (r : Int) (e : Ending) (w' : World) : Prop :=
  e = .returned (.int .i64 r) ∧ ∃ M', TallyS w' d.tb d.mb (gOf d.k) M' ∧ (∀ x, cnt M' x = if r = 0 then cnt d.M x + cnt S x else cnt d.M x) ∧ Upd [d.mb] w w'
def JR (w : World) (d : Duo) (L2 : List (RKey × Int)) (r : Int) (e : Ending) (w' : World) : Prop :=
  e = .returned (.int .i64 r) ∧ ∃ L', StepR d.F w w' d.rb d.k L' ∧ LOk L' ∧ (∀ k, cnt L' k = if r = 0 then cnt d.L k + cnt L2 k else cnt d.L k) ∧ (∀ k ∈ L'.map (·.1), k ∈ d.L.map (·.1) ∨ k ∈ L2.map (·.1))

theorem joins {U : List Str} {d d2 : Duo} (h : d.Ok w U) (h2 : d2.Ok w U) (hU : U.length < 1000) : ∃ r : Int, 
    (∀ W, TallyS W d.tb d.mb (gOf d.k) d.M → TallyS W d2.tb d2.mb (gOf d2.k) d2.M → Calls Try.prog 41 #[.pointer (some ⟨d.tb, 0, none⟩), .pointer (some ⟨d2.tb, 0, none⟩)] W (JT W d d2.M r)) ∧
    (∀ W, RefF d.F W d.rb d.k d.L → RefF d2.F W d2.rb d2.k d2.L → Calls Try.prog 79 #[.pointer (some ⟨d.rb, 0, none⟩), .pointer (some ⟨d2.rb, 0, none⟩)] W (JR W d d2.L r)) := by
  have l1 := h.len.1
  have l2 := h2.len.1
  by_cases hall : ∀ x, okC (cnt d.M x + cnt d2.M x) = true
  · refine ⟨0, fun W a b => (joinS _ _ _ _ _ _ _ _ W a b (same_cnt h.s h.l)).mono fun e w' hj => ?_, fun W a b => (joinR _ _ W _ _ _ _ _ _ a b h.l h2.l (by omega)).mono fun e w' hj => ?_⟩
    · unfold JoinedS at hj
      rw [if_pos ((cond_t b (same_cnt h.s h.l)).2 hall)] at hj
      obtain ⟨he, M', h3, h4, h5⟩ := hj
      exact ⟨he, M', h3, fun x => by rw [if_pos rfl]; exact h4 x, h5⟩
    · unfold JoinedR at hj
      rw [if_pos ((cond_r h.l h2.l h.s h2.s).2 hall)] at hj
      obtain ⟨he, L', h3, h4, h5, h6⟩ := hj
      exact ⟨he, L', h3, h4, fun x => by rw [if_pos rfl]; exact h5 x, h6⟩
  · refine ⟨12, fun W a b => (joinS _ _ _ _ _ _ _ _ W a b (same_cnt h.s h.l)).mono fun e w' hj => ?_, fun W a b => (joinR _ _ W _ _ _ _ _ _ a b h.l h2.l (by omega)).mono fun e w' hj => ?_⟩
    · unfold JoinedS at hj
      rw [if_neg (fun hn => hall ((cond_t b (same_cnt h.s h.l)).1 hn))] at hj
      exact ⟨hj.1, d.M, hj.2.1, fun x => by rw [if_neg (by omega)], hj.2.2.mono (by simp)⟩
    · unfold JoinedR at hj
      rw [if_neg (fun hn => hall ((cond_r h.l h2.l h.s h2.s).1 hn))] at hj
      exact ⟨hj.1, d.L, ⟨d.F, a.keep hj.2 (by simp), fun b hb => .inl hb, hj.2.mono (by simp)⟩, h.l, fun x => by rw [if_neg (by omega)], fun k hk => .inl hk⟩

set_option maxHeartbeats 1000000 in
set_option maxRecDepth 20000 in
theorem step_join (h : St B w U gt ct gr cr D) (hB : B ≤ w.heap.size) (hU : U.length < 1000) (i j : Nat) (hi : i < 3) (hj : j < 3) (iv jv : Int) (key : Str) (n : Int) :
    Calls Try.prog 17 #[.slice (some ⟨gt, 0, none⟩) 3 ct, .slice (some ⟨gr, 0, none⟩) 3 cr, .agg #[.int .i64 1, .int .i64 iv, .int .i64 jv, .string key.s, .int .i64 n], .int .i64 i, .int .i64 j] w (Stepped B (key :: U) gt ct gr cr D w) := by
  have hd := h.ok i hi
  have hd2 := h.ok j hj
  have c1 := h.tcell hi
  have c2 := h.rcell hi
  have c3 := h.tcell hj
  have c4 := h.rcell hj
  have hii : (i : Int) < 3 := by omega
  have hjj : (j : Int) < 3 := by omega
  obtain ⟨r, hjt, hjr⟩ := joins hd hd2 hU
  obtain ⟨f1, f2⟩ := h.fr i hi
  have hmf : ∀ b, b ∉ (D i).foot → b ∉ [(D i).mb] ∧ b ∉ (D i).F := fun b hb => by simp [Duo.foot] at hb ⊢; exact ⟨hb.2.1, hb.2.2⟩
  have hap : ∀ b ∈ (D j).F, b ≠ (D i).mb := fun b hb e => by
    by_cases hij : j = i
    · subst hij; subst e; exact hd.apart.2 hb
    · exact h.dis j i hj hi hij b (by simp [Duo.foot, hb]) (by simp [Duo.foot, e])
  have H := Lib.hid h
  have HD := Lib.hid hd
  have HD2 := Lib.hid hd2
  have HJT := Lib.hid hjt
  have HJR := Lib.hid hjr
  have HB := Lib.hid hB
  have HAP := Lib.hid hap
  have F1 := Lib.hid (hmf _ f1)
  have F2 := Lib.hid (hmf _ f2)
  clear h hd hd2 hjt hjr hmf f1 f2 hB hap
  have hu0 := Lib.hid ((Upd.refl [] w).alloc (.cells #[.int .i64 1, .int .i64 iv, .int .i64 jv, .string key.s, .int .i64 n] 34))
  have b0 := cell_new w #[.int .i64 1, .int .i64 iv, .int .i64 jv, .string key.s, .int .i64 n] 34 0 (v := .int .i64 1) rfl
  have d1 := hu0.out.cellS c1 (by simp)
  have d2 := hu0.out.cellS c2 (by simp)
  have d3 := hu0.out.cellS c3 (by simp)
  have d4 := hu0.out.cellS c4 (by simp)
  go_enter Try.func17, Try.ntmps17
  go_wp2_with fail
  generalize w.alloc (.cells #[.int .i64 1, .int .i64 iv, .int .i64 jv, .string key.s, .int .i64 n] 34) = wA at *
  go_region_held3 (fun w' => w'.cell? ⟨gt, i, none⟩ = some (.pointer (some ⟨(D i).tb, 0, none⟩)) ∧ w'.cell? ⟨gr, i, none⟩ = some (.pointer (some ⟨(D i).rb, 0, none⟩)) ∧ w'.cell? ⟨gt, j, none⟩ = some (.pointer (some ⟨(D j).tb, 0, none⟩)) ∧ w'.cell? ⟨gr, j, none⟩ = some (.pointer (some ⟨(D j).rb, 0, none⟩))) (go_keep)
    (first
      | (go_at_call 41; refine (HJT.out _ (HD.out.t.keep hu0.out.drew (by simp) (by simp)) (HD2.out.t.keep hu0.out.drew (by simp) (by simp))).mono ?_; rintro e w2 ⟨rfl, M', ht, hcn, hu2⟩; have e1 := hu2.cellS (show wA.drew.cell? _ = _ from d1) F1.out.1; have e2 := hu2.cellS (show wA.drew.cell? _ = _ from d2) F2.out.1; have e3 := hu2.cellS (show wA.drew.cell? _ = _ from d3) F1.out.1; have e4 := hu2.cellS (show wA.drew.cell? _ = _ from d4) F2.out.1; have HT := Lib.hid ht; have HU2 := Lib.hid hu2; have HCN := Lib.hid hcn; clear ht hu2 hcn)
      | (go_at_call 79; refine (HJR.out _ ((HD.out.r.keep hu0.out.drew (by simp)).keep HU2.out (fun b hb _ hx => by simp at hx; subst hx; exact HD.out.apart.2 hb)) ((HD2.out.r.keep hu0.out.drew (by simp)).keep HU2.out (fun b hb _ hx => by simp at hx; exact HAP.out b hb hx))).mono ?_; rintro e w4 ⟨rfl, L', hst, h1, h2, h3⟩; have HST := Lib.hid hst; have HL := Lib.hid (And.intro h1 (And.intro h2 h3)); obtain ⟨_, _, _, hu4⟩ := hst; have k1 := hu4.cellS e1 F1.out.2; have k2 := hu4.cellS e2 F2.out.2; have k3 := hu4.cellS e3 F1.out.2; have k4 := hu4.cellS e4 F2.out.2; clear hu4 h1 h2 h3))
  go_wp2_with fail
  go_ret
  refine stepped_done H.out HB.out (fun x hx => List.mem_cons_of_mem _ hx) hi hu0.out.drew HT.out HU2.out (Upd.refl [] _) HST.out HL.out.1 ⟨fun k hk => ?_, fun x => ?_⟩ (fun k hk => ?_)
  · exact (HL.out.2.2 k hk).elim (HD.out.s.txt k) (HD2.out.s.txt k)
  · rw [HCN.out x, HL.out.2.1 (rk x), HD.out.s.eq, HD2.out.s.eq]
  · exact List.mem_cons_of_mem _ ((HL.out.2.2 k hk).elim (HD.out.u k) (HD2.out.u k))

set_option maxHeartbeats 1000000 in
set_option maxRecDepth 20000 in
theorem step_clear (h : St B w U gt ct gr cr D) (hB : B ≤ w.heap.size) (i j : Nat) (hi : i < 3) (iv jv : Int) (key : Str) (n : Int) :
    Calls Try.prog 17 #[.slice (some ⟨gt, 0, none⟩) 3 ct, .slice (some ⟨gr, 0, none⟩) 3 cr, .agg #[.int .i64 3, .int .i64 iv, .int .i64 jv, .string key.s, .int .i64 n], .int .i64 i, .int .i64 j] w (Stepped B (key :: U) gt ct gr cr D w) := by
  have hd := h.ok i hi
  have c1 := h.tcell hi
  have c2 := h.rcell hi
  have hii : (i : Int) < 3 := by omega
  obtain ⟨f1, f2⟩ := h.fr i hi
  have hmf : ∀ b, b ∉ (D i).foot → b ∉ [(D i).mb] ∧ b ∉ (D i).F := fun b hb => by simp [Duo.foot] at hb ⊢; exact ⟨hb.2.1, hb.2.2⟩
  have H := Lib.hid h
  have HD := Lib.hid hd
  have HB := Lib.hid hB
  have F1 := Lib.hid (hmf _ f1)
  have F2 := Lib.hid (hmf _ f2)
  clear h hd hmf f1 f2 hB
  have hu0 := Lib.hid ((Upd.refl [] w).alloc (.cells #[.int .i64 3, .int .i64 iv, .int .i64 jv, .string key.s, .int .i64 n] 34))
  have b0 := cell_new w #[.int .i64 3, .int .i64 iv, .int .i64 jv, .string key.s, .int .i64 n] 34 0 (v := .int .i64 3) rfl
  have d1 := hu0.out.cellS c1 (by simp)
  have d2 := hu0.out.cellS c2 (by simp)
  go_enter Try.func17, Try.ntmps17
  go_wp2_with fail
  generalize w.alloc (.cells #[.int .i64 3, .int .i64 iv, .int .i64 jv, .string key.s, .int .i64 n] 34) = wA at *
  go_wp2_with (first
      | (go_at_call 39; refine (clearS _ _ _ _ _ (HD.out.t.keep hu0.out (by simp) (by simp))).mono ?_; rintro e w2 ⟨rfl, ht, hu2⟩; have e1 := hu2.cellS d1 F1.out.1; have e2 := hu2.cellS d2 F2.out.1; have HT := Lib.hid ht; have HU2 := Lib.hid hu2; clear ht hu2)
      | (go_at_call 81; refine (clearR _ _ _ _ _ ((HD.out.r.keep hu0.out (by simp)).keep HU2.out (fun b hb _ hx => by simp at hx; subst hx; exact HD.out.apart.2 hb))).mono ?_; rintro e w4 ⟨rfl, hst⟩; have HST := Lib.hid hst; clear hst))
  go_ret
  exact stepped_done H.out HB.out (fun x hx => List.mem_cons_of_mem _ hx) hi hu0.out HT.out HU2.out (Upd.refl [] _) HST.out ⟨by simp, by simp⟩ ⟨by simp, fun x => rfl⟩ (by simp)

theorem stepped_same {V : List Str} {w' : World} (h : St B w U gt ct gr cr D) (hv : ∀ x ∈ U, x ∈ V) (hu : Upd [] w w') : Stepped B V gt ct gr cr D w (.returned (.bool true)) w' :=
  have h2 := h.keep hu (by simp)
  ⟨rfl, D, [], ⟨fun i hi => (h2.ok i hi).mono hv, h2.dis, h2.ts, h2.rs, h2.fr, h2.lo⟩, by simp, hu⟩

set_option maxHeartbeats 1000000 in
set_option maxRecDepth 20000 in
theorem step_none (h : St B w U gt ct gr cr D) (i j : Nat) (hi : i < 3) (iv jv : Int) (key : Str) (n : Int) :
    Calls Try.prog 17 #[.slice (some ⟨gt, 0, none⟩) 3 ct, .slice (some ⟨gr, 0, none⟩) 3 cr, .agg #[.int .i64 4, .int .i64 iv, .int .i64 jv, .string key.s, .int .i64 n], .int .i64 i, .int .i64 j] w (Stepped B (key :: U) gt ct gr cr D w) := by
  have c1 := h.tcell hi
  have hii : (i : Int) < 3 := by omega
  have H := Lib.hid h
  clear h
  have hu0 := Lib.hid ((Upd.refl [] w).alloc (.cells #[.int .i64 4, .int .i64 iv, .int .i64 jv, .string key.s, .int .i64 n] 34))
  have b0 := cell_new w #[.int .i64 4, .int .i64 iv, .int .i64 jv, .string key.s, .int .i64 n] 34 0 (v := .int .i64 4) rfl
  have d1 := hu0.out.cellS c1 (by simp)
  go_enter Try.func17, Try.ntmps17
  go_wp2_with fail
  generalize w.alloc (.cells #[.int .i64 4, .int .i64 iv, .int .i64 jv, .string key.s, .int .i64 n] 34) = wA at *
  go_wp2_with (first
      | (go_at_call 41; refine (joinS_none _ _).mono ?_; rintro e w2 ⟨rfl, rfl⟩))
  go_ret
  exact stepped_same H.out (fun x hx => List.mem_cons_of_mem _ hx) hu0.out

set_option maxHeartbeats 1000000 in
set_option maxRecDepth 20000 in
theorem step_other (h : St B w U gt ct gr cr D) (i j : Nat) (kd iv jv : Int) (h0 : kd ≠ 0) (h1 : kd ≠ 1) (h2 : kd ≠ 2) (h3 : kd ≠ 3) (h4 : kd ≠ 4) (key : Str) (n : Int) :
    Calls Try.prog 17 #[.slice (some ⟨gt, 0, none⟩) 3 ct, .slice (some ⟨gr, 0, none⟩) 3 cr, .agg #[.int .i64 kd, .int .i64 iv, .int .i64 jv, .string key.s, .int .i64 n], .int .i64 i, .int .i64 j] w (Stepped B (key :: U) gt ct gr cr D w) := by
  have H := Lib.hid h
  clear h
  have e0 : (kd == 0) = false := by simpa using h0
  have e1 : (kd == 1) = false := by simpa using h1
  have e2 : (kd == 2) = false := by simpa using h2
  have e3 : (kd == 3) = false := by simpa using h3
  have e4 : (kd == 4) = false := by simpa using h4
  have hu0 := Lib.hid ((Upd.refl [] w).alloc (.cells #[.int .i64 kd, .int .i64 iv, .int .i64 jv, .string key.s, .int .i64 n] 34))
  have b0 := cell_new w #[.int .i64 kd, .int .i64 iv, .int .i64 jv, .string key.s, .int .i64 n] 34 0 (v := .int .i64 kd) rfl
  go_enter Try.func17, Try.ntmps17
  go_wp2_with fail
  go_ret
  exact stepped_same H.out (fun x hx => List.mem_cons_of_mem _ hx) hu0.out
end
end Go.Proofs.Ytcdmdpgfadopcaa
