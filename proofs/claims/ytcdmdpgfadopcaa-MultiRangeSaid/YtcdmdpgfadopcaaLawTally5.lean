/-
  sluicelaw04: step.
-/
import Derived.Test.YtcdmdpgfadopcaaLawTally4
namespace Go.Proofs.Ytcdmdpgfadopcaa
open Go.Slu Go.MapKept Go.RowKit Go.Sort

/-- blocks below B are as they were -/
def UpdB (B : Nat) (w w' : World) : Prop := ∃ X, (∀ b ∈ X, B ≤ b) ∧ Upd X w w'
theorem UpdB.refl (B : Nat) (w : World) : UpdB B w w := ⟨[], by simp, Upd.refl _ _⟩
theorem UpdB.trans {B : Nat} {a b c : World} (h : UpdB B a b) (k : UpdB B b c) : UpdB B a c := by
  obtain ⟨X, hX, hu⟩ := h
  obtain ⟨Y, hY, hv⟩ := k
  exact ⟨X ++ Y, fun b hb => (List.mem_append.1 hb).elim (hX b) (hY b), (hu.mono (fun i _ h => List.mem_append_left _ h)).trans (hv.mono (fun i _ h => List.mem_append_right _ h))⟩
theorem Upd.updB {B : Nat} {a b : World} (h : Upd [] a b) : UpdB B a b := ⟨[], by simp, h⟩
theorem UpdB.size {B : Nat} {a b : World} (h : UpdB B a b) : a.heap.size ≤ b.heap.size := by obtain ⟨X, _, hu⟩ := h; exact hu.size
theorem UpdB.cellS {B : Nat} {a b : World} (h : UpdB B a b) {p : Addr} {v : Value} (hv : a.cell? p = some v) (hp : p.block < B) : b.cell? p = some v := by
  obtain ⟨X, hX, hu⟩ := h
  exact hu.cellS hv (fun hx => by have := hX _ hx; omega)

theorem duo_done {w wA wB wC wD : World} {U V : List Str} {d : Duo} {M' : List (Str × Int)} {L' : List (RKey × Int)} (h : d.Ok w U) (hu1 : Upd [] w wA) (ht : TallyS wB d.tb d.mb (gOf d.k) M') (hu2 : Upd [d.mb] wA wB) (hg : Upd [] wB wC) (hst : StepR d.F wC wD d.rb d.k L') (hl : LOk L') (hs : Same M' L') (hk : ∀ k ∈ L'.map (·.1), k.s ∈ V) :
    ∃ d' : Duo, d'.Ok wD V ∧ d'.tb = d.tb ∧ d'.rb = d.rb ∧ (∀ b ∈ d'.foot, b ∈ d.foot ∨ w.heap.size ≤ b) ∧ Upd (d.mb :: d.F) w wD := by
  obtain ⟨F', hr, hin, hu⟩ := hst
  have hap := h.apart
  refine ⟨{ d with F := F', M := M', L := L' }, ⟨(ht.keep hg (by simp) (by simp)).keep hu hap.1 hap.2, hr, hl, hs, h.k, hk⟩, rfl, rfl, fun b hb => ?_, ?_⟩
  · simp only [Duo.foot, List.mem_cons] at hb ⊢
    rcases hb with h1 | h1 | h1
    · exact .inl (.inl h1)
    · exact .inl (.inr (.inl h1))
    · rcases hin b h1 with h2 | h2
      · exact .inl (.inr (.inr h2))
      · have := hu1.size; have := hu2.size; have := hg.size
        exact .inr (by omega)
  · exact (((Upd.refl _ w).then hu1 (by simp)).then hu2 (fun i hi _ => by simp at hi; simp [hi])).then hg (by simp) |>.then hu (fun i hi _ => List.mem_cons_of_mem _ hi)

/-- what a step leaves -/
def Stepped (B : Nat) (U : List Str) (gt ct gr cr : Nat) (D : Nat → Duo) (w : World) (e : Ending) (w' : World) : Prop :=
  e = .returned (.bool true) ∧ ∃ D' X, St B w' U gt ct gr cr D' ∧ (∀ b ∈ X, B ≤ b ∧ (b = gt ∨ b = gr ∨ ∃ n, n < 3 ∧ b ∈ (D n).foot)) ∧ Upd X w w'

section
variable {B : Nat} {U : List Str} {gt ct gr cr : Nat} {D : Nat → Duo} {w : World}
theorem stepped_done {V : List Str} {wA wB wC wD : World} {i : Nat} {M' : List (Str × Int)} {L' : List (RKey × Int)} (h : St B w U gt ct gr cr D) (hB : B ≤ w.heap.size) (hv : ∀ x ∈ U, x ∈ V) (hi : i < 3) (hu1 : Upd [] w wA) (ht : TallyS wB (D i).tb (D i).mb (gOf (D i).k) M') (hu2 : Upd [(D i).mb] wA wB) (hg : Upd [] wB wC)
    (hst : StepR (D i).F wC wD (D i).rb (D i).k L') (hl : LOk L') (hs : Same M' L') (hk : ∀ k ∈ L'.map (·.1), k.s ∈ V) : Stepped B V gt ct gr cr D w (.returned (.bool true)) wD := by
  obtain ⟨d', h1, h2, h3, h4, h5⟩ := duo_done (h.ok i hi) hu1 ht hu2 hg hst hl hs hk
  have hX : ∀ b ∈ (D i).mb :: (D i).F, b ∈ (D i).foot := fun b hb => by
    simp only [List.mem_cons, Duo.foot] at hb ⊢
    exact .inr hb
  exact ⟨rfl, _, _, h.step hv hi h1 h2 h3 hX h5 h4 hB, fun b hb => ⟨h.lo.2.2 i hi b (hX b hb), .inr (.inr ⟨i, hi, hX b hb⟩)⟩, h5⟩

theorem same_cnt {M : List (Str × Int)} {L : List (RKey × Int)} (hs : Same M L) (hl : LOk L) (x : Str) : okC (cnt M x) = true := by rw [hs.eq]; exact hl.cnt _

set_option maxHeartbeats 1000000 in
set_option maxRecDepth 20000 in
theorem step_add (h : St B w U gt ct gr cr D) (hB : B ≤ w.heap.size) (hU : U.length < 1000) (i j : Nat) (hi : i < 3) (iv jv : Int) (key : Str) (n : Int) :
    Calls Try.prog 17 #[.slice (some ⟨gt, 0, none⟩) 3 ct, .slice (some ⟨gr, 0, none⟩) 3 cr, .agg #[.int .i64 0, .int .i64 iv, .int .i64 jv, .string key.s, .int .i64 n], .int .i64 i, .int .i64 j] w (Stepped B (key :: U) gt ct gr cr D w) := by
  have hd := h.ok i hi
  have c1 := h.tcell hi
  have c2 := h.rcell hi
  have hne := h.lt
  have hii : (i : Int) < 3 := by omega
  have hcn := hd.s.eq key
  have hadd := fun W (hW : TallyS W (D i).tb (D i).mb (gOf (D i).k) (D i).M) => addS (D i).tb (D i).mb (gOf (D i).k) (D i).M key n W hW (same_cnt hd.s hd.l key)
  have haddr := fun W (hW : RefF (D i).F W (D i).rb (D i).k (D i).L) => addR (D i).F W (D i).rb (D i).k (D i).L hW hd.l (by have := hd.len.1; omega) (rk key) n
  rw [← hcn] at haddr
  obtain ⟨f1, f2⟩ := h.fr i hi
  have hlt := hd.lt
  have hbx : w.heap.size ∉ (D i).foot := fun hb => by have := hlt _ hb; omega
  have hmf : ∀ b, b ∉ (D i).foot → b ∉ [(D i).mb] ∧ b ∉ (D i).F := fun b hb => by simp [Duo.foot] at hb ⊢; exact ⟨hb.2.1, hb.2.2⟩
  generalize hr : (if okC n && okC (cnt (D i).M key + n) then (0 : Int) else 12) = r at hadd haddr
  generalize hM' : (if okC n && okC (cnt (D i).M key + n) then setM (D i).M key (cnt (D i).M key + n) else (D i).M) = M' at hadd
  generalize hL' : (if okC n && okC (cnt (D i).M key + n) then put (D i).L (rk key) (cnt (D i).M key + n) else (D i).L) = L' at haddr
  have hfin : LOk L' ∧ Same M' L' ∧ (∀ k ∈ L'.map (fun p => p.1), k.s ∈ key :: U) := by
    subst hM' hL'
    by_cases hok : (okC n && okC (cnt (D i).M key + n)) = true
    · rw [if_pos hok, if_pos hok]
      simp only [Bool.and_eq_true] at hok
      refine ⟨hd.l.put _ hok.2, ⟨fun k hk => ?_, fun x => ?_⟩, fun k hk => ?_⟩
      · rw [put_keys_perm] at hk
        split at hk
        · exact hd.s.txt k hk
        · rcases List.mem_append.1 hk with h1 | h1
          · exact hd.s.txt k h1
          · simp at h1; subst h1; rfl
      · rw [cnt_setM, cnt_put]
        by_cases hx : x = key
        · subst hx; simp
        · rw [if_neg hx, if_neg (fun e => hx (congrArg RKey.s e))]; exact hd.s.eq x
      · rw [put_keys_perm] at hk
        split at hk
        · exact List.mem_cons_of_mem _ (hd.u k hk)
        · rcases List.mem_append.1 hk with h1 | h1
          · exact List.mem_cons_of_mem _ (hd.u k h1)
          · simp at h1; subst h1; simp
    · rw [if_neg hok, if_neg hok]
      exact ⟨hd.l, hd.s, fun k hk => List.mem_cons_of_mem _ (hd.u k hk)⟩
  have H := Lib.hid h
  have HD := Lib.hid hd
  have HA := Lib.hid hadd
  have HAR := Lib.hid haddr
  have HF := Lib.hid hfin
  have HMF := Lib.hid hmf
  have HB := Lib.hid hB
  have F1 := Lib.hid (hmf _ f1)
  have F2 := Lib.hid (hmf _ f2)
  have F3 := Lib.hid (hmf _ hbx)
  clear h hd hadd haddr hfin hmf hcn hr hM' hL' hlt f1 f2 hbx hB
  have hu0 := Lib.hid ((Upd.refl [] w).alloc (.cells #[.int .i64 0, .int .i64 iv, .int .i64 jv, .string key.s, .int .i64 n] 34))
  have b3 := cell_new w #[.int .i64 0, .int .i64 iv, .int .i64 jv, .string key.s, .int .i64 n] 34 3 (v := .string key.s) rfl
  have b4 := cell_new w #[.int .i64 0, .int .i64 iv, .int .i64 jv, .string key.s, .int .i64 n] 34 4 (v := .int .i64 n) rfl
  have b0 := cell_new w #[.int .i64 0, .int .i64 iv, .int .i64 jv, .string key.s, .int .i64 n] 34 0 (v := .int .i64 0) rfl
  have d1 := hu0.out.cellS c1 (by simp)
  have d2 := hu0.out.cellS c2 (by simp)
  go_enter Try.func17, Try.ntmps17
  go_wp2_with fail
  generalize w.alloc (.cells #[.int .i64 0, .int .i64 iv, .int .i64 jv, .string key.s, .int .i64 n] 34) = wA at *
  go_region_held3 (fun w' => w'.cell? ⟨gt, i, none⟩ = some (.pointer (some ⟨(D i).tb, 0, none⟩)) ∧ w'.cell? ⟨gr, i, none⟩ = some (.pointer (some ⟨(D i).rb, 0, none⟩)) ∧ w'.cell? ⟨w.heap.size, 3, none⟩ = some (.string key.s) ∧ w'.cell? ⟨w.heap.size, 4, none⟩ = some (.int .i64 n)) (go_keep)
    (first
      | (go_at_call 36; refine (HA.out _ (HD.out.t.keep hu0.out.drew (by simp) (by simp))).mono ?_; rintro e w2 ⟨rfl, ht, hu2⟩; have e1 := hu2.cellS (show wA.drew.cell? _ = _ from d1) F1.out.1; have e2 := hu2.cellS (show wA.drew.cell? _ = _ from d2) F2.out.1; have e3 := hu2.cellS (show wA.drew.cell? _ = _ from b3) F3.out.1; have e4 := hu2.cellS (show wA.drew.cell? _ = _ from b4) F3.out.1; have HT := Lib.hid ht; have HU2 := Lib.hid hu2; clear ht hu2)
      | (go_at_call 78; refine (text_any key.s _).mono ?_; rintro e w3 ⟨rfl, hg3⟩; have g1 := hg3.upd.cellS e1 (by simp); have g2 := hg3.upd.cellS e2 (by simp); have g3 := hg3.upd.cellS e3 (by simp); have g4 := hg3.upd.cellS e4 (by simp); have HG3 := Lib.hid hg3; clear hg3)
      | (go_at_call 24; refine (HAR.out _ ((((HD.out.r.keep hu0.out.drew (by simp)).keep HU2.out (fun b hb _ hx => by simp at hx; subst hx; exact HD.out.apart.2 hb)).grew HG3.out))).mono ?_; rintro e w4 ⟨rfl, hst⟩; have HST := Lib.hid hst; obtain ⟨_, _, _, hu4⟩ := hst; have k1 := hu4.cellS g1 F1.out.2; have k2 := hu4.cellS g2 F2.out.2; have k3 := hu4.cellS g3 F3.out.2; have k4 := hu4.cellS g4 F3.out.2; clear hu4))
  go_wp2_with fail
  go_ret
  exact stepped_done H.out HB.out (fun x hx => List.mem_cons_of_mem _ hx) hi hu0.out.drew HT.out HU2.out HG3.out.upd HST.out HF.out.1 HF.out.2.1 HF.out.2.2
end
end Go.Proofs.Ytcdmdpgfadopcaa
