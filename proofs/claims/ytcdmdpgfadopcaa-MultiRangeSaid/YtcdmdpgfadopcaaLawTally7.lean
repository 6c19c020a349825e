/-
  sluicelaw04: step (Copy); step whole.
-/
import Derived.Test.YtcdmdpgfadopcaaLawTally6
namespace Go.Proofs.Ytcdmdpgfadopcaa
open Go.Slu Go.MapKept Go.RowKit Go.Sort

theorem sizeT (W : World) : (Go.sizeOf 25).run Try.prog W = .ok 1 W := size1 _ (by kernel_rfl) W
theorem sizeU (W : World) : (Go.sizeOf 27).run Try.prog W = .ok 1 W := size1 _ (by kernel_rfl) W

section
variable {B : Nat} {U : List Str} {gt ct gr cr : Nat} {D : Nat → Duo} {w : World}

theorem stepped_copy {V : List Str} {w2 w3 w4 w5 : World} {i j tb' mb' rb' : Nat} {F' : List Nat} (h : St B w U gt ct gr cr D) (hB : B ≤ w.heap.size) (hv : ∀ x ∈ U, x ∈ V) (hi : i < 3) (hj : j < 3)
    (hu2 : Upd [] w w2) (ht : TallyS w2 tb' mb' (gOf (D j).k) (D j).M) (h1 : w.heap.size ≤ tb') (h2 : w.heap.size ≤ mb') (hu3 : Upd [gt] w2 w3) (hts : OwnAt 25 1 eeP w3 (some ⟨gt, 0, none⟩) ct ([(D 0).tb, (D 1).tb, (D 2).tb].set i tb'))
    (hu4 : Upd [] w3 w4) (hr : RefF F' w4 rb' (D j).k (D j).L) (hF : ∀ b ∈ F', w3.heap.size ≤ b) (hu5 : Upd [gr] w4 w5) (hrs : OwnAt 27 1 eeP w5 (some ⟨gr, 0, none⟩) cr ([(D 0).rb, (D 1).rb, (D 2).rb].set i rb')) : Stepped B V gt ct gr cr D w (.returned (.bool true)) w5 := by
  have hlt := h.lt
  have hne := h.ne
  have s2 := hu2.size
  have s3 := hu3.size
  have s4 := hu4.size
  have hdj := h.ok j hj
  have htlt := ht.lt
  have hu : Upd [gt, gr] w w5 := (((Upd.refl _ w).then hu2 (by simp)).then hu3 (by simp)).then hu4 (by simp) |>.then hu5 (by simp)
  have hn : ∀ n, n < 3 → ∀ b ∈ (D n).foot, b ∉ [gt, gr] := fun n hn b hb hx => by
    simp at hx
    rcases hx with rfl | rfl
    · exact (h.fr n hn).1 hb
    · exact (h.fr n hn).2 hb
  have hdn : (Duo.mk tb' mb' F' rb' (D j).k (D j).M (D j).L).Ok w5 V :=
    ⟨((ht.keep hu3 (by simp; omega) (by simp; omega)).keep hu4 (by simp) (by simp)).keep hu5 (by simp; omega) (by simp; omega), hr.keep hu5 (fun b hb _ hx => by simp at hx; have := hF b hb; omega), hdj.l, hdj.s, hdj.k, fun k hk => hv _ (hdj.u k hk)⟩
  have hfn : ∀ b ∈ (Duo.mk tb' mb' F' rb' (D j).k (D j).M (D j).L).foot, w.heap.size ≤ b := fun b hb => by
    simp only [Duo.foot, List.mem_cons] at hb
    rcases hb with rfl | rfl | hb
    · exact h1
    · exact h2
    · have := hF b hb; omega
  refine ⟨rfl, fun n => if n = i then ⟨tb', mb', F', rb', (D j).k, (D j).M, (D j).L⟩ else D n, _, ⟨fun n hn3 => ?_, fun n m hn3 hm3 hnm b hb => ?_, ?_, ?_, fun n hn3 => ?_, h.lo.1, h.lo.2.1, fun n hn3 b hb => ?_⟩, fun b hb => ?_, hu⟩
  · by_cases e : n = i
    · simp only [e, if_true]; exact hdn
    · simp only [e, if_false]
      exact ((h.ok n hn3).mono hv).keep hu (hn n hn3)
  · by_cases e : n = i
    · subst e
      have e2 : m ≠ n := Ne.symm hnm
      simp only [if_true, e2, if_false] at hb ⊢
      intro hb2
      have := (h.ok m hm3).lt b hb2
      have := hfn b hb
      omega
    · simp only [e, if_false] at hb
      by_cases e2 : m = i
      · simp only [e2, if_true]
        intro hb2
        have := (h.ok n hn3).lt b hb
        have := hfn b hb2
        omega
      · simp only [e2, if_false]; exact h.dis n m hn3 hm3 hnm b hb
  · have e : [(if 0 = i then (⟨tb', mb', F', rb', (D j).k, (D j).M, (D j).L⟩ : Duo) else D 0).tb, (if 1 = i then (⟨tb', mb', F', rb', (D j).k, (D j).M, (D j).L⟩ : Duo) else D 1).tb, (if 2 = i then (⟨tb', mb', F', rb', (D j).k, (D j).M, (D j).L⟩ : Duo) else D 2).tb] = [(D 0).tb, (D 1).tb, (D 2).tb].set i tb' := by
      match i, hi with
      | 0, _ => rfl
      | 1, _ => rfl
      | 2, _ => rfl
    rw [e]
    exact (hts.keep hu4 (by simp)).keep hu5 (by simp [ablk]; exact hne)
  · have e : [(if 0 = i then (⟨tb', mb', F', rb', (D j).k, (D j).M, (D j).L⟩ : Duo) else D 0).rb, (if 1 = i then (⟨tb', mb', F', rb', (D j).k, (D j).M, (D j).L⟩ : Duo) else D 1).rb, (if 2 = i then (⟨tb', mb', F', rb', (D j).k, (D j).M, (D j).L⟩ : Duo) else D 2).rb] = [(D 0).rb, (D 1).rb, (D 2).rb].set i rb' := by
      match i, hi with
      | 0, _ => rfl
      | 1, _ => rfl
      | 2, _ => rfl
    rw [e]
    exact hrs
  · by_cases e : n = i
    · simp only [e, if_true]
      exact ⟨fun hb => by have := hfn _ hb; omega, fun hb => by have := hfn _ hb; omega⟩
    · simp only [e, if_false]; exact h.fr n hn3
  · by_cases e : n = i
    · simp only [e, if_true] at hb; have := hfn b hb; omega
    · simp only [e, if_false] at hb; exact h.lo.2.2 n hn3 b hb
  · simp at hb
    rcases hb with rfl | rfl
    · exact ⟨h.lo.1, .inl rfl⟩
    · exact ⟨h.lo.2.1, .inr (.inl rfl)⟩

set_option maxHeartbeats 1000000 in
set_option maxRecDepth 20000 in
theorem step_copy (h : St B w U gt ct gr cr D) (hB : B ≤ w.heap.size) (hU : U.length < 1000) (i j : Nat) (hi : i < 3) (hj : j < 3) (iv jv : Int) (key : Str) (n : Int) :
    Calls Try.prog 17 #[.slice (some ⟨gt, 0, none⟩) 3 ct, .slice (some ⟨gr, 0, none⟩) 3 cr, .agg #[.int .i64 2, .int .i64 iv, .int .i64 jv, .string key.s, .int .i64 n], .int .i64 i, .int .i64 j] w (Stepped B (key :: U) gt ct gr cr D w) := by
  have hd := h.ok j hj
  have c3 := h.tcell hj
  have c4 := h.rcell hj
  have hii : (i : Int) < 3 := by omega
  have hjj : (j : Int) < 3 := by omega
  have hll := hd.len.1
  have hne := h.ne
  obtain ⟨f1, f2⟩ := h.fr j hj
  have H := Lib.hid h
  have HD := Lib.hid hd
  have HB := Lib.hid hB
  have HNE := Lib.hid hne
  have HFR := Lib.hid (show gt ∉ (D j).F from fun hb => f1 (by simp [Duo.foot, hb]))
  have HT3 := Lib.hid (show [(D 0).tb, (D 1).tb, (D 2).tb].length = 3 from rfl)
  clear h hd hB hne f1 f2
  have hu0 := Lib.hid ((Upd.refl [] w).alloc (.cells #[.int .i64 2, .int .i64 iv, .int .i64 jv, .string key.s, .int .i64 n] 34))
  have b0 := cell_new w #[.int .i64 2, .int .i64 iv, .int .i64 jv, .string key.s, .int .i64 n] 34 0 (v := .int .i64 2) rfl
  have d3 := hu0.out.cellS c3 (by simp)
  have d4 := hu0.out.cellS c4 (by simp)
  have hsz := hu0.out.size
  have HSZ := Lib.hid hsz
  clear hsz
  go_enter Try.func17, Try.ntmps17
  go_wp2_with fail
  generalize w.alloc (.cells #[.int .i64 2, .int .i64 iv, .int .i64 jv, .string key.s, .int .i64 n] 34) = wA at *
  go_wp2_with (first
      | (go_at_call 35; refine (copyS _ _ _ _ _ (HD.out.t.keep hu0.out (by simp) (by simp))).mono ?_; rintro e w2 ⟨tb', mb', rfl, ht, hu2, hn1, hn2⟩; have HT := Lib.hid (And.intro ht (And.intro hn1 hn2)); have HU2 := Lib.hid hu2; have e4 := hu2.cellS d4 (by simp); have hts := (H.out.ts.keep hu0.out (by simp)).keep hu2 (by simp); obtain ⟨cur, hcur, _, _, hcs, _⟩ := hts.block; have hic : i < cur.size := (by have := hts.cap_le.1; simp at this; omega); have HTS := Lib.hid hts; have HCUR := Lib.hid hcur; clear ht hu2 hn1 hn2 hts hcur hcs)
      | (go_at_call 80; refine (copyR _ _ _ _ _ (((HD.out.r.keep hu0.out (by simp)).keep HU2.out (by simp)).keep HU3.out (fun b hb _ hx => by simp at hx; subst hx; exact HFR.out hb)) (by omega)).mono ?_; rintro e w4 ⟨rb', F', rfl, hr, hF, hu4⟩; have HR := Lib.hid (And.intro hr hF); have HU4 := Lib.hid hu4; have hrs := ((((H.out.rs.keep hu0.out (by simp)).keep HU2.out (by simp)).keep HU3.out (by simp [ablk]; exact fun e => HNE.out e.symm))).keep hu4 (by simp); obtain ⟨cur2, hcur2, _, _, hcs2, _⟩ := hrs.block; have hic2 : i < cur2.size := (by have := hrs.cap_le.1; simp at this; omega); have HRS := Lib.hid hrs; have HCUR2 := Lib.hid hcur2; clear hr hF hu4 hrs hcur2 hcs2)
      | (refine wpList_store1 (by rfl) _ _ (by rfl) sizeT HCUR.out (i := i) hic (by simp [Act.eval, Act.put]) (by simp [Act.eval, Act.put]; rfl) (by rfl) ?_; intro w3 hb3 hu3; have HU3 := Lib.hid hu3; have HB3 := Lib.hid hb3; have e5 := hu3.cellS e4 (by simp; exact fun e => HNE.out e.symm); clear hb3 hu3 hic)
      | (refine wpList_store1 (by rfl) _ _ (by rfl) sizeU HCUR2.out (i := i) hic2 (by simp [Act.eval, Act.put]) (by simp [Act.eval, Act.put]; rfl) (by rfl) ?_; intro w5 hb5 hu5; have HU5 := Lib.hid hu5; have HB5 := Lib.hid hb5; clear hb5 hu5))
  go_ret
  exact stepped_copy H.out HB.out (fun x hx => List.mem_cons_of_mem _ hx) hi hj (hu0.out.trans HU2.out) HT.out.1 (by have := HT.out.2.1; have := HSZ.out; omega) (by have := HT.out.2.2; have := HSZ.out; omega) HU3.out (HTS.out.setAt elemT.len rfl (by simpa using hi) HCUR.out HB3.out) HU4.out HR.out.1 HR.out.2 HU5.out (HRS.out.setAt elemU.len rfl (by simpa using hi) HCUR2.out HB5.out)

/-- 'step' -/
theorem step_any (h : St B w U gt ct gr cr D) (hB : B ≤ w.heap.size) (hU : U.length < 1000) (i j : Nat) (hi : i < 3) (hj : j < 3) (kd iv jv : Int) (key : Str) (n : Int) :
    Calls Try.prog 17 #[.slice (some ⟨gt, 0, none⟩) 3 ct, .slice (some ⟨gr, 0, none⟩) 3 cr, .agg #[.int .i64 kd, .int .i64 iv, .int .i64 jv, .string key.s, .int .i64 n], .int .i64 i, .int .i64 j] w (Stepped B (key :: U) gt ct gr cr D w) := by
  by_cases h0 : kd = 0
  · subst h0; exact step_add h hB hU i j hi iv jv key n
  by_cases h1 : kd = 1
  · subst h1; exact step_join h hB hU i j hi hj iv jv key n
  by_cases h2 : kd = 2
  · subst h2; exact step_copy h hB hU i j hi hj iv jv key n
  by_cases h3 : kd = 3
  · subst h3; exact step_clear h hB i j hi iv jv key n
  by_cases h4 : kd = 4
  · subst h4; exact step_none h i j hi iv jv key n
  exact step_other h i j kd iv jv h0 h1 h2 h3 h4 key n
end
end Go.Proofs.Ytcdmdpgfadopcaa
