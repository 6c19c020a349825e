/-
  sluicelaw14: filled, sameChanges.
-/
import Derived.Test.YtcdmdpgfadopcaaLedger3
import Derived.Test.YtcdmdpgfadopcaaLawTally12
namespace Go.Proofs.Ytcdmdpgfadopcaa
open Go.Slu Go.MapKept Go.RowKit Go.Sort

/-- a step as it comes in -/
structure OpL where
  kd : Int
  iv : Int
  s : StampK
abbrev eeOL (o : OpL) : List Value := [.int .i64 o.kd, .int .i64 o.iv, .int .i64 o.s.n, .int .u64 o.s.t.a, .int .u64 o.s.t.b, .int .u64 o.s.t.c]
theorem infoOL : (Try.prog.info? 90).map (fun i => (i.zero, i.size, i.bytes)) = some (some (.agg #[.int .i64 0, .int .i64 0, .int .i64 0, .int .u64 0, .int .u64 0, .int .u64 0]), 6, 48) := by kernel_rfl
theorem elemOL : Elem Try.prog 83 90 6 48 eeOL where
  ht := Try.underlying83
  info := by obtain ⟨i, h1, h2, h3, h4⟩ := info_parts infoOL; exact ⟨i, _, h1, h2, h3, h4, rfl⟩
  pos := by omega
  len _ := rfl
  one _ u hu := by simp [eeOL] at hu; rcases hu with rfl | rfl | rfl | rfl | rfl | rfl <;> rfl
/-- what a step writes -/
def sgL (o : OpL) : Int := if o.kd.tmod 2 = 0 then 1 else -1
def prL (o : OpL) : StampK × Int := (o.s, sgL o)
theorem prL_in (l : List OpL) : ∀ p ∈ l.map prL, -1 ≤ p.2 ∧ p.2 ≤ 1 := fun p hp => by
  obtain ⟨o, _, rfl⟩ := List.mem_map.1 hp
  simp only [prL, sgL]
  split <;> omega
theorem totL_in {P : List (StampK × Int)} (h : ∀ p ∈ P, -1 ≤ p.2 ∧ p.2 ≤ 1) (x : StampK) : -(P.length : Int) ≤ tot P x ∧ tot P x ≤ P.length := by
  have := tot_bound (b := 1) h (by omega) x
  omega

section
variable {w : World} {lb tb mb : Nat} {M : List (StampK × Int)}
def AddedL (lb tb mb : Nat) (M : List (StampK × Int)) (x : StampK) (n : Int) (w : World) (e : Ending) (w' : World) : Prop :=
  ∃ M', e = .returned (.int .i64 0) ∧ LedAt w' lb tb mb M' ∧ (∀ y, cnt M' y = cnt M y + if x = y then n else 0) ∧ M'.length ≤ M.length + 1 ∧ Upd [mb] w w'
theorem addedL {x : StampK} {n : Int} (hn : n = 1 ∨ n = -1) (hb : -1000000 ≤ cnt M x ∧ cnt M x ≤ 1000000) {e : Ending} {w' : World} (h : WroteL lb tb mb M x n w e w') : AddedL lb tb mb M x n w e w' := by
  have h1 : okC n = true := okC_in (by omega) (by omega)
  have h2 : okC (cnt M x + n) = true := by unfold okC; exact decide_eq_true (by omega)
  obtain ⟨rfl, ht, hu⟩ := h
  rw [h1, h2] at ht
  refine ⟨_, by rw [h1, h2]; rfl, ht, fun y => ?_, ?_, hu⟩
  · simp only [Bool.and_self, if_true, cnt_setM]
    by_cases e : y = x
    · subst e; rw [if_pos rfl, if_pos rfl]
    · rw [if_neg e, if_neg (fun h => e h.symm)]; omega
  · simp only [Bool.and_self, if_true]
    unfold setM
    split
    · have := List.length_filter_le (fun p : StampK × Int => decide (p.1 ≠ x)) M
      unfold del; omega
    · have := congrArg List.length (put_keys_perm M x (cnt M x + n))
      simp only [List.length_map] at this
      rw [this]
      split <;> simp
theorem makeL (h : LedAt w lb tb mb M) (x : StampK) (hb : -1000000 ≤ cnt M x ∧ cnt M x ≤ 1000000) :
    Calls Try.prog 50 #[.pointer (some ⟨lb, 0, none⟩), ekM x] w (AddedL lb tb mb M x 1 w) := (lMake h x).mono fun _ _ h => addedL (.inl rfl) hb h
theorem useL (h : LedAt w lb tb mb M) (x : StampK) (hb : -1000000 ≤ cnt M x ∧ cnt M x ≤ 1000000) :
    Calls Try.prog 49 #[.pointer (some ⟨lb, 0, none⟩), ekM x] w (AddedL lb tb mb M x (-1) w) := (lUse h x).mono fun _ _ h => addedL (.inr rfl) hb h
end

/-- what filled makes -/
def FilledL (P : List (StampK × Int)) (w : World) (e : Ending) (w' : World) : Prop :=
  ∃ lb tb mb M, e = .returned (.pointer (some ⟨lb, 0, none⟩)) ∧ LedAt w' lb tb mb M ∧ (∀ x, cnt M x = tot P x) ∧ M.length ≤ 300 ∧ w.heap.size ≤ lb ∧ w.heap.size ≤ tb ∧ w.heap.size ≤ mb ∧ Upd [] w w'

set_option maxHeartbeats 2000000 in
set_option maxRecDepth 20000 in
theorem filledL (w : World) (aa : Option Addr) (xs : List OpL) (ca : Nat) (back : Bool) (hrd : Rd 6 eeOL w aa xs) (hxl : xs.length ≤ ca) :
    Calls Try.prog 44 #[.slice aa xs.length ca, .bool back] w (FilledL ((xs.take 300).map prL) w) := by
  have HRD := Lib.hid hrd
  clear hrd
  have hn := Lib.hid (lNew w)
  go_enter Try.func44, Try.ntmps44
  go_upto_if 11 with (go_at_call 52; refine hn.out.mono ?_; rintro e w1 ⟨lb, tb, mb, rfl, ht, h1, h2, h3, hu⟩; have HT := Lib.hid ht; have HB := Lib.hid (And.intro h1 (And.intro h2 h3)); have HU := Lib.hid hu; clear ht h1 h2 h3 hu)
  go_cut [0] (fun v0 wx => ∃ c', v0 = .slice aa (xs.take 300).length c' ∧ wx = w1)
  case first =>
    by_cases h60 : 300 < xs.length
    · have h6 : (300 : Int) < xs.length := by omega
      go_wp2_with (refine wpList_slice_to rfl _ _ 83 rfl elemOL (aa := aa) (n := xs.length) (c := ca) (j := 300) (kh := .i64) rfl rfl (by omega) ?_)
      go_meet
      exact ⟨ca, by rw [List.length_take, Nat.min_eq_left (by omega)], rfl⟩
    · have h6 : ¬ (300 : Int) < xs.length := by omega
      go_wp2_with fail
      go_meet
      exact ⟨ca, by rw [List.take_of_length_le (by omega)], rfl⟩
  case rest =>
    obtain ⟨c', rfl, rfl⟩ := hcut
    have HR := Lib.hid (HRD.out.take 300)
    have hyl : (xs.take 300).length ≤ 300 := by simp; omega
    clear HRD hxl hn
    generalize hys : xs.take 300 = ys at HR hyl ⊢
    have HY := Lib.hid hys
    clear hys
    go_wp2_with fail
    go_loopg [6, 7, 16] ys.length (fun m v6 v7 v16 wz => ∃ (i : Nat) (M : List (StampK × Int)), m + i = ys.length ∧ v16 = .int .i64 i ∧ LedAt wz lb tb mb M ∧ (∀ x, cnt M x = tot ((if back then (ys.map prL).reverse else ys.map prL).take i) x) ∧ M.length ≤ i ∧ Upd [] w wz)
    case atStart => exact ⟨0, [], rfl, rfl, HT.out, fun x => rfl, by simp, HU.out⟩
    case round =>
      obtain ⟨i, M, hm, rfl, ht, hc, hml, hu⟩ := hrel
      clear HT HU
      have HT := Lib.hid ht
      have HC := Lib.hid hc
      have HM := Lib.hid hm
      have HU := Lib.hid hu
      clear hm ht hu hc
      by_cases hi : i < ys.length
      · have hii : (i : Int) < ys.length := by omega
        obtain ⟨o, ho⟩ : ∃ o, ys[i]? = some o := ⟨ys[i], List.getElem?_eq_getElem hi⟩
        obtain ⟨p, hp⟩ : ∃ p, ys[ys.length - 1 - i]? = some p := ⟨ys[ys.length - 1 - i]'(by omega), List.getElem?_eq_getElem _⟩
        have hpr : ys.reverse[i]? = some p := by rw [List.getElem?_reverse hi]; exact hp
        have hbnd := Lib.hid (fun x => show -1000000 ≤ cnt M x ∧ cnt M x ≤ 1000000 from by
          rw [HC.out x]
          have hin : ∀ q ∈ (if back = true then (ys.map prL).reverse else ys.map prL).take i, -1 ≤ q.2 ∧ q.2 ≤ 1 := fun q hq => by
            have := List.mem_of_mem_take hq
            cases back
            · exact prL_in ys q (by simpa using this)
            · exact prL_in ys q (by simpa using this)
          have := totL_in hin x
          have hlen : ((if back = true then (ys.map prL).reverse else ys.map prL).take i).length ≤ i := by rw [List.length_take]; omega
          omega)
        obtain ⟨b, off, rfl, hc⟩ := HR.out i o ho
        have y0 := HU.out.cellS (hc 0 _ rfl) (by simp)
        have y1 := HU.out.cellS (hc 1 _ rfl) (by simp)
        have y2 := HU.out.cellS (hc 2 _ rfl) (by simp)
        have y3 := HU.out.cellS (hc 3 _ rfl) (by simp)
        have y4 := HU.out.cellS (hc 4 _ rfl) (by simp)
        have y5 := HU.out.cellS (hc 5 _ rfl) (by simp)
        clear hc
        obtain ⟨b', off', hbe, hc⟩ := HR.out _ p hp
        cases hbe
        have hA0 := (Upd.refl [] wr).alloc (.cells #[.int .i64 o.kd, .int .i64 o.iv, .int .i64 o.s.n, .int .u64 o.s.t.a, .int .u64 o.s.t.b, .int .u64 o.s.t.c] 90)
        have x0 := hA0.cellS (HU.out.cellS (hc 0 _ rfl) (by simp)) (by simp)
        have x1 := hA0.cellS (HU.out.cellS (hc 1 _ rfl) (by simp)) (by simp)
        have x2 := hA0.cellS (HU.out.cellS (hc 2 _ rfl) (by simp)) (by simp)
        have x3 := hA0.cellS (HU.out.cellS (hc 3 _ rfl) (by simp)) (by simp)
        have x4 := hA0.cellS (HU.out.cellS (hc 4 _ rfl) (by simp)) (by simp)
        have x5 := hA0.cellS (HU.out.cellS (hc 5 _ rfl) (by simp)) (by simp)
        clear hc hA0
        simp only [Nat.add_zero] at y0 x0
        have HO := Lib.hid ho
        have HP := Lib.hid hpr
        clear ho hp hpr
        have hix : (ys.length : Int) - 1 - i = ((ys.length - 1 - i : Nat) : Int) := by omega
        cases back
        · -- from the front
          have hA := (Upd.refl [] wr).alloc (.cells #[.int .i64 o.kd, .int .i64 o.iv, .int .i64 o.s.n, .int .u64 o.s.t.a, .int .u64 o.s.t.b, .int .u64 o.s.t.c] 90)
          have z0 := cell_new wr #[.int .i64 o.kd, .int .i64 o.iv, .int .i64 o.s.n, .int .u64 o.s.t.a, .int .u64 o.s.t.b, .int .u64 o.s.t.c] 90 0 (v := .int .i64 o.kd) rfl
          have z2 := cell_new wr #[.int .i64 o.kd, .int .i64 o.iv, .int .i64 o.s.n, .int .u64 o.s.t.a, .int .u64 o.s.t.b, .int .u64 o.s.t.c] 90 2 (v := .int .i64 o.s.n) rfl
          have z3 := cell_new wr #[.int .i64 o.kd, .int .i64 o.iv, .int .i64 o.s.n, .int .u64 o.s.t.a, .int .u64 o.s.t.b, .int .u64 o.s.t.c] 90 3 (v := .int .u64 o.s.t.a) rfl
          have z4 := cell_new wr #[.int .i64 o.kd, .int .i64 o.iv, .int .i64 o.s.n, .int .u64 o.s.t.a, .int .u64 o.s.t.b, .int .u64 o.s.t.c] 90 4 (v := .int .u64 o.s.t.b) rfl
          have z5 := cell_new wr #[.int .i64 o.kd, .int .i64 o.iv, .int .i64 o.s.n, .int .u64 o.s.t.a, .int .u64 o.s.t.b, .int .u64 o.s.t.c] 90 5 (v := .int .u64 o.s.t.c) rfl
          go_upto_region 10 with fail
          generalize wr.alloc (.cells #[.int .i64 o.kd, .int .i64 o.iv, .int .i64 o.s.n, .int .u64 o.s.t.a, .int .u64 o.s.t.b, .int .u64 o.s.t.c] 90) = wA at *
          have HT2 := Lib.hid (HT.out.keep hA (by simp) (by simp) (by simp))
          have HU2 := Lib.hid (HU.out.trans hA)
          clear hA HT HU x0 x1 x2 x3 x4 x5 y0 y1 y2 y3 y4 y5 hix
          by_cases hk : o.kd.tmod 2 = 0
          · have hkb : (o.kd.tmod 2 == 0) = true := by simpa using hk
            have HK := Lib.hid hk
            clear hk
            go_wp2_with (go_at_call 50; refine (makeL HT2.out o.s (hbnd.out _)).mono ?_; rintro e w6 ⟨M', rfl, ht6, hc6, hl6, hu6⟩; have HT6 := Lib.hid ht6; have HC6 := Lib.hid hc6; have HU6 := Lib.hid hu6; clear ht6 hc6 hu6)
            go_roundg (ys.length - (i + 1))
            case measure => have := HM.out; omega
            case rel =>
              refine ⟨i + 1, M', by have := HM.out; omega, rfl, HT6.out, fun x => ?_, by omega, HU2.out.then HU6.out (fun b hb hlt => by simp at hb; have := HB.out; omega)⟩
              have ht := tot_take (l := ys.map prL) (i := i) (p := prL o) (by simp [HO.out]) x
              have hc := HC.out x
              have h6 := HC6.out x
              have hsg : sgL o = 1 := by unfold sgL; rw [if_pos HK.out]
              simp only [Bool.false_eq_true, if_false] at hc ⊢
              rw [ht, h6, hc]
              simp only [prL, hsg]
          · have hkb : (o.kd.tmod 2 == 0) = false := by simpa using hk
            have HK := Lib.hid hk
            clear hk
            go_wp2_with (go_at_call 49; refine (useL HT2.out o.s (hbnd.out _)).mono ?_; rintro e w6 ⟨M', rfl, ht6, hc6, hl6, hu6⟩; have HT6 := Lib.hid ht6; have HC6 := Lib.hid hc6; have HU6 := Lib.hid hu6; clear ht6 hc6 hu6)
            go_roundg (ys.length - (i + 1))
            case measure => have := HM.out; omega
            case rel =>
              refine ⟨i + 1, M', by have := HM.out; omega, rfl, HT6.out, fun x => ?_, by omega, HU2.out.then HU6.out (fun b hb hlt => by simp at hb; have := HB.out; omega)⟩
              have ht := tot_take (l := ys.map prL) (i := i) (p := prL o) (by simp [HO.out]) x
              have hc := HC.out x
              have h6 := HC6.out x
              have hsg : sgL o = -1 := by unfold sgL; rw [if_neg HK.out]
              simp only [Bool.false_eq_true, if_false] at hc ⊢
              rw [ht, h6, hc]
              simp only [prL, hsg]
        · -- from the end
          have hA := (Upd.refl [] wr).alloc (.cells #[.int .i64 p.kd, .int .i64 p.iv, .int .i64 p.s.n, .int .u64 p.s.t.a, .int .u64 p.s.t.b, .int .u64 p.s.t.c] 90)
          have z0 := cell_new wr #[.int .i64 p.kd, .int .i64 p.iv, .int .i64 p.s.n, .int .u64 p.s.t.a, .int .u64 p.s.t.b, .int .u64 p.s.t.c] 90 0 (v := .int .i64 p.kd) rfl
          have z2 := cell_new wr #[.int .i64 p.kd, .int .i64 p.iv, .int .i64 p.s.n, .int .u64 p.s.t.a, .int .u64 p.s.t.b, .int .u64 p.s.t.c] 90 2 (v := .int .i64 p.s.n) rfl
          have z3 := cell_new wr #[.int .i64 p.kd, .int .i64 p.iv, .int .i64 p.s.n, .int .u64 p.s.t.a, .int .u64 p.s.t.b, .int .u64 p.s.t.c] 90 3 (v := .int .u64 p.s.t.a) rfl
          have z4 := cell_new wr #[.int .i64 p.kd, .int .i64 p.iv, .int .i64 p.s.n, .int .u64 p.s.t.a, .int .u64 p.s.t.b, .int .u64 p.s.t.c] 90 4 (v := .int .u64 p.s.t.b) rfl
          have z5 := cell_new wr #[.int .i64 p.kd, .int .i64 p.iv, .int .i64 p.s.n, .int .u64 p.s.t.a, .int .u64 p.s.t.b, .int .u64 p.s.t.c] 90 5 (v := .int .u64 p.s.t.c) rfl
          go_upto_region 10 with fail
          generalize wr.alloc (.cells #[.int .i64 p.kd, .int .i64 p.iv, .int .i64 p.s.n, .int .u64 p.s.t.a, .int .u64 p.s.t.b, .int .u64 p.s.t.c] 90) = wA at *
          have HT2 := Lib.hid (HT.out.keep hA (by simp) (by simp) (by simp))
          have HU2 := Lib.hid (HU.out.trans hA)
          clear hA HT HU x0 x1 x2 x3 x4 x5 y0 y1 y2 y3 y4 y5 hix
          by_cases hk : p.kd.tmod 2 = 0
          · have hkb : (p.kd.tmod 2 == 0) = true := by simpa using hk
            have HK := Lib.hid hk
            clear hk
            go_wp2_with (go_at_call 50; refine (makeL HT2.out p.s (hbnd.out _)).mono ?_; rintro e w6 ⟨M', rfl, ht6, hc6, hl6, hu6⟩; have HT6 := Lib.hid ht6; have HC6 := Lib.hid hc6; have HU6 := Lib.hid hu6; clear ht6 hc6 hu6)
            go_roundg (ys.length - (i + 1))
            case measure => have := HM.out; omega
            case rel =>
              refine ⟨i + 1, M', by have := HM.out; omega, rfl, HT6.out, fun x => ?_, by omega, HU2.out.then HU6.out (fun b hb hlt => by simp at hb; have := HB.out; omega)⟩
              have ht := tot_take (l := (ys.map prL).reverse) (i := i) (p := prL p) (by rw [← List.map_reverse, List.getElem?_map, HP.out]; rfl) x
              have hc := HC.out x
              have h6 := HC6.out x
              have hsg : sgL p = 1 := by unfold sgL; rw [if_pos HK.out]
              simp only [if_true] at hc ⊢
              rw [ht, h6, hc]
              simp only [prL, hsg]
          · have hkb : (p.kd.tmod 2 == 0) = false := by simpa using hk
            have HK := Lib.hid hk
            clear hk
            go_wp2_with (go_at_call 49; refine (useL HT2.out p.s (hbnd.out _)).mono ?_; rintro e w6 ⟨M', rfl, ht6, hc6, hl6, hu6⟩; have HT6 := Lib.hid ht6; have HC6 := Lib.hid hc6; have HU6 := Lib.hid hu6; clear ht6 hc6 hu6)
            go_roundg (ys.length - (i + 1))
            case measure => have := HM.out; omega
            case rel =>
              refine ⟨i + 1, M', by have := HM.out; omega, rfl, HT6.out, fun x => ?_, by omega, HU2.out.then HU6.out (fun b hb hlt => by simp at hb; have := HB.out; omega)⟩
              have ht := tot_take (l := (ys.map prL).reverse) (i := i) (p := prL p) (by rw [← List.map_reverse, List.getElem?_map, HP.out]; rfl) x
              have hc := HC.out x
              have h6 := HC6.out x
              have hsg : sgL p = -1 := by unfold sgL; rw [if_neg HK.out]
              simp only [if_true] at hc ⊢
              rw [ht, h6, hc]
              simp only [prL, hsg]
      · have hii : ¬ (i : Int) < ys.length := by omega
        obtain rfl : i = ys.length := by have := HM.out; omega
        go_wp2_with fail
        go_ret
        refine ⟨lb, tb, mb, M, rfl, HT.out, fun x => ?_, by omega, HB.out.1, HB.out.2.1, HB.out.2.2, HU.out⟩
        rw [HC.out x, ← HY.out, List.map_take]
        rw [← List.map_take, HY.out]
        cases back
        · rw [if_neg (by simp), List.take_of_length_le (by simp)]
        · rw [if_pos rfl, List.take_of_length_le (by simp), tot_reverse]
end Go.Proofs.Ytcdmdpgfadopcaa
