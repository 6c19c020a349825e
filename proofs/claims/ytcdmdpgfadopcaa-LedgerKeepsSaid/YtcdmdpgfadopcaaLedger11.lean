/-
  sluicelaw14: LedgerKeeps, the walk.
-/
import Derived.Test.YtcdmdpgfadopcaaLedger10
import Derived.Test.YtcdmdpgfadopcaaLedger9
namespace Go.Proofs.Ytcdmdpgfadopcaa
open Go.Slu Go.MapKept Go.RowKit Go.Sort

/-- what writing leaves, whatever the sums -/
def AnyL (lb tb mb : Nat) (M : List (StampK × Int)) (w : World) (e : Ending) (w' : World) : Prop :=
  ∃ r M', e = .returned (.int .i64 r) ∧ LedAt w' lb tb mb M' ∧ M'.length ≤ M.length + 1 ∧ Upd [mb] w w'
theorem anyL {lb tb mb : Nat} {M : List (StampK × Int)} {x : StampK} {n : Int} {w : World} {e : Ending} {w' : World} (h : WroteL lb tb mb M x n w e w') : AnyL lb tb mb M w e w' := by
  obtain ⟨rfl, ht, hu⟩ := h
  refine ⟨_, _, rfl, ht, ?_, hu⟩
  split
  · unfold setM
    split
    · have := List.length_filter_le (fun p : StampK × Int => decide (p.1 ≠ x)) M
      unfold del; omega
    · have := congrArg List.length (put_keys_perm M x (cnt M x + n))
      simp only [List.length_map] at this
      rw [this]
      split <;> simp
  · omega
theorem makeA {w : World} {lb tb mb : Nat} {M : List (StampK × Int)} (h : LedAt w lb tb mb M) (x : StampK) :
    Calls Try.prog 50 #[.pointer (some ⟨lb, 0, none⟩), ekM x] w (AnyL lb tb mb M w) := (lMake h x).mono fun _ _ h => anyL h
theorem useA {w : World} {lb tb mb : Nat} {M : List (StampK × Int)} (h : LedAt w lb tb mb M) (x : StampK) :
    Calls Try.prog 49 #[.pointer (some ⟨lb, 0, none⟩), ekM x] w (AnyL lb tb mb M w) := (lUse h x).mono fun _ _ h => anyL h
abbrev rLC (a : Option Addr) (c : Nat) (l : List Sl) : Res := rOwn 87 1 eeL a c l
abbrev rLS (a : Option Addr) (c : Nat) (l : List Sl) : Res := rOwn 68 1 eeL a c l

set_option maxHeartbeats 4000000 in
set_option maxRecDepth 20000 in
theorem keeps14_any (w : World) (aa : Option Addr) (xs : List OpL) (ca : Nat) (hrd : Rd 6 eeOL w aa xs) (hxl : xs.length ≤ ca) (ba : Option Addr) (ys : List OpL) (cb : Nat) (hrd2 : Rd 6 eeOL w ba ys) (hyl : ys.length ≤ maxLen) :
    Calls Try.prog 9 #[.slice aa xs.length ca, .slice ba ys.length cb] w fun e w' => e = .returned (.bool true) ∧ Below w.heap.size w w' := by
  have hf := Lib.hid (filledL w aa xs ca false hrd hxl)
  have HRD := Lib.hid hrd2
  have hyl' : (ys.length : Int) ≤ 9223372036854775807 := by simp only [maxLen] at hyl; omega
  clear hrd hxl hrd2 hyl
  go_enter Try.func9, Try.ntmps9
  go_upto_region 7 with (first
    | (go_at_call 44; refine hf.out.mono ?_; rintro e w1 ⟨lb, tb, mb, M, rfl, ht, _, hml, h1, h2, h3, hu⟩; have B1 := Lib.hid ((Bag.start w).push (r := rLed lb tb mb M) hu ht (rLed_ge h1 h2 h3)); clear ht h1 h2 h3 hu)
    | (go_at_call 43; refine (known14_any _).mono ?_; rintro e w2 ⟨rfl, hu2⟩; have B2 := Lib.hid (B1.out.step0 hu2); clear hu2 B1)
    | (go_at_call 55; refine (lCopy (B2.out.get 0 rfl)).mono ?_; rintro e w3 ⟨lb2, tb2, mb2, rfl, ht, h1, h2, h3, hu⟩; have B3 := Lib.hid (B2.out.push (r := rLed lb2 tb2 mb2 M) hu ht (rLed_ge h1 h2 h3)); clear ht h1 h2 h3 hu B2))
  clear hf
  obtain ⟨K, hK0⟩ := keyL_ex M
  have hkl : K.length ≤ 300 := by rw [hK0.len]; exact hml
  have hK := Lib.hid hK0
  clear hK0
  go_upto_region 8 with (first
    | (go_at_call_of 46 (Value.pointer (some ⟨lb2, 0, none⟩)); refine (lChangesK (B4.out.get 1 rfl) hK.out (by omega)).mono ?_; rintro e w5 ⟨a2, c2, rfl, ho, hf, hu⟩; have B5 := Lib.hid (B4.out.push (r := rCh a2 c2 M K) hu ho hf); clear ho hf hu B4)
    | (go_at_call_of 46 (Value.pointer (some ⟨lb, 0, none⟩)); have _q := B5; refine (lChangesK (B5.out.get 3 rfl) hK.out (by omega)).mono ?_; rintro e w6 ⟨a3, c3, rfl, ho, hf, hu⟩; have B6 := Lib.hid (B5.out.push (r := rCh a3 c3 M K) hu ho hf); clear ho hf hu B5)
    | (go_at_call_of 46 (Value.pointer (some ⟨lb, 0, none⟩)); have _q := B3; refine (lChangesK (B3.out.get 1 rfl) hK.out (by omega)).mono ?_; rintro e w4 ⟨a1, c1, rfl, ho, hf, hu⟩; have B4 := Lib.hid (B3.out.push (r := rCh a1 c1 M K) hu ho hf); clear ho hf hu B3)
    | (at_builtin; refine wpList_append_rep rfl _ _ 102 rfl elemLC (xs := []) (ys := [⟨a1, K.length, c1⟩, ⟨a2, K.length, c2⟩, ⟨a3, K.length, c3⟩]) (aa := none) (c := 0) (c2 := 3) (OwnAt.nil _ _ _ _) ((OwnAt.lit (e := 87) elemLC.len w6 [⟨a1, K.length, c1⟩, ⟨a2, K.length, c2⟩, ⟨a3, K.length, c3⟩] (by simp [maxLen]) #[.slice a1 K.length c1, .slice a2 K.length c2, .slice a3 K.length c3] rfl).rd elemLC.len) (by simp [Act.eval]) (by simp [Act.eval]) (by simp [maxLen]) (by simp) ?_; intro aC cC w7 ho hu hor _; have B7 : Hid (Bag w w7 [rLC aC cC [⟨a1, K.length, c1⟩, ⟨a2, K.length, c2⟩, ⟨a3, K.length, c3⟩], rCh a3 c3 M K, rCh a2 c2 M K, rCh a1 c1 M K, rLed lb2 tb2 mb2 M, rLed lb tb mb M]) := Lib.hid (B6.out.fresh ((Upd.refl [] w6).alloc _) (by simp [ablk]) ho hu hor); clear ho hu hor B6))
  go_upto_region 9 with (first
    | (go_at_call_of 47 (Value.pointer (some ⟨lb2, 0, none⟩)); refine (lKeysK (B8.out.get 5 rfl) hK.out (by omega)).mono ?_; rintro e w9 ⟨b2, d2, rfl, ho, hf, hu⟩; have B9 := Lib.hid (B8.out.push (r := rSt b2 d2 K) hu ho hf); clear ho hf hu B8)
    | (go_at_call_of 47 (Value.pointer (some ⟨lb, 0, none⟩)); have _q := B9; refine (lKeysK (B9.out.get 7 rfl) hK.out (by omega)).mono ?_; rintro e w10 ⟨b3, d3, rfl, ho, hf, hu⟩; have B10 := Lib.hid (B9.out.push (r := rSt b3 d3 K) hu ho hf); clear ho hf hu B9)
    | (go_at_call_of 47 (Value.pointer (some ⟨lb, 0, none⟩)); have _q := B7; refine (lKeysK (B7.out.get 5 rfl) hK.out (by omega)).mono ?_; rintro e w8 ⟨b1, d1, rfl, ho, hf, hu⟩; have B8 := Lib.hid (B7.out.push (r := rSt b1 d1 K) hu ho hf); clear ho hf hu B7)
    | (at_builtin; refine wpList_append_rep rfl _ _ 103 rfl elemLS (xs := []) (ys := [⟨b1, K.length, d1⟩, ⟨b2, K.length, d2⟩, ⟨b3, K.length, d3⟩]) (aa := none) (c := 0) (c2 := 3) (OwnAt.nil _ _ _ _) ((OwnAt.lit (e := 68) elemLS.len w10 [⟨b1, K.length, d1⟩, ⟨b2, K.length, d2⟩, ⟨b3, K.length, d3⟩] (by simp [maxLen]) #[.slice b1 K.length d1, .slice b2 K.length d2, .slice b3 K.length d3] rfl).rd elemLS.len) (by simp [Act.eval]) (by simp [Act.eval]) (by simp [maxLen]) (by simp) ?_; intro aS cS w11 ho hu hor _; have B11 : Hid (Bag w w11 [rLS aS cS [⟨b1, K.length, d1⟩, ⟨b2, K.length, d2⟩, ⟨b3, K.length, d3⟩], rSt b3 d3 K, rSt b2 d2 K, rSt b1 d1 K, rLC aC cC [⟨a1, K.length, c1⟩, ⟨a2, K.length, c2⟩, ⟨a3, K.length, c3⟩], rCh a3 c3 M K, rCh a2 c2 M K, rCh a1 c1 M K, rLed lb2 tb2 mb2 M, rLed lb tb mb M]) := Lib.hid (B10.out.fresh ((Upd.refl [] w10).alloc _) (by simp [ablk]) ho hu hor); clear ho hu hor B10))
  -- want
  have hA := (Upd.refl [] w11).alloc (.cells #[] 105)
  obtain ⟨gC, oC, rfl, hc⟩ := (OwnAt.rd elemLC.len (B11.out.get 4 rfl)) 0 _ rfl
  have y0 := hA.cellS (hc 0 _ rfl) (by simp)
  simp only [Nat.zero_mul, Nat.add_zero] at y0
  have RW := Lib.hid ((OwnAt.rd elemCh.len (B11.out.get 7 rfl)).keep' elemCh hA (by simp))
  have hcl : (chg M K).length = K.length := by simp
  clear hc hA
  go_upto_region 10 with (at_builtin; refine wpList_append_rep rfl _ _ 87 rfl elemCh (xs := []) (ys := chg M K) (aa := some ⟨w11.heap.size, 0, none⟩) (c := 0) (c2 := c1) (OwnAt.lit (e := 105) elemCh.len w11 [] (by simp [maxLen]) #[] rfl) RW.out (by simp [Act.eval]) (by simp [Act.eval, hcl]) (by simp [maxLen]; omega) (by simp; omega) ?_; intro aW cW w12 ho hu hor _; have B12 := Lib.hid (B11.out.fresh ((Upd.refl [] w11).alloc _) (by simp [ablk]) ho hu hor); clear ho hu hor B11)
  clear y0 RW
  obtain ⟨R, hR⟩ : ∃ R : List Res, R = [rCh aW cW M K, rLS aS cS [⟨b1, K.length, d1⟩, ⟨b2, K.length, d2⟩, ⟨b3, K.length, d3⟩], rSt b3 d3 K, rSt b2 d2 K, rSt b1 d1 K, rLC (some ⟨gC, oC, none⟩) cC [⟨a1, K.length, c1⟩, ⟨a2, K.length, c2⟩, ⟨a3, K.length, c3⟩], rCh a3 c3 M K, rCh a2 c2 M K, rCh a1 c1 M K, rLed lb tb mb M] := ⟨_, rfl⟩
  have B13 : Hid (Bag w w12 (rLed lb2 tb2 mb2 M :: R)) := Lib.hid (hR ▸ B12.out.pick 9 rfl)
  have HR := Lib.hid hR
  clear B12 hR
  go_wp2_with fail
  go_loopg [10, 11, 50] ys.length (fun m v10 v11 v50 wz => ∃ (i : Nat) (M2 : List (StampK × Int)), m + i = ys.length ∧ v50 = .int .i64 i ∧ M2.length ≤ 300 + i ∧ M2.length ≤ 600 ∧ Bag w wz (rLed lb2 tb2 mb2 M2 :: R))
  case atStart => exact ⟨0, M, rfl, rfl, by omega, by omega, B13.out⟩
  case round =>
    obtain ⟨i, M2, hm, rfl, hl1, hl2, hb⟩ := hrel
    have HM := Lib.hid hm
    have HB := Lib.hid hb
    clear hm hb B13
    by_cases hi : i < ys.length
    · have hii : (i : Int) < ys.length := by omega
      obtain ⟨o, ho⟩ : ∃ o, ys[i]? = some o := ⟨ys[i], List.getElem?_eq_getElem hi⟩
      obtain ⟨b', off, rfl, hc⟩ := (HB.out.rd HRD.out) i o ho
      have y0 := hc 0 _ rfl
      have y1 := hc 1 _ rfl
      have y2 := hc 2 _ rfl
      have y3 := hc 3 _ rfl
      have y4 := hc 4 _ rfl
      have y5 := hc 5 _ rfl
      clear hc ho
      simp only [Nat.add_zero] at y0
      have z0 := cell_new wr #[.int .i64 o.kd, .int .i64 o.iv, .int .i64 o.s.n, .int .u64 o.s.t.a, .int .u64 o.s.t.b, .int .u64 o.s.t.c] 90 0 (v := .int .i64 o.kd) rfl
      have z1 := cell_new wr #[.int .i64 o.kd, .int .i64 o.iv, .int .i64 o.s.n, .int .u64 o.s.t.a, .int .u64 o.s.t.b, .int .u64 o.s.t.c] 90 1 (v := .int .i64 o.iv) rfl
      have z2 := cell_new wr #[.int .i64 o.kd, .int .i64 o.iv, .int .i64 o.s.n, .int .u64 o.s.t.a, .int .u64 o.s.t.b, .int .u64 o.s.t.c] 90 2 (v := .int .i64 o.s.n) rfl
      have z3 := cell_new wr #[.int .i64 o.kd, .int .i64 o.iv, .int .i64 o.s.n, .int .u64 o.s.t.a, .int .u64 o.s.t.b, .int .u64 o.s.t.c] 90 3 (v := .int .u64 o.s.t.a) rfl
      have z4 := cell_new wr #[.int .i64 o.kd, .int .i64 o.iv, .int .i64 o.s.n, .int .u64 o.s.t.a, .int .u64 o.s.t.b, .int .u64 o.s.t.c] 90 4 (v := .int .u64 o.s.t.b) rfl
      have z5 := cell_new wr #[.int .i64 o.kd, .int .i64 o.iv, .int .i64 o.s.n, .int .u64 o.s.t.a, .int .u64 o.s.t.b, .int .u64 o.s.t.c] 90 5 (v := .int .u64 o.s.t.c) rfl
      have B1 := Lib.hid (HB.out.step0 ((Upd.refl [] wr).alloc (.cells #[.int .i64 o.kd, .int .i64 o.iv, .int .i64 o.s.n, .int .u64 o.s.t.a, .int .u64 o.s.t.b, .int .u64 o.s.t.c] 90)))
      by_cases h300 : i < 300
      · have h3i : (i : Int) < 300 := by omega
        by_cases hk : o.kd.tmod 2 = 0
        · have hkb : (o.kd.tmod 2 == 0) = true := by simpa using hk
          clear hk
          go_wp2_with (go_at_call 50; refine (makeA (B1.out.get 0 rfl) o.s).mono ?_; rintro e w6 ⟨r, M', rfl, ht6, hl6, hu6⟩; have B2 := Lib.hid (B1.out.turn (r' := rLed lb2 tb2 mb2 M') hu6 (by simp [rLed]) ht6 (fun b hb => .inl hb)); clear ht6 hu6)
          go_roundg (ys.length - (i + 1))
          case measure => have := HM.out; omega
          case rel => exact ⟨i + 1, M', by have := HM.out; omega, rfl, by omega, by omega, B2.out⟩
        · have hkb : (o.kd.tmod 2 == 0) = false := by simpa using hk
          clear hk
          go_wp2_with (go_at_call 49; refine (useA (B1.out.get 0 rfl) o.s).mono ?_; rintro e w6 ⟨r, M', rfl, ht6, hl6, hu6⟩; have B2 := Lib.hid (B1.out.turn (r' := rLed lb2 tb2 mb2 M') hu6 (by simp [rLed]) ht6 (fun b hb => .inl hb)); clear ht6 hu6)
          go_roundg (ys.length - (i + 1))
          case measure => have := HM.out; omega
          case rel => exact ⟨i + 1, M', by have := HM.out; omega, rfl, by omega, by omega, B2.out⟩
      · have h3i : ¬ (i : Int) < 300 := by omega
        go_wp2_with fail
        go_roundg (ys.length - (i + 1))
        case measure => have := HM.out; omega
        case rel => exact ⟨i + 1, M2, by have := HM.out; omega, rfl, by omega, by omega, B1.out⟩
    · have hii : ¬ (i : Int) < ys.length := by omega
      obtain ⟨D, hD0⟩ := keyL_ex M2
      have hdl : D.length ≤ 600 := by rw [hD0.len]; exact hl2
      have hD := Lib.hid hD0
      obtain rfl := HR.out
      clear hD0 HR HRD HM hi hl1
      generalize wr = w13 at *
      go_upto_region 19 with (first
        | (go_at_call_of 46 (Value.pointer (some ⟨lb2, 0, none⟩)); refine (lChangesK (HB.out.get 0 rfl) hD.out (by omega)).mono ?_; rintro e w14 ⟨a4, c4, rfl, ho, hf, hu⟩; have B21 := Lib.hid (HB.out.push (r := rCh a4 c4 M2 D) hu ho hf); clear ho hf hu HB)
        | (go_at_call_of 46 (Value.pointer (some ⟨lb, 0, none⟩)); refine (lChangesK (B21.out.get 11 rfl) hK.out (by omega)).mono ?_; rintro e w15 ⟨a5, c5, rfl, ho, hf, hu⟩; have B22 := Lib.hid (B21.out.push (r := rCh a5 c5 M K) hu ho hf); clear ho hf hu B21)
        | (at_builtin; refine wpList_append_rep rfl _ _ 102 rfl elemLC (xs := [⟨a1, K.length, c1⟩, ⟨a2, K.length, c2⟩, ⟨a3, K.length, c3⟩]) (ys := [⟨a4, D.length, c4⟩, ⟨a5, K.length, c5⟩]) (aa := some ⟨gC, oC, none⟩) (c := cC) (c2 := 2) ((B22.out.step0 ((Upd.refl [] w15).alloc _)).get 8 rfl) ((OwnAt.lit (e := 87) elemLC.len w15 [⟨a4, D.length, c4⟩, ⟨a5, K.length, c5⟩] (by simp [maxLen]) #[.slice a4 D.length c4, .slice a5 K.length c5] rfl).rd elemLC.len) (by simp [Act.eval]) (by simp [Act.eval]) (by simp [maxLen]) (by simp) ?_; intro aC' cC' w16 ho hu hor _; have B23 := Lib.hid ((B22.out.pick 8 rfl).grown ((Upd.refl [] w15).alloc _) ho hu hor); clear ho hu hor B22))
      go_upto_region 20 with (first
        | (go_at_call_of 47 (Value.pointer (some ⟨lb2, 0, none⟩)); refine (lKeysK (B23.out.get 3 rfl) hD.out (by omega)).mono ?_; rintro e w17 ⟨b4, d4, rfl, ho, hf, hu⟩; have B24 := Lib.hid (B23.out.push (r := rSt b4 d4 D) hu ho hf); clear ho hf hu B23)
        | (go_at_call_of 47 (Value.pointer (some ⟨lb, 0, none⟩)); refine (lKeysK (B24.out.get 13 rfl) hK.out (by omega)).mono ?_; rintro e w18 ⟨b5, d5, rfl, ho, hf, hu⟩; have B25 := Lib.hid (B24.out.push (r := rSt b5 d5 K) hu ho hf); clear ho hf hu B24)
        | (at_builtin; refine wpList_append_rep rfl _ _ 103 rfl elemLS (xs := [⟨b1, K.length, d1⟩, ⟨b2, K.length, d2⟩, ⟨b3, K.length, d3⟩]) (ys := [⟨b4, D.length, d4⟩, ⟨b5, K.length, d5⟩]) (aa := aS) (c := cS) (c2 := 2) ((B25.out.step0 ((Upd.refl [] w18).alloc _)).get 7 rfl) ((OwnAt.lit (e := 68) elemLS.len w18 [⟨b4, D.length, d4⟩, ⟨b5, K.length, d5⟩] (by simp [maxLen]) #[.slice b4 D.length d4, .slice b5 K.length d5] rfl).rd elemLS.len) (by simp [Act.eval]) (by simp [Act.eval]) (by simp [maxLen]) (by simp) ?_; intro aS' cS' w19 ho hu hor _; have B26 := Lib.hid ((B25.out.pick 7 rfl).grown ((Upd.refl [] w18).alloc _) ho hu hor); clear ho hu hor B25))
      have B27 : Hid (Bag w w19 ([rCh a1 c1 M K, rCh a2 c2 M K, rCh a3 c3 M K, rCh a4 c4 M2 D, rCh a5 c5 M K] ++ ([rSt b1 d1 K, rSt b2 d2 K, rSt b3 d3 K, rSt b4 d4 D, rSt b5 d5 K] ++ [rLC aC' cC' [⟨a1, K.length, c1⟩, ⟨a2, K.length, c2⟩, ⟨a3, K.length, c3⟩, ⟨a4, D.length, c4⟩, ⟨a5, K.length, c5⟩], rLS aS' cS' [⟨b1, K.length, d1⟩, ⟨b2, K.length, d2⟩, ⟨b3, K.length, d3⟩, ⟨b4, D.length, d4⟩, ⟨b5, K.length, d5⟩], rLed lb2 tb2 mb2 M2, rCh aW cW M K, rLed lb tb mb M]))) :=
        Lib.hid (B26.out.order [13, 12, 11, 5, 4, 10, 9, 8, 2, 1, 3, 0, 6, 7, 14] 15 (by decide) rfl)
      clear B26
      rcases OwnAt.cases (B27.out.get 10 rfl) with ⟨_, _, h⟩ | ⟨gc, rfl, _⟩
      · simp at h
      rcases OwnAt.cases (B27.out.get 11 rfl) with ⟨_, _, h⟩ | ⟨gs, rfl, _⟩
      · simp at h
      have hLC := Lib.hid (OwnAt.rd elemLC.len (B27.out.get 10 rfl))
      have hLS := Lib.hid (OwnAt.rd elemLS.len (B27.out.get 11 rfl))
      have hQ : Hid (∀ i, i < 5 → ∃ (sa ka : Option Addr) (sc kc : Nat) (Mj : List (StampK × Int)) (Kj : List StampK), ([⟨a1, K.length, c1⟩, ⟨a2, K.length, c2⟩, ⟨a3, K.length, c3⟩, ⟨a4, D.length, c4⟩, ⟨a5, K.length, c5⟩] : List Sl)[i]? = some ⟨sa, Kj.length, sc⟩ ∧ ([⟨b1, K.length, d1⟩, ⟨b2, K.length, d2⟩, ⟨b3, K.length, d3⟩, ⟨b4, D.length, d4⟩, ⟨b5, K.length, d5⟩] : List Sl)[i]? = some ⟨ka, Kj.length, kc⟩ ∧ Rd 5 eeCh w19 sa (chg Mj Kj) ∧ Rd 4 eeM w19 ka Kj ∧ Kj.length ≤ 600 ∧ (i ≠ 3 → Mj = M ∧ Kj = K)) := Lib.hid (fun i hi => by
        have h5 : i = 0 ∨ i = 1 ∨ i = 2 ∨ i = 3 ∨ i = 4 := by omega
        rcases h5 with rfl | rfl | rfl | rfl | rfl
        · exact ⟨a1, b1, c1, d1, M, K, rfl, rfl, OwnAt.rd elemCh.len (B27.out.get 0 rfl), OwnAt.rd elemM.len (B27.out.get 5 rfl), by omega, fun _ => ⟨rfl, rfl⟩⟩
        · exact ⟨a2, b2, c2, d2, M, K, rfl, rfl, OwnAt.rd elemCh.len (B27.out.get 1 rfl), OwnAt.rd elemM.len (B27.out.get 6 rfl), by omega, fun _ => ⟨rfl, rfl⟩⟩
        · exact ⟨a3, b3, c3, d3, M, K, rfl, rfl, OwnAt.rd elemCh.len (B27.out.get 2 rfl), OwnAt.rd elemM.len (B27.out.get 7 rfl), by omega, fun _ => ⟨rfl, rfl⟩⟩
        · exact ⟨a4, b4, c4, d4, M2, D, rfl, rfl, OwnAt.rd elemCh.len (B27.out.get 3 rfl), OwnAt.rd elemM.len (B27.out.get 8 rfl), by omega, fun h => absurd rfl h⟩
        · exact ⟨a5, b5, c5, d5, M, K, rfl, rfl, OwnAt.rd elemCh.len (B27.out.get 4 rfl), OwnAt.rd elemM.len (B27.out.get 9 rfl), by omega, fun _ => ⟨rfl, rfl⟩⟩)
      have hW := Lib.hid (OwnAt.rd elemCh.len (B27.out.get 13 rfl))
      go_wp2_with fail
      go_loopg [12, 13, 14, 90] 5 (fun m v12 v13 v14 v90 wz => ∃ i : Nat, m + i = 5 ∧ v90 = .int .i64 i ∧ Upd [] w19 wz)
      case atStart => exact ⟨0, rfl, rfl, Upd.refl _ _⟩
      case round =>
        obtain ⟨i, hm, rfl, hu⟩ := hrel
        have HM := Lib.hid hm
        have HU := Lib.hid hu
        clear hm hu
        by_cases hi : i < 5
        · have hii : (i : Int) < 5 := by omega
          obtain ⟨sa, ka, sc, kc, Mj, Kj, hs, hk, rs, rk, hkj, h3⟩ := hQ.out i hi
          obtain ⟨b, off, hbe, hc1⟩ := hLC.out i _ hs
          cases hbe
          have y0 := HU.out.cellS (hc1 0 _ rfl) (by simp)
          obtain ⟨b, off, hbe, hc⟩ := hLS.out i _ hk
          cases hbe
          have HZ := Lib.hid (hc 0 _ rfl)
          have z0 := HU.out.cellS HZ.out (by simp)
          simp only [Nat.zero_add, Nat.add_zero, Nat.mul_one] at y0 z0
          have RS := Lib.hid rs
          have RK := Lib.hid rk
          clear hc hc1 hs hk rs rk
          by_cases hi3 : i = 3
          · subst hi3
            clear h3
            go_wp2_with fail
            go_loopg [14, 115] Kj.length (fun m v14 v115 wz => ∃ j : Nat, m + j = Kj.length ∧ v115 = .int .i64 j ∧ Upd [] w19 wz)
            case atStart => exact ⟨0, rfl, rfl, HU.out⟩
            case round =>
              obtain ⟨j, hm, rfl, hu⟩ := hrel
              clear HU z0 y0
              have HM2 := Lib.hid hm
              have HU := Lib.hid hu
              clear hm hu
              by_cases hj : j < Kj.length
              · have hjj : (j : Int) < Kj.length := by omega
                obtain ⟨x, hx⟩ : ∃ x, Kj[j]? = some x := ⟨Kj[j], List.getElem?_eq_getElem hj⟩
                obtain ⟨g1, o1, rfl, hc⟩ := RS.out j (x, cnt Mj x) (by simp [hx])
                have y0 := HU.out.cellS (hc 0 _ rfl) (by simp)
                have y1 := HU.out.cellS (hc 1 _ rfl) (by simp)
                have y2 := HU.out.cellS (hc 2 _ rfl) (by simp)
                have y3 := HU.out.cellS (hc 3 _ rfl) (by simp)
                clear hc
                obtain ⟨g2, o2, rfl, hc⟩ := RK.out j x hx
                have x0 := HU.out.cellS (hc 0 _ rfl) (by simp)
                have x1 := HU.out.cellS (hc 1 _ rfl) (by simp)
                have x2 := HU.out.cellS (hc 2 _ rfl) (by simp)
                have x3 := HU.out.cellS (hc 3 _ rfl) (by simp)
                clear hc hx
                have z0 := HU.out.cellS HZ.out (by simp)
                simp only [Nat.add_zero, Nat.zero_add, Nat.mul_one] at y0 x0 z0
                go_wp2_with fail
                go_quiet (fail)
                go_wp2_with fail
                go_roundg (Kj.length - (j + 1))
                case measure => have := HM2.out; omega
                case rel => exact ⟨j + 1, by have := HM2.out; omega, rfl, HU.out.drewN _⟩
              · have hjj : ¬ (j : Int) < Kj.length := by omega
                go_wp2_with fail
                go_roundg 1
                case measure => have := HM.out; omega
                case rel => exact ⟨4, rfl, rfl, HU.out⟩
          · have hn1 : decide ((i : Int) ≠ 3) = true := by simp; omega
            have hn2 : ((i : Int) != 3) = true := by simp; omega
            obtain ⟨rfl, rfl⟩ := h3 hi3
            go_wp2_with (go_at_call 45; refine (sameCh_K _ _ _ _ _ _ _ (by omega) (RS.out.keep' elemCh HU.out (by simp)) (hW.out.keep' elemCh HU.out (by simp))).mono ?_; rintro e wq ⟨rfl, hu⟩; replace z0 := hu.cellS z0 (by simp); have HU2 := Lib.hid (HU.out.trans hu); clear hu)
            clear hn1 hn2 y0
            go_loopg [14, 115] Kj.length (fun m v14 v115 wz => ∃ j : Nat, m + j = Kj.length ∧ v115 = .int .i64 j ∧ Upd [] w19 wz)
            case atStart => exact ⟨0, rfl, rfl, HU2.out⟩
            case round =>
              obtain ⟨j, hm, rfl, hu⟩ := hrel
              clear HU HU2 z0
              have HM2 := Lib.hid hm
              have HU := Lib.hid hu
              clear hm hu
              by_cases hj : j < Kj.length
              · have hjj : (j : Int) < Kj.length := by omega
                obtain ⟨x, hx⟩ : ∃ x, Kj[j]? = some x := ⟨Kj[j], List.getElem?_eq_getElem hj⟩
                obtain ⟨g1, o1, rfl, hc⟩ := RS.out j (x, cnt Mj x) (by simp [hx])
                have y0 := HU.out.cellS (hc 0 _ rfl) (by simp)
                have y1 := HU.out.cellS (hc 1 _ rfl) (by simp)
                have y2 := HU.out.cellS (hc 2 _ rfl) (by simp)
                have y3 := HU.out.cellS (hc 3 _ rfl) (by simp)
                clear hc
                obtain ⟨g2, o2, rfl, hc⟩ := RK.out j x hx
                have x0 := HU.out.cellS (hc 0 _ rfl) (by simp)
                have x1 := HU.out.cellS (hc 1 _ rfl) (by simp)
                have x2 := HU.out.cellS (hc 2 _ rfl) (by simp)
                have x3 := HU.out.cellS (hc 3 _ rfl) (by simp)
                clear hc hx
                have z0 := HU.out.cellS HZ.out (by simp)
                simp only [Nat.add_zero, Nat.zero_add, Nat.mul_one] at y0 x0 z0
                go_wp2_with fail
                go_quiet (fail)
                go_wp2_with fail
                go_roundg (Kj.length - (j + 1))
                case measure => have := HM2.out; omega
                case rel => exact ⟨j + 1, by have := HM2.out; omega, rfl, HU.out.drewN _⟩
              · have hjj : ¬ (j : Int) < Kj.length := by omega
                go_wp2_with fail
                go_roundg (5 - (i + 1))
                case measure => have := HM.out; omega
                case rel => exact ⟨i + 1, by have := HM.out; omega, rfl, HU.out⟩
        · have hii : ¬ (i : Int) < 5 := by omega
          have B28 := Lib.hid (B27.out.step0 HU.out)
          have hn1 : ∀ (j : Nat) (s : Sl) (X : List (StampK × Int)), ([⟨a1, K.length, c1⟩, ⟨a2, K.length, c2⟩, ⟨a3, K.length, c3⟩, ⟨a4, D.length, c4⟩, ⟨a5, K.length, c5⟩] : List Sl)[j]? = some s → [chg M K, chg M K, chg M K, chg M2 D, chg M K][j]? = some X → X.length = s.n ∧ s.n ≤ 1000000 := fun j s X hs hX => by
            match j, hs, hX with
            | 0, hs, hX => cases hs; cases hX; exact ⟨by simp, by simp only; omega⟩
            | 1, hs, hX => cases hs; cases hX; exact ⟨by simp, by simp only; omega⟩
            | 2, hs, hX => cases hs; cases hX; exact ⟨by simp, by simp only; omega⟩
            | 3, hs, hX => cases hs; cases hX; exact ⟨by simp, by simp only; omega⟩
            | 4, hs, hX => cases hs; cases hX; exact ⟨by simp, by simp only; omega⟩
            | n + 5, hs, hX => simp at hs
          have hn2 : ∀ (j : Nat) (s : Sl) (X : List StampK), ([⟨b1, K.length, d1⟩, ⟨b2, K.length, d2⟩, ⟨b3, K.length, d3⟩, ⟨b4, D.length, d4⟩, ⟨b5, K.length, d5⟩] : List Sl)[j]? = some s → [K, K, K, D, K][j]? = some X → X.length = s.n ∧ s.n ≤ 1000000 := fun j s X hs hX => by
            match j, hs, hX with
            | 0, hs, hX => cases hs; cases hX; exact ⟨rfl, by simp only; omega⟩
            | 1, hs, hX => cases hs; cases hX; exact ⟨rfl, by simp only; omega⟩
            | 2, hs, hX => cases hs; cases hX; exact ⟨rfl, by simp only; omega⟩
            | 3, hs, hX => cases hs; cases hX; exact ⟨rfl, by simp only; omega⟩
            | 4, hs, hX => cases hs; cases hX; exact ⟨rfl, by simp only; omega⟩
            | n + 5, hs, hX => simp at hs
          have hT := Lib.hid (B28.out.two (ss := [⟨a1, K.length, c1⟩, ⟨a2, K.length, c2⟩, ⟨a3, K.length, c3⟩, ⟨a4, D.length, c4⟩, ⟨a5, K.length, c5⟩]) (st := [⟨b1, K.length, d1⟩, ⟨b2, K.length, d2⟩, ⟨b3, K.length, d3⟩, ⟨b4, D.length, d4⟩, ⟨b5, K.length, d5⟩]) (Xs := [chg M K, chg M K, chg M K, chg M2 D, chg M K]) (Ys := [K, K, K, D, K]) rfl rfl rfl hn1 hn2)
          have hap := Lib.hid (apart14_any wr (some ⟨gc, 0, none⟩) [⟨a1, K.length, c1⟩, ⟨a2, K.length, c2⟩, ⟨a3, K.length, c3⟩, ⟨a4, D.length, c4⟩, ⟨a5, K.length, c5⟩] cC' (some ⟨gs, 0, none⟩) [⟨b1, K.length, d1⟩, ⟨b2, K.length, d2⟩, ⟨b3, K.length, d3⟩, ⟨b4, D.length, d4⟩, ⟨b5, K.length, d5⟩] cS' (by simp) (by simp) (OwnAt.rd elemLC.len (B28.out.get 10 rfl)) (OwnAt.rd elemLS.len (B28.out.get 11 rfl)) _ _ hT.out.1 hT.out.2.1 hT.out.2.2.1 (hT.out.2.2.2.1 _ List.mem_cons_self) (hT.out.2.2.2.1 _ (List.mem_cons_of_mem _ List.mem_cons_self)))
          clear hn1 hn2 hLC hLS hQ hW HU B27 HM
          go_upto_region 34 with (first
            | (go_at_call 58; refine hap.out.mono ?_; rintro e w20 ⟨rfl, hu⟩; have B29 := Lib.hid (hT.out.2.2.2.2 _ hu); clear hu)
            | (go_at_call 46; refine (lChangesK (B29.out.get 4 rfl) hK.out (by omega)).mono ?_; rintro e w21 ⟨a6, c6, rfl, ho, hf, hu⟩; have B30 := Lib.hid (B29.out.push (r := rCh a6 c6 M K) hu ho hf); clear ho hf hu)
            | (go_at_call 45; refine (sameCh_K _ _ _ _ _ _ _ (by omega) (OwnAt.rd elemCh.len (B30.out.get 0 rfl)) (OwnAt.rd elemCh.len (B30.out.get 4 rfl))).mono ?_; rintro e w22 ⟨rfl, hu⟩; have B31 := Lib.hid (B30.out.step0 hu); clear hu))
          clear hap hT B28 B29 B30
          go_wp2_with (first
            | (go_at_call 54; refine (lClear (B31.out.get 3 rfl)).mono ?_; rintro e w23 ⟨rfl, ht, hu⟩; have B32 := Lib.hid ((B31.out.pick 3 rfl).turn (r' := rLed lb2 tb2 mb2 []) hu (by simp [rLed]) ht (fun b hb => .inl hb)); clear ht hu)
            | (go_at_call 51; refine (lLen (B32.out.get 0 rfl)).mono ?_; rintro e wq ⟨rfl, rfl⟩)
            | (go_at_call 46; refine (lChangesK (B32.out.get 5 rfl) hK.out (by omega)).mono ?_; rintro e w24 ⟨a7, c7, rfl, ho, hf, hu⟩; have B33 := Lib.hid (B32.out.push (r := rCh a7 c7 M K) hu ho hf); clear ho hf hu)
            | (go_at_call 45; refine (sameCh_K _ _ _ _ _ _ _ (by omega) (OwnAt.rd elemCh.len (B33.out.get 0 rfl)) (OwnAt.rd elemCh.len (B33.out.get 5 rfl))).mono ?_; rintro e w25 ⟨rfl, hu⟩; have B34 := Lib.hid (B33.out.step0 hu); clear hu))
          go_ret
          exact ⟨rfl, B34.out.below⟩
end Go.Proofs.Ytcdmdpgfadopcaa
