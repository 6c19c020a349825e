/-
  sluicelaw04: TallyAdds, the walk.
-/
import Derived.Test.YtcdmdpgfadopcaaLawTally12
namespace Go.Proofs.Ytcdmdpgfadopcaa
open Go.Slu Go.MapKept Go.RowKit Go.Sort

set_option maxHeartbeats 4000000 in
set_option maxRecDepth 20000 in
theorem adds_any (w : World) (aa : Option Addr) (xs : List OpS) (ca : Nat) (turn : Int) (hrd : Rd 5 eeO w aa xs) (__hxl : xs.length ≤ maxLen) (hca : xs.length ≤ ca) (_ht0 : -9223372036854775808 ≤ turn ∧ turn ≤ 9223372036854775807) :
    Calls Try.prog 6 #[.slice aa xs.length ca, .int .i64 turn] w fun e w' => e = .returned (.bool true) ∧ UpdB w.heap.size w w' := by
  have HRD := Lib.hid hrd
  clear hrd
  go_enter Try.func6, Try.ntmps6
  go_upto_if 20 with fail
  go_cut [0] (fun v0 wx => ∃ c', v0 = .slice aa (xs.take 60).length c' ∧ wx = w)
  case first =>
    by_cases h60 : 60 < xs.length
    · have h6 : (60 : Int) < xs.length := by omega
      go_wp2_with (refine wpList_slice_to rfl _ _ 22 rfl elemO (aa := aa) (n := xs.length) (c := ca) (j := 60) (kh := .i64) rfl rfl (by omega) ?_)
      go_meet
      exact ⟨ca, by rw [List.length_take, Nat.min_eq_left (by omega)], rfl⟩
    · have h6 : ¬ (60 : Int) < xs.length := by omega
      go_wp2_with fail
      go_meet
      exact ⟨ca, by rw [List.take_of_length_le (by omega)], rfl⟩
  case rest =>
    obtain ⟨c', rfl, rfl⟩ := hcut
    have hrd' := HRD.out.take 60
    have hyl : (xs.take 60).length ≤ 60 := by simp; omega
    clear HRD
    generalize xs.take 60 = ys at hrd' hyl
    have HRD := Lib.hid hrd'
    clear hrd' hca
    have m0 := Lib.hid (fun W => made_any 0 (.inl rfl) W)
    have m1 := Lib.hid (fun W => made_any 1 (.inr (.inl rfl)) W)
    have m2 := Lib.hid (fun W => made_any 2 (.inr (.inr rfl)) W)
    go_upto_region 9 with (first
      | (go_at_call_of 14 (Value.int .i64 2); refine (m2.out _).mono ?_; rintro e w4 ⟨t3, n3, rfl, hT3, hb3, hb3', hu3⟩)
      | (go_at_call_of 14 (Value.int .i64 1); refine (m1.out _).mono ?_; rintro e w2 ⟨t1, n1, rfl, hT1, hb1, hb1', hu1⟩)
      | (go_at_call_of 14 (Value.int .i64 0); have _hq := hT1; refine (m0.out _).mono ?_; rintro e w3 ⟨t2, n2, rfl, hT2, hb2, hb2', hu2⟩)
      | (go_at_call_of 14 (Value.int .i64 0); refine (m0.out _).mono ?_; rintro e w1 ⟨t0, n0, rfl, hT0, hb0, hb0', hu0⟩)
      | (go_at_call 15; refine (known_any _).mono ?_; rintro e w5 ⟨rfl, hu5⟩))
    obtain ⟨tb, rfl, rfl, rfl, rfl⟩ : ∃ tb : Nat → Nat, tb 0 = t0 ∧ tb 1 = t1 ∧ tb 2 = t2 ∧ tb 3 = t3 := ⟨fun k => if k = 0 then t0 else if k = 1 then t1 else if k = 2 then t2 else t3, rfl, rfl, rfl, rfl⟩
    obtain ⟨mb, rfl, rfl, rfl, rfl⟩ : ∃ tb : Nat → Nat, tb 0 = n0 ∧ tb 1 = n1 ∧ tb 2 = n2 ∧ tb 3 = n3 := ⟨fun k => if k = 0 then n0 else if k = 1 then n1 else if k = 2 then n2 else n3, rfl, rfl, rfl, rfl⟩
    have hQ : Quad wc.heap.size w5 tb mb (ys.map (·.key)) (fun _ _ => 0) := by
      have l0 := hT0.lt
      have l1 := hT1.lt
      have l2 := hT2.lt
      have s1 := hu1.size
      have s2 := hu2.size
      have s3 := hu3.size
      have s0 := hu0.size
      refine ⟨fun k hk => ?_, fun i j hi hj hij => ?_, fun k hk => ?_, fun k x _ hx => absurd rfl hx, by simp; omega⟩
      · refine ⟨[], ?_, fun x => rfl⟩
        match k, hk with
        | 0, _ => exact (((hT0.keep hu1 (by simp) (by simp)).keep hu2 (by simp) (by simp)).keep hu3 (by simp) (by simp)).keep hu5 (by simp) (by simp)
        | 1, _ => exact ((hT1.keep hu2 (by simp) (by simp)).keep hu3 (by simp) (by simp)).keep hu5 (by simp) (by simp)
        | 2, _ => exact (hT2.keep hu3 (by simp) (by simp)).keep hu5 (by simp) (by simp)
        | 3, _ => exact hT3.keep hu5 (by simp) (by simp)
      · match i, hi, j, hj, hij with
        | 0, _, 0, _, h => exact absurd rfl h
        | 1, _, 1, _, h => exact absurd rfl h
        | 2, _, 2, _, h => exact absurd rfl h
        | 3, _, 3, _, h => exact absurd rfl h
        | 0, _, 1, _, _ => omega
        | 0, _, 2, _, _ => omega
        | 0, _, 3, _, _ => omega
        | 1, _, 0, _, _ => omega
        | 1, _, 2, _, _ => omega
        | 1, _, 3, _, _ => omega
        | 2, _, 0, _, _ => omega
        | 2, _, 1, _, _ => omega
        | 2, _, 3, _, _ => omega
        | 3, _, 0, _, _ => omega
        | 3, _, 1, _, _ => omega
        | 3, _, 2, _, _ => omega
      · match k, hk with
        | 0, _ => omega
        | 1, _ => omega
        | 2, _ => omega
        | 3, _ => omega
    have HQ := Lib.hid hQ
    have HU := Lib.hid ((((hu0.trans hu1).trans hu2).trans hu3).trans hu5)
    clear hQ hT0 hT1 hT2 hT3 hu0 hu1 hu2 hu3 hu5 hb0 hb1 hb2 hb3 hb0' hb1' hb2' hb3' _hq m0 m1 m2
    have hB : wc.heap.size ≤ w5.heap.size := HU.out.size
    go_wp2_with fail
    go_loopg [9, 10, 11, 12, 13, 47] ys.length (fun m v9 v10 v11 v12 v13 v47 wz => ∃ (i : Nat) (C : Nat → Str → Int), m + i = ys.length ∧ v47 = .int .i64 i ∧ Quad wc.heap.size wz tb mb (ys.map (·.key)) C ∧ CI ys i C ∧ UpdB wc.heap.size wc wz)
    case atStart => exact ⟨0, fun _ _ => 0, rfl, rfl, HQ.out, CI.zero ys, Upd.updB HU.out⟩
    case round =>
      obtain ⟨i, C, hm, rfl, hq, hci, hu⟩ := hrel
      clear HQ HU
      have HQ := Lib.hid hq
      have HC := Lib.hid hci
      have HM := Lib.hid hm
      have HU := Lib.hid hu
      clear hq hci hm hu
      by_cases hi : i < ys.length
      · have hii : (i : Int) < ys.length := by omega
        obtain ⟨o, ho⟩ : ∃ o, ys[i]? = some o := ⟨ys[i], List.getElem?_eq_getElem hi⟩
        obtain ⟨p, hp⟩ : ∃ p, ys[ys.length - 1 - i]? = some p := ⟨ys[ys.length - 1 - i]'(by omega), List.getElem?_eq_getElem _⟩
        have hpr : ys.reverse[i]? = some p := by rw [List.getElem?_reverse hi]; exact hp
        obtain ⟨b, off, rfl, hc⟩ := HRD.out i o ho
        have hbl := lt_of_cell (hc 0 _ rfl)
        have y0 := HU.out.cellS (hc 0 _ rfl) hbl
        have y1 := HU.out.cellS (hc 1 _ rfl) hbl
        have y2 := HU.out.cellS (hc 2 _ rfl) hbl
        have y3 := HU.out.cellS (hc 3 _ rfl) hbl
        have y4 := HU.out.cellS (hc 4 _ rfl) hbl
        clear hc
        obtain ⟨b', off', hbe, hc⟩ := HRD.out _ p hp
        cases hbe
        have x0 := HU.out.cellS (hc 0 _ rfl) hbl
        have x1 := HU.out.cellS (hc 1 _ rfl) hbl
        have x2 := HU.out.cellS (hc 2 _ rfl) hbl
        have x3 := HU.out.cellS (hc 3 _ rfl) hbl
        have x4 := HU.out.cellS (hc 4 _ rfl) hbl
        clear hc
        simp only [Nat.add_zero] at y0 x0
        have HO := Lib.hid ho
        have HP := Lib.hid hpr
        clear ho hp hpr
        have z0 := cell_new wr #[.int .i64 o.kd, .int .i64 o.iv, .int .i64 o.jv, .string o.key.s, .int .i64 o.n] 34 0 (v := .int .i64 o.kd) rfl
        have z1 := cell_new wr #[.int .i64 o.kd, .int .i64 o.iv, .int .i64 o.jv, .string o.key.s, .int .i64 o.n] 34 1 (v := .int .i64 o.iv) rfl
        have z2 := cell_new wr #[.int .i64 o.kd, .int .i64 o.iv, .int .i64 o.jv, .string o.key.s, .int .i64 o.n] 34 2 (v := .int .i64 o.jv) rfl
        have z3 := cell_new wr #[.int .i64 o.kd, .int .i64 o.iv, .int .i64 o.jv, .string o.key.s, .int .i64 o.n] 34 3 (v := .string o.key.s) rfl
        have z4 := cell_new wr #[.int .i64 o.kd, .int .i64 o.iv, .int .i64 o.jv, .string o.key.s, .int .i64 o.n] 34 4 (v := .int .i64 o.n) rfl
        have hix : (ys.length : Int) - 1 - i = ((ys.length - 1 - i : Nat) : Int) := by omega
        go_upto_region 13 with fail
        have hA := (Upd.refl [] wr).alloc (.cells #[.int .i64 o.kd, .int .i64 o.iv, .int .i64 o.jv, .string o.key.s, .int .i64 o.n] 34)
        have hAb : wr.heap.size < (wr.alloc (.cells #[.int .i64 o.kd, .int .i64 o.iv, .int .i64 o.jv, .string o.key.s, .int .i64 o.n] 34)).heap.size := lt_of_cell z0
        generalize wr.alloc (.cells #[.int .i64 o.kd, .int .i64 o.iv, .int .i64 o.jv, .string o.key.s, .int .i64 o.n] 34) = wA at *
        replace x0 := hA.cellS x0 (by simp)
        replace x1 := hA.cellS x1 (by simp)
        replace x2 := hA.cellS x2 (by simp)
        replace x3 := hA.cellS x3 (by simp)
        replace x4 := hA.cellS x4 (by simp)
        have hlt : ∀ k, k < 4 → mb k < wr.heap.size := fun k hk => by obtain ⟨M, h1, _⟩ := HQ.out.t k hk; exact h1.lt.2
        have HLT := Lib.hid hlt
        replace HQ := Lib.hid (HQ.out.keep hA (by simp))
        replace HU := Lib.hid (HU.out.trans (Upd.updB hA))
        have HS := Lib.hid hA.size
        clear hA y0 y1 y2 y3 y4 hlt
        generalize wr.heap.size = ob at *
        have q3 := cell_new wA #[.int .i64 p.kd, .int .i64 p.iv, .int .i64 p.jv, .string p.key.s, .int .i64 p.n] 34 3 (v := .string p.key.s) rfl
        have q4 := cell_new wA #[.int .i64 p.kd, .int .i64 p.iv, .int .i64 p.jv, .string p.key.s, .int .i64 p.n] 34 4 (v := .int .i64 p.n) rfl
        go_upto_region 14 with fail
        have hA := (Upd.refl [] wA).alloc (.cells #[.int .i64 p.kd, .int .i64 p.iv, .int .i64 p.jv, .string p.key.s, .int .i64 p.n] 34)
        generalize wA.alloc (.cells #[.int .i64 p.kd, .int .i64 p.iv, .int .i64 p.jv, .string p.key.s, .int .i64 p.n] 34) = wB at *
        replace z3 := hA.cellS z3 (by simp)
        replace HQ := Lib.hid (HQ.out.keep hA (by simp))
        replace HU := Lib.hid (HU.out.trans (Upd.updB hA))
        clear hA x0 x1 x2 x3 x4 z0 z1 z2 z4 hAb hix
        have hne : Hid (∀ k, k < 4 → ob ≠ mb k ∧ wA.heap.size ≠ mb k) := fun k hk => by have := HLT.out k hk; have := HS.out; omega
        clear HLT HS
        generalize wA.heap.size = pb at *
        have hi60 : i ≤ 60 := by omega
        have b0 := Lib.hid (fun k hk x => HC.out.ok hyl hi60 k hk x)
        have no := Lib.hid (prOf_in o)
        have np := Lib.hid (prOf_in p)
        have ko := Lib.hid (prs_key HO.out)
        have kp : Hid (p.key ∈ ys.map (·.key)) := by
          have := prs_key HP.out
          rw [List.map_reverse, List.mem_reverse] at this
          exact this
        go_upto_if 84 with (first
          | (go_at_call_of 36 (Value.pointer (some ⟨tb 0, 0, none⟩)); refine (qAdd2 HQ.out 0 (by omega) o.key ko.out _ (b0.out 0 (by omega) _) no.out).mono ?_; rintro e w6 ⟨rfl, hq6, hu6⟩; have HQ6 := Lib.hid hq6; replace z3 := hu6.cellS z3 (by simpa using (hne.out 0 (by omega)).1); replace q3 := hu6.cellS q3 (by simpa using (hne.out 0 (by omega)).2); replace q4 := hu6.cellS q4 (by simpa using (hne.out 0 (by omega)).2); have HU6 := Lib.hid (HU.out.trans ⟨_, by simpa using HQ.out.lo 0 (by omega), hu6⟩); clear hq6 hu6)
          | (go_at_call_of 36 (Value.pointer (some ⟨tb 1, 0, none⟩)); refine (qAdd2 HQ6.out 1 (by omega) p.key kp.out _ (by rw [addC_ne (by omega)]; exact b0.out 1 (by omega) _) np.out).mono ?_; rintro e w7 ⟨rfl, hq7, hu7⟩; have HQ7 := Lib.hid hq7; replace z3 := hu7.cellS z3 (by simpa using (hne.out 1 (by omega)).1); have HU7 := Lib.hid (HU6.out.trans ⟨_, by simpa using HQ.out.lo 1 (by omega), hu7⟩); clear hq7 hu7))
        clear HU HU6 HQ6
        go_cut [13] (fun v13 wx => ∃ h, (h = 2 ∨ h = 3) ∧ v13 = .pointer (some ⟨tb h, 0, none⟩) ∧ wx = w7)
        case first =>
          go_wp2_with fail
          · go_meet
            exact ⟨3, .inr rfl, rfl, rfl⟩
          · go_meet
            exact ⟨2, .inl rfl, rfl, rfl⟩
        case rest =>
          obtain ⟨h, hh, rfl, rfl⟩ := hcut
          have hh4 : Hid (h < 4 ∧ h ≠ 0 ∧ h ≠ 1) := by unfold Hid; omega
          have HH := Lib.hid hh
          clear hh
          go_wp2_with (go_at_call 36; refine (qAdd2 HQ7.out h hh4.out.1 o.key ko.out _ (by rw [addC_ne hh4.out.2.2, addC_ne hh4.out.2.1]; exact b0.out h hh4.out.1 _) no.out).mono ?_; rintro e w8 ⟨rfl, hq8, hu8⟩)
          go_roundg (ys.length - (i + 1))
          case measure => have := HM.out; omega
          case rel => exact ⟨i + 1, _, by have := HM.out; omega, rfl, hq8, HC.out.step HO.out HP.out HH.out, HU7.out.trans ⟨_, by simpa using HQ.out.lo h hh4.out.1, hu8⟩⟩
      · have hii : ¬ (i : Int) < ys.length := by omega
        obtain rfl : i = ys.length := by have := HM.out; omega
        have hall := HC.out.all
        have hj1 := Lib.hid (fun x => okC_in (n := C 2 x) (by have := HC.out.ok hyl hyl 2 (by omega) x; omega) (by have := HC.out.ok hyl hyl 2 (by omega) x; omega))
        have hj2 := Lib.hid (fun x => okC_in (n := C 2 x + C 3 x) (by rw [hall.2.1]; have := HC.out.ok hyl hyl 0 (by omega) x; omega) (by rw [hall.2.1]; have := HC.out.ok hyl hyl 0 (by omega) x; omega))
        have HJ := Lib.hid (fun W (hW : Quad wc.heap.size W tb mb (ys.map (·.key)) C) => (qJoin hW 2 3 (by omega) (by omega) hj1.out hj2.out))
        have HA := Lib.hid hall
        clear hall hj1 hj2 HC
        go_upto_region 24 with (first
          | (go_at_call 41; refine (HJ.out _ HQ.out).mono ?_; rintro e w6 ⟨rfl, hq6, hu6⟩; have HQ6 : Hid (Quad wc.heap.size w6 tb mb (ys.map (·.key)) (joinC C)) := Lib.hid hq6; have HU6 := Lib.hid (HU.out.trans ⟨_, by simpa using HQ.out.lo 2 (by omega), hu6⟩); clear hq6 hu6)
          | (go_at_call_of 34 (Value.pointer (some ⟨tb 0, 0, none⟩)); refine (qKeys HQ6.out 0 (by omega)).mono ?_; rintro e w7 ⟨a1, c1, l1, rfl, h1, h2, h3, h4, h5, h6⟩; have HK1 := Lib.hid (And.intro h1 (And.intro h2 (And.intro h3 h4))); have HQ7 := Lib.hid (HQ6.out.keep h6 (by simp)); have HU7 := Lib.hid (HU6.out.trans (Upd.updB h6)); clear h1 h2 h3 h4 h5 h6)
          | (go_at_call_of 34 (Value.pointer (some ⟨tb 2, 0, none⟩)); refine (qKeys HQ7.out 2 (by omega)).mono ?_; rintro e w8 ⟨a2, c2, l2, rfl, h1, h2, h3, h4, h5, h6⟩; obtain rfl : l2 = l1 := (order_ext (cfO_swo 0) (cfO_tot 0) h2 HK1.out.2.1 h3 HK1.out.2.2.1 (fun x => by rw [h4 x, HK1.out.2.2.2 x]; simp [joinC, HA.out.2.1 x])); have HK2 := Lib.hid h1; have HQ8 := Lib.hid (HQ7.out.keep h6 (by simp)); have HU8 := Lib.hid (HU7.out.trans (Upd.updB h6)); have HK3 := Lib.hid (HK1.out.1.keep h6 (by simp)); clear h1 h2 h3 h4 h5 h6)
          | (go_at_call 37; refine (same_any _ _ _ _ _ l2 (by have h1 := nodup_len HK1.out.2.2.1 (U := ys.map (·.key)) (fun x hx => HQ8.out.fin 0 x (by omega) ((HK1.out.2.2.2 x).1 hx)); simp at h1; omega) (HK3.out.rd elemS.len) (HK2.out.rd elemS.len)).mono ?_; rintro e w9 ⟨rfl, h6⟩; have HQ9 := Lib.hid (HQ8.out.keep h6 (by simp)); have HU9 := Lib.hid (HU8.out.trans (Upd.updB h6)); clear h6)
          | (go_at_call_of 40 (Value.pointer (some ⟨tb 0, 0, none⟩)); refine (qLen HQ9.out 0 (by omega) l2 HK1.out.2.2.1 HK1.out.2.2.2).mono ?_; rintro e wq ⟨rfl, rfl⟩)
          | (go_at_call_of 40 (Value.pointer (some ⟨tb 1, 0, none⟩)); refine (qLen HQ9.out 1 (by omega) l2 HK1.out.2.2.1 (fun x => by rw [HK1.out.2.2.2]; simp [joinC, HA.out.1 x])).mono ?_; rintro e wq ⟨rfl, rfl⟩))
        clear HJ HQ HU HQ6 HU6 HQ7 HU7 HQ8 HU8 HK1 HK2 HK3
        generalize hCJ : joinC C = CJ at *
        have hJ0 : Hid (∀ x, CJ 0 x = tot (ys.map prOf) x ∧ CJ 1 x = CJ 0 x ∧ CJ 2 x = CJ 0 x) := fun x => by
          subst hCJ
          have h1 := HA.out.1 x
          have h2 := HA.out.2.1 x
          have h3 := HA.out.2.2 x
          simp [joinC]
          omega
        clear hCJ HA
        go_wp2_with (go_at_call 34; refine (qKeys HQ9.out 0 (by omega)).mono ?_; rintro e w10 ⟨a3, c3, l3, rfl, h1, h2, h3, h4, h5, h6⟩; have HK1 := Lib.hid (And.intro h1 (And.intro h2 (And.intro h3 h4))); have HQ10 := Lib.hid (HQ9.out.keep h6 (by simp)); have HU10 := Lib.hid (HU9.out.trans (Upd.updB h6)); clear h1 h2 h3 h4 h5 h6)
        have hl3 : l3.length ≤ 60 := by
          have h1 := nodup_len HK1.out.2.2.1 (U := ys.map (·.key)) (fun x hx => HQ10.out.fin 0 x (by omega) ((HK1.out.2.2.2 x).1 hx))
          simp at h1; omega
        clear HQ9 HU9 HM hi hii
        go_loopg [15, 115] l3.length (fun m v15 v115 wz => ∃ j : Nat, m + j = l3.length ∧ v115 = .int .i64 j ∧ wz = w10)
        case atStart => exact ⟨0, rfl, rfl, rfl⟩
        case round =>
          obtain ⟨j, hm, rfl, rfl⟩ := hrel
          have HM := Lib.hid hm
          clear hm
          by_cases hj : j < l3.length
          · have hjj : (j : Int) < l3.length := by omega
            obtain ⟨x, hx⟩ : ∃ x, l3[j]? = some x := ⟨l3[j], List.getElem?_eq_getElem hj⟩
            obtain ⟨g1, o1, rfl, hc⟩ := HK1.out.1.rd elemS.len j x hx
            have y0 := hc 0 _ rfl
            simp only [Nat.add_zero, Nat.mul_one] at y0
            clear hc
            have hx0 := (HK1.out.2.2.2 x).1 (List.mem_of_getElem? hx)
            have g0 := qGet HQ10.out 0 (by omega) x
            have g1' := qGet HQ10.out 1 (by omega) x
            have g2 := qGet HQ10.out 2 (by omega) x
            rw [(hJ0.out x).2.1] at g1'
            rw [(hJ0.out x).2.2] at g2
            generalize CJ 0 x = cx at g0 g1' g2 hx0
            have hx1 : (cx == 0) = false := by simpa using hx0
            have G0 := Lib.hid g0
            have G1 := Lib.hid g1'
            have G2 := Lib.hid g2
            clear g0 g1' g2 hx
            go_wp2_with (first
              | (go_at_call_of 42 (Value.pointer (some ⟨tb 0, 0, none⟩)); refine G0.out.mono ?_; rintro e wq ⟨rfl, rfl⟩)
              | (go_at_call_of 42 (Value.pointer (some ⟨tb 1, 0, none⟩)); refine G1.out.mono ?_; rintro e wq ⟨rfl, rfl⟩)
              | (go_at_call_of 42 (Value.pointer (some ⟨tb 2, 0, none⟩)); refine G2.out.mono ?_; rintro e wq ⟨rfl, rfl⟩))
            go_roundg (l3.length - (j + 1))
            case measure => have := HM.out; omega
            case rel => exact ⟨j + 1, by have := HM.out; omega, rfl, rfl⟩
          · have hjj : ¬ (j : Int) < l3.length := by omega
            have HQ := HQ10
            have HU := HU10
            clear HQ10 HU10 HK1 HM
            go_wp2_with fail
            go_loopg [17, 144] ys.length (fun m v17 v144 wz => ∃ (i : Nat) (C : Nat → Str → Int), m + i = ys.length ∧ v144 = .int .i64 i ∧ Quad wc.heap.size wz tb mb (ys.map (·.key)) C ∧ (∀ x, C 0 x = tot (ys.map prOf) x - tot ((ys.map prOf).take i) x) ∧ UpdB wc.heap.size wc wz)
            case atStart => exact ⟨0, CJ, rfl, rfl, HQ.out, fun x => by rw [(hJ0.out x).1]; simp [tot], HU.out⟩
            case round =>
              obtain ⟨i, C2, hm, rfl, hq, hci, hu⟩ := hrel
              clear HQ HU
              have HQ := Lib.hid hq
              have HC := Lib.hid hci
              have HM := Lib.hid hm
              have HU := Lib.hid hu
              clear hq hci hm hu
              by_cases hi : i < ys.length
              · have hii : (i : Int) < ys.length := by omega
                obtain ⟨o, ho⟩ : ∃ o, ys[i]? = some o := ⟨ys[i], List.getElem?_eq_getElem hi⟩
                obtain ⟨b, off, rfl, hc⟩ := HRD.out i o ho
                have hbl := lt_of_cell (hc 0 _ rfl)
                have y0 := HU.out.cellS (hc 0 _ rfl) hbl
                have y1 := HU.out.cellS (hc 1 _ rfl) hbl
                have y2 := HU.out.cellS (hc 2 _ rfl) hbl
                have y3 := HU.out.cellS (hc 3 _ rfl) hbl
                have y4 := HU.out.cellS (hc 4 _ rfl) hbl
                clear hc
                simp only [Nat.add_zero] at y0
                have HO := Lib.hid ho
                clear ho
                have z3 := cell_new wr #[.int .i64 o.kd, .int .i64 o.iv, .int .i64 o.jv, .string o.key.s, .int .i64 o.n] 34 3 (v := .string o.key.s) rfl
                have z4 := cell_new wr #[.int .i64 o.kd, .int .i64 o.iv, .int .i64 o.jv, .string o.key.s, .int .i64 o.n] 34 4 (v := .int .i64 o.n) rfl
                have hA := (Upd.refl [] wr).alloc (.cells #[.int .i64 o.kd, .int .i64 o.iv, .int .i64 o.jv, .string o.key.s, .int .i64 o.n] 34)
                replace HQ := Lib.hid (HQ.out.keep hA (by simp))
                replace HU := Lib.hid (HU.out.trans (Upd.updB hA))
                clear hA
                have np := prOf_in o
                have np1 : -999 ≤ o.n.tmod 1000 := np.1
                have np2 : o.n.tmod 1000 ≤ 999 := np.2
                have ko := Lib.hid (prs_key HO.out)
                have b0 := tot_take_in hyl ys.length o.key
                rw [List.take_of_length_le (by simp)] at b0
                have b1 := tot_take_in hyl i o.key
                have b2 := HC.out o.key
                have ok1 := Lib.hid (okC_in (n := C2 0 o.key) (by omega) (by omega))
                have ok2 := Lib.hid (okC_in (n := C2 0 o.key + -(o.n.tmod 1000)) (by omega) (by omega))
                have ok3 := Lib.hid (okC_in (n := -(o.n.tmod 1000)) (by omega) (by omega))
                have hwr : wrap64 (-(o.n.tmod 1000)) = -(o.n.tmod 1000) := IntWalk.wrap64_in _ (by omega)
                clear b0 b1 b2 np
                go_wp2_with (go_at_call 36; refine (qAdd HQ.out 0 (by omega) o.key ko.out _ ok3.out ok1.out ok2.out).mono ?_; rintro e w6 ⟨rfl, hq6, hu6⟩)
                go_roundg (ys.length - (i + 1))
                case measure => have := HM.out; omega
                case rel =>
                  refine ⟨i + 1, _, by have := HM.out; omega, rfl, hq6, fun x => ?_, HU.out.trans ⟨_, by simpa using HQ.out.lo 0 (by omega), hu6⟩⟩
                  have f1 := HC.out x
                  rw [tot_take_prs HO.out]
                  simp only [addC, if_true, f1]
                  by_cases q : x = o.key
                  · simp only [if_pos q]; omega
                  · simp only [if_neg q]; omega
              · have hii : ¬ (i : Int) < ys.length := by omega
                obtain rfl : i = ys.length := by have := HM.out; omega
                have hz : ∀ x, C2 0 x = 0 := fun x => by
                  rw [HC.out x, List.take_of_length_le (by simp)]; omega
                have HZ := Lib.hid hz
                clear hz
                go_wp2_with (first
                  | (go_at_call 40; refine (qLen HQ.out 0 (by omega) [] List.nodup_nil (fun x => by simp [HZ.out x])).mono ?_; rintro e wq ⟨rfl, rfl⟩)
                  | (go_at_call 34; refine (qKeys HQ.out 0 (by omega)).mono ?_; rintro e w7 ⟨a1, c1, l1, rfl, h1, h2, h3, h4, h5, h6⟩; obtain rfl : l1 = [] := (List.eq_nil_iff_forall_not_mem.2 (fun x hx => (h4 x).1 hx (HZ.out x)))))
                go_ret
                exact ⟨rfl, HU.out.trans (Upd.updB h6)⟩
end Go.Proofs.Ytcdmdpgfadopcaa
