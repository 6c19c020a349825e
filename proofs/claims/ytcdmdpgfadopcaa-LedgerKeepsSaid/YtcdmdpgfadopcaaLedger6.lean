/-
  sluicelaw14: LedgerLikes, the walk.
-/
import Derived.Test.YtcdmdpgfadopcaaLedger5
namespace Go.Proofs.Ytcdmdpgfadopcaa
open Go.Slu Go.MapKept Go.RowKit Go.Sort

theorem led_keys {w : World} {lb tb mb : Nat} {M : List (StampK × Int)} (h : LedAt w lb tb mb M) (x : StampK) : x ∈ M.map (·.1) ↔ cnt M x ≠ 0 := by
  have hnd := MapRep.nodup kvStamp.ops h.t.map
  constructor
  · intro hx
    obtain ⟨p, hp, rfl⟩ := List.mem_map.1 hx
    have : cnt M p.1 = p.2 := by unfold cnt; rw [lk_of_mem hnd (v := p.2) hp]; rfl
    rw [this]; exact (h.t.nz p hp).1
  · intro hx
    by_cases h1 : x ∈ M.map (·.1)
    · exact h1
    · exact absurd (by unfold cnt; rw [lk_none.2 h1]; rfl) hx
theorem led_list {w w2 : World} {lb tb mb lb2 tb2 mb2 : Nat} {M M2 : List (StampK × Int)} (h : LedAt w lb tb mb M) (h2 : LedAt w2 lb2 tb2 mb2 M2) (he : ∀ x, cnt M x = cnt M2 x) {l l2 : List StampK} (hp : l.Perm (M.map (·.1))) (hs : l.Pairwise fun x y => 0 ≤ cmpM y x) (hp2 : l2.Perm (M2.map (·.1))) (hs2 : l2.Pairwise fun x y => 0 ≤ cmpM y x) : l = l2 :=
  order_ext cmpM_swo cmpM_tot hs hs2 (hp.nodup_iff.2 (MapRep.nodup kvStamp.ops h.t.map)) (hp2.nodup_iff.2 (MapRep.nodup kvStamp.ops h2.t.map)) (fun x => by rw [hp.mem_iff, hp2.mem_iff, led_keys h, led_keys h2, he])
theorem led_nil {w : World} {lb tb mb : Nat} {M : List (StampK × Int)} (h : LedAt w lb tb mb M) (hz : ∀ x, cnt M x = 0) : M = [] := by
  cases M with
  | nil => rfl
  | cons p r => exact absurd (hz p.1) ((led_keys h p.1).1 (by simp))
theorem half_tot (ys : List OpL) (h : Nat) (x : StampK) : tot ((ys.take h).map prL) x + tot ((ys.drop h).map prL) x = tot (ys.map prL) x := by
  rw [← tot_append, ← List.map_append, List.take_append_drop]

set_option maxHeartbeats 1000000 in
set_option maxRecDepth 20000 in
theorem likes_any (w : World) (aa : Option Addr) (xs : List OpL) (ca : Nat) (hrd : Rd 6 eeOL w aa xs) (hxl : xs.length ≤ ca) :
    Calls Try.prog 7 #[.slice aa xs.length ca] w fun e w' => e = .returned (.bool true) ∧ UpdB w.heap.size w w' := by
  have HRD := Lib.hid hrd
  clear hrd
  go_enter Try.func7, Try.ntmps7
  go_upto_if 16 with fail
  go_cut [0] (fun v0 wx => ∃ c', (xs.take 300).length ≤ c' ∧ v0 = .slice aa (xs.take 300).length c' ∧ wx = w)
  case first =>
    by_cases h60 : 300 < xs.length
    · have h6 : (300 : Int) < xs.length := by omega
      go_wp2_with (refine wpList_slice_to rfl _ _ 83 rfl elemOL (aa := aa) (n := xs.length) (c := ca) (j := 300) (kh := .i64) rfl rfl (by omega) ?_)
      go_meet
      exact ⟨ca, by simp; omega, by rw [List.length_take, Nat.min_eq_left (by omega)], rfl⟩
    · have h6 : ¬ (300 : Int) < xs.length := by omega
      go_wp2_with fail
      go_meet
      exact ⟨ca, by simp; omega, by rw [List.take_of_length_le (by omega)], rfl⟩
  case rest =>
    obtain ⟨c', hcc, rfl, rfl⟩ := hcut
    have HR := Lib.hid (HRD.out.take 300)
    have hyl : (xs.take 300).length ≤ 300 := by simp; omega
    clear HRD hxl
    generalize xs.take 300 = ys at HR hyl hcc
    have hty : ∀ zs : List OpL, zs.length ≤ 300 → zs.take 300 = zs := fun zs h => List.take_of_length_le h
    have HF := Lib.hid (fun (W : World) (back : Bool) (hW : Upd [] wc W) => (hty ys hyl) ▸ filledL W aa ys c' back (HR.out.keep' elemOL hW (by simp)) hcc)
    obtain ⟨h, hh, hdiv⟩ : ∃ h : Nat, h ≤ ys.length ∧ (ys.length : Int).tdiv 2 = (h : Int) := ⟨ys.length / 2, by omega, by rw [Int.tdiv_eq_ediv_of_nonneg (by omega)]; simp⟩
    have HF1 := Lib.hid (fun (W : World) (c : Nat) (hW : Upd [] wc W) (hc : h ≤ c) => (show Calls Try.prog 44 #[.slice aa h c, .bool false] W (FilledL ((ys.take h).map prL) W) from by
      have hl : (ys.take h).length = h := by simp; omega
      have := filledL W aa (ys.take h) c false ((HR.out.keep' elemOL hW (by simp)).take _) (by omega)
      rw [hl, hty _ (by omega)] at this
      exact this))
    have HF2 := Lib.hid (fun (W : World) (a2 : Option Addr) (c : Nat) (hW : Rd 6 eeOL W a2 (ys.drop h)) (hc : ys.length - h ≤ c) => (show Calls Try.prog 44 #[.slice a2 (ys.length - h) c, .bool false] W (FilledL ((ys.drop h).map prL) W) from by
      have hl : (ys.drop h).length = ys.length - h := by simp
      have := filledL W a2 (ys.drop h) c false hW (by omega)
      rw [hl, hty _ (by omega)] at this
      exact this))
    go_upto_region 7 with (first
      | (go_at_call 43; refine (known14_any _).mono ?_; rintro e w1 ⟨rfl, hu⟩; have HU1 := Lib.hid hu; clear hu)
      | (go_at_call 44; have _hq := HA2; refine (HF.out _ true HU2.out).mono ?_; rintro e w3 ⟨lb, tb, mb, Mb, rfl, ht, hc, hl, h1, h2, h3, hu⟩; have HB3 := Lib.hid ht; have HBC := Lib.hid hc; have HBL := Lib.hid hl; have HU3 := Lib.hid (HU2.out.trans hu); have HA3 := Lib.hid (HA2.out.keep hu (by simp) (by simp) (by simp)); clear ht hc hl h1 h2 h3 hu)
      | (go_at_call 44; refine (HF.out _ false HU1.out).mono ?_; rintro e w2 ⟨la, ta, ma, Ma, rfl, ht, hc, hl, h1, h2, h3, hu⟩; have HA2 := Lib.hid ht; have HAC := Lib.hid hc; have HAL := Lib.hid hl; have HU2 := Lib.hid (HU1.out.trans hu); have HMA := Lib.hid (show wc.heap.size ≤ ma from by have := HU1.out.size; omega); clear ht hc hl h1 h2 h3 hu))
    go_upto_region 9 with (first
      | (refine wpList_slice_to rfl _ _ 83 rfl elemOL (aa := aa) (n := ys.length) (c := c') (j := h) (kh := .i64) rfl (by simp [Act.eval]) (by omega) ?_)
      | (refine wpList_slice_from rfl _ _ 83 rfl elemOL (aa := aa) (xs := ys) (c := c') (j := h) (kh := .i64) (HR.out.keep' elemOL HU4.out (by simp)) rfl (by simp [Act.eval]) (by omega) hcc ?_; intro a2 hr2 hbl2; have HR2 := Lib.hid hr2; clear hr2 hbl2)
      | (go_at_call 44; have _hq := HR2; refine (HF2.out _ a2 (c' - h) HR2.out (by omega)).mono ?_; rintro e w5 ⟨ld, td, md, Md, rfl, ht, hc, hl, h1, h2, h3, hu⟩; have HD5 := Lib.hid ht; have HDC := Lib.hid hc; have HDL := Lib.hid hl; have HU5 := Lib.hid (HU4.out.trans hu); have HA5 := Lib.hid (HA4.out.keep hu (by simp) (by simp) (by simp)); have HB5 := Lib.hid (HB4.out.keep hu (by simp) (by simp) (by simp)); have HC5 := Lib.hid (HC4.out.keep hu (by simp) (by simp) (by simp)); clear ht hc hl h1 h2 h3 hu)
      | (go_at_call 44; refine (HF1.out _ c' HU3.out (by omega)).mono ?_; rintro e w4 ⟨lc, tc, mc, Mc, rfl, ht, hc, hl, h1, h2, h3, hu⟩; have HC4 := Lib.hid ht; have HCC := Lib.hid hc; have HCL := Lib.hid hl; have HU4 := Lib.hid (HU3.out.trans hu); have HA4 := Lib.hid (HA3.out.keep hu (by simp) (by simp) (by simp)); have HB4 := Lib.hid (HB3.out.keep hu (by simp) (by simp) (by simp)); clear ht hc hl h1 h2 h3 hu))
    have HSum := Lib.hid (fun x => show cnt Ma x = cnt Mc x + cnt Md x from by rw [HAC.out, HCC.out, HDC.out, half_tot])
    have hbt := fun (zs : List OpL) (hz : zs.length ≤ 300) x => (show -300 ≤ tot (zs.map prL) x ∧ tot (zs.map prL) x ≤ 300 from by have := totL_in (prL_in zs) x; simp at this; omega)
    have HCB := Lib.hid (fun x => show -300 ≤ cnt Mc x ∧ cnt Mc x ≤ 300 from by rw [HCC.out]; exact hbt _ (by simp; omega) x)
    have HDB := Lib.hid (fun x => show -300 ≤ cnt Md x ∧ cnt Md x ≤ 300 from by rw [HDC.out]; exact hbt _ (by simp; omega) x)
    have HPB := Lib.hid hbt
    clear hbt HF HF1 HF2 hty hdiv HR2 HCC HDC HU1 HU2 HU3 HU4 HA2 HA3 HA4 HB3 HB4 HC4
    go_upto_region 11 with (first
      | (go_at_call_of 46 (Value.pointer (some ⟨la, 0, none⟩)); refine (lChanges HA5.out (by have := HAL.out; omega)).mono ?_; rintro e w6 ⟨a6, c6, l6, rfl, h1, h2, h3, _, hu⟩; have HK6 := Lib.hid h1; have HP6 := Lib.hid (And.intro h2 h3); have HU6 := Lib.hid hu; clear h1 h2 h3 hu)
      | (go_at_call_of 46 (Value.pointer (some ⟨lb, 0, none⟩)); refine (lChanges (HB5.out.keep HU6.out (by simp) (by simp) (by simp)) (by have := HBL.out; omega)).mono ?_; rintro e w7 ⟨a7, c7, l7, rfl, h1, h2, h3, _, hu⟩; obtain rfl : l7 = l6 := (led_list HB5.out HA5.out (fun x => by rw [HAC.out, HBC.out]) h2 h3 HP6.out.1 HP6.out.2); have HK7 := Lib.hid (show OwnAt 105 5 eeCh _ a7 c7 (l7.map fun x => (x, cnt Ma x)) from by (have := h1; simp only [HBC.out, ← HAC.out] at this; exact this)); have HK6' := Lib.hid (HK6.out.keep hu (by simp)); have HU7 := Lib.hid (HU6.out.trans hu); have hll : l7.length ≤ 300 := (by have := h2.length_eq; simp at this; have := HBL.out; omega); clear h1 h2 h3 hu)
      | (go_at_call 45; have hsc := sameCh_any _ a6 a7 c6 c7 (l7.map fun x => (x, cnt Ma x)) (by simp; omega) (HK6'.out.rd elemCh.len) (HK7.out.rd elemCh.len); rw [List.length_map] at hsc; refine hsc.mono ?_; rintro e w8 ⟨rfl, hu⟩; have HU8 := Lib.hid (HU7.out.trans hu); clear hu hsc))
    clear HK6 HK7 HK6' HP6 hll
    have HA8 := Lib.hid (HA5.out.keep HU8.out (by simp) (by simp) (by simp))
    have HC8 := Lib.hid (HC5.out.keep HU8.out (by simp) (by simp) (by simp))
    have HD8 := Lib.hid (HD5.out.keep HU8.out (by simp) (by simp) (by simp))
    have HW8 := Lib.hid (HU5.out.trans HU8.out)
    clear HA5 HB5 HC5 HD5 HU5 HU6 HU7 HU8 HBC HBL
    go_wp2_with (go_at_call 47; refine (lKeys HA8.out (by have := HAL.out; omega)).mono ?_; rintro e w9 ⟨a9, c9, l9, rfl, h1, h2, h3, _, hu⟩; have HK9 := Lib.hid h1; have HP9 := Lib.hid h2; have HU9 := Lib.hid hu; clear h1 h2 h3 hu)
    have hl9 : l9.length ≤ 300 := by have := HP9.out.length_eq; simp at this; have := HAL.out; omega
    go_loopg [8, 62] l9.length (fun m v8 v62 wz => ∃ j : Nat, m + j = l9.length ∧ v62 = .int .i64 j ∧ Upd [] w9 wz)
    case atStart => exact ⟨0, rfl, rfl, Upd.refl _ _⟩
    case round =>
      obtain ⟨j, hm, rfl, hu⟩ := hrel
      have HM := Lib.hid hm
      have HV := Lib.hid hu
      clear hm hu
      by_cases hj : j < l9.length
      · have hjj : (j : Int) < l9.length := by omega
        obtain ⟨x, hx⟩ : ∃ x, l9[j]? = some x := ⟨l9[j], List.getElem?_eq_getElem hj⟩
        obtain ⟨g1, o1, rfl, hc⟩ := HK9.out.rd elemM.len j x hx
        have y0 := HV.out.cellS (hc 0 _ rfl) (by simp)
        have y1 := HV.out.cellS (hc 1 _ rfl) (by simp)
        have y2 := HV.out.cellS (hc 2 _ rfl) (by simp)
        have y3 := HV.out.cellS (hc 3 _ rfl) (by simp)
        clear hc
        simp only [Nat.add_zero] at y0
        have hx0 : cnt Ma x ≠ 0 := (led_keys HA8.out x).1 (HP9.out.mem_iff.1 (List.mem_of_getElem? hx))
        have ga0 := fun W (hW : Upd [] w8 W) => lGet (HA8.out.keep hW (by simp) (by simp) (by simp)) x
        have gc0 := fun W (hW : Upd [] w8 W) => lGet (HC8.out.keep hW (by simp) (by simp) (by simp)) x
        have gd0 := fun W (hW : Upd [] w8 W) => lGet (HD8.out.keep hW (by simp) (by simp) (by simp)) x
        rw [HSum.out x] at ga0 hx0
        have hb1 := HCB.out x
        have hb2 := HDB.out x
        generalize cnt Mc x = vc at ga0 gc0 hx0 hb1
        generalize cnt Md x = vd at ga0 gd0 hx0 hb2
        have hw : wrap64 (vc + vd) = vc + vd := IntWalk.wrap64_in _ (by omega)
        have hw' : IntKind.i64.wrap (vc + vd) = vc + vd := IntWalk.i64_in _ (by omega)
        have hxb : (vc + vd == 0) = false := by simpa using hx0
        have ga := Lib.hid ga0
        have gc := Lib.hid gc0
        have gd := Lib.hid gd0
        clear ga0 gc0 gd0 hx
        have z0 := cell_new wr #[.int .i64 x.n, .int .u64 x.t.a, .int .u64 x.t.b, .int .u64 x.t.c] 52 0 (v := .int .i64 x.n) rfl
        have z1 := cell_new wr #[.int .i64 x.n, .int .u64 x.t.a, .int .u64 x.t.b, .int .u64 x.t.c] 52 1 (v := .int .u64 x.t.a) rfl
        have z2 := cell_new wr #[.int .i64 x.n, .int .u64 x.t.a, .int .u64 x.t.b, .int .u64 x.t.c] 52 2 (v := .int .u64 x.t.b) rfl
        have z3 := cell_new wr #[.int .i64 x.n, .int .u64 x.t.a, .int .u64 x.t.b, .int .u64 x.t.c] 52 3 (v := .int .u64 x.t.c) rfl
        have hX := Lib.hid ((HU9.out.trans HV.out).alloc (.cells #[.int .i64 x.n, .int .u64 x.t.a, .int .u64 x.t.b, .int .u64 x.t.c] 52))
        have hX2 := Lib.hid ((Upd.refl [] wr).alloc (.cells #[.int .i64 x.n, .int .u64 x.t.a, .int .u64 x.t.b, .int .u64 x.t.c] 52))
        go_upto_region 14 with fail
        generalize wr.alloc (.cells #[.int .i64 x.n, .int .u64 x.t.a, .int .u64 x.t.b, .int .u64 x.t.c] 52) = wA at *
        clear y0 y1 y2 y3
        generalize wr.heap.size = ob at *
        go_region_held3 (fun w' => w'.cell? ⟨ob, 0, none⟩ = some (.int .i64 x.n) ∧ w'.cell? ⟨ob, 1, none⟩ = some (.int .u64 x.t.a) ∧ w'.cell? ⟨ob, 2, none⟩ = some (.int .u64 x.t.b) ∧ w'.cell? ⟨ob, 3, none⟩ = some (.int .u64 x.t.c)) (go_keep)
          (first
            | (go_at_call_of 48 (Value.pointer (some ⟨la, 0, none⟩)); have _hq := HVd; refine (ga.out _ HVd.out).mono ?_; rintro e we ⟨rfl, hu⟩; have e0 := hu.cellS d0 (by simp); have e1 := hu.cellS d1 (by simp); have e2 := hu.cellS d2 (by simp); have e3 := hu.cellS d3 (by simp); have HVe := Lib.hid (HVd.out.trans hu); have HVQ := Lib.hid (show Upd [] wA.drew we from ((HQb.out.trans HQc.out).trans HQd.out).trans hu); clear hu)
            | (go_at_call_of 48 (Value.pointer (some ⟨la, 0, none⟩)); refine (ga.out _ hX.out.drew).mono ?_; rintro e wb ⟨rfl, hu⟩; have b0 := hu.cellS (show wA.drew.cell? _ = _ from z0) (by simp); have b1 := hu.cellS (show wA.drew.cell? _ = _ from z1) (by simp); have b2 := hu.cellS (show wA.drew.cell? _ = _ from z2) (by simp); have b3 := hu.cellS (show wA.drew.cell? _ = _ from z3) (by simp); have HVb := Lib.hid (hX.out.drew.trans hu); have HQb := Lib.hid hu; clear hu)
            | (go_at_call_of 48 (Value.pointer (some ⟨lc, 0, none⟩)); refine (gc.out _ HVb.out).mono ?_; rintro e wc2 ⟨rfl, hu⟩; have c0 := hu.cellS b0 (by simp); have c1 := hu.cellS b1 (by simp); have c2 := hu.cellS b2 (by simp); have c3 := hu.cellS b3 (by simp); have HVc := Lib.hid (HVb.out.trans hu); have HQc := Lib.hid hu; clear hu)
            | (go_at_call_of 48 (Value.pointer (some ⟨ld, 0, none⟩)); refine (gd.out _ HVc.out).mono ?_; rintro e wd ⟨rfl, hu⟩; have d0 := hu.cellS c0 (by simp); have d1 := hu.cellS c1 (by simp); have d2 := hu.cellS c2 (by simp); have d3 := hu.cellS c3 (by simp); have HVd := Lib.hid (HVc.out.trans hu); have HQd := Lib.hid hu; clear hu))
        go_wp2_with fail
        go_roundg (l9.length - (j + 1))
        case measure => have := HM.out; omega
        case rel =>
          have h1 : Upd [] wA wA.drew := (Upd.refl [] wA).drew
          exact ⟨j + 1, by have := HM.out; omega, rfl, HV.out.trans (hX2.out.trans (h1.trans HVQ.out))⟩
      · have hjj : ¬ (j : Int) < l9.length := by omega
        have HE := Lib.hid (HU9.out.trans HV.out)
        clear HK9 HP9 HM HV HU9
        go_wp2_with (first
          | (go_at_call_of 47 (Value.pointer (some ⟨lc, 0, none⟩)); refine (lKeys (HC8.out.keep HE.out (by simp) (by simp) (by simp)) (by have := HCL.out; omega)).mono ?_; rintro e wk1 ⟨ak, ck, lk1, rfl, h1, h2, h3, h4, hu⟩; have HK1 := Lib.hid h1; have HL1 := Lib.hid (show lk1.length ≤ 300 from by (have := h2.length_eq; simp at this; have := HCL.out; omega)); have HF1 := Lib.hid h4; have HE1 := Lib.hid (HE.out.trans hu); have HEs := Lib.hid hu.size; clear h1 h2 h3 h4 hu)
          | (go_at_call_of 47 (Value.pointer (some ⟨ld, 0, none⟩)); refine (lKeys (HD8.out.keep HE1.out (by simp) (by simp) (by simp)) (by have := HDL.out; omega)).mono ?_; rintro e wk2 ⟨ak2, ck2, lk2, rfl, h1, h2, h3, h4, hu⟩; have HK2 := Lib.hid h1; have HK1' := Lib.hid (HK1.out.keep hu (by simp)); have HL2 := Lib.hid (show lk2.length ≤ 300 from by (have := h2.length_eq; simp at this; have := HDL.out; omega)); have HE2 := Lib.hid (HE1.out.trans hu); clear h1 h2 h3 h4 hu)
          | (at_builtin; refine wpList_append_rep rfl _ _ 68 rfl elemM (xs := lk1) (ys := lk2) (aa := ak) (c := ck) (a2 := ak2) (c2 := ck2) HK1'.out (HK2.out.rd elemM.len) rfl rfl (by have := HL1.out; have := HL2.out; simp [maxLen]; omega) (by have := HL1.out; have := HL2.out; omega) ?_; intro ak3 ck3 wk3 ho3 hu3 _ _; have HK3 := Lib.hid ho3; have HE3 := Lib.hid (show Upd [] w8 wk3 from HE2.out.then hu3 (fun b hb hlt => by (have h1 := HF1.out b hb; have h2 := HE.out.size; omega))); clear ho3 hu3))
        have hl12 : (lk1 ++ lk2).length ≤ 600 := by have := HL1.out; have := HL2.out; simp; omega
        obtain ⟨l10, hl10⟩ : ∃ l, l = lk1 ++ lk2 := ⟨_, rfl⟩
        have hlen10 := Lib.hid (show l10.length = lk1.length + lk2.length by rw [hl10]; simp)
        rw [← hl10] at HK3 hl12
        clear hl10
        clear HK1 HK2 HK1' HF1 HE1 HE2 HL1 HL2 HE HEs
        go_loopg [10, 90] l10.length (fun m v10 v90 wz => ∃ j : Nat, m + j = l10.length ∧ v90 = .int .i64 j ∧ Upd [] wk3 wz)
        case atStart => exact ⟨0, rfl, by simp, Upd.refl _ _⟩
        case round =>
          obtain ⟨j, hm, rfl, hu⟩ := hrel
          have HM := Lib.hid hm
          have HV := Lib.hid hu
          clear hm hu
          by_cases hj : j < l10.length
          · have hl6 : (lk1.length : Int) + lk2.length ≤ 600 := by have := hlen10.out; omega
            have hjj : (j : Int) < (lk1.length : Int) + lk2.length := by have := hlen10.out; omega
            obtain ⟨x, hx⟩ : ∃ x, l10[j]? = some x := ⟨l10[j], List.getElem?_eq_getElem hj⟩
            obtain ⟨g1, o1, rfl, hc⟩ := HK3.out.rd elemM.len j x hx
            have y0 := HV.out.cellS (hc 0 _ rfl) (by simp)
            have y1 := HV.out.cellS (hc 1 _ rfl) (by simp)
            have y2 := HV.out.cellS (hc 2 _ rfl) (by simp)
            have y3 := HV.out.cellS (hc 3 _ rfl) (by simp)
            clear hc
            simp only [Nat.add_zero] at y0
            have ga0 := fun W (hW : Upd [] w8 W) => lGet (HA8.out.keep hW (by simp) (by simp) (by simp)) x
            have gc0 := fun W (hW : Upd [] w8 W) => lGet (HC8.out.keep hW (by simp) (by simp) (by simp)) x
            have gd0 := fun W (hW : Upd [] w8 W) => lGet (HD8.out.keep hW (by simp) (by simp) (by simp)) x
            rw [HSum.out x] at ga0
            have hb1 := HCB.out x
            have hb2 := HDB.out x
            generalize cnt Mc x = vc at ga0 gc0 hb1
            generalize cnt Md x = vd at ga0 gd0 hb2
            have hw : wrap64 (vc + vd) = vc + vd := IntWalk.wrap64_in _ (by omega)
            have hw' : IntKind.i64.wrap (vc + vd) = vc + vd := IntWalk.i64_in _ (by omega)
            have ga := Lib.hid ga0
            have gc := Lib.hid gc0
            have gd := Lib.hid gd0
            clear ga0 gc0 gd0 hx
            have z0 := cell_new wr #[.int .i64 x.n, .int .u64 x.t.a, .int .u64 x.t.b, .int .u64 x.t.c] 52 0 (v := .int .i64 x.n) rfl
            have z1 := cell_new wr #[.int .i64 x.n, .int .u64 x.t.a, .int .u64 x.t.b, .int .u64 x.t.c] 52 1 (v := .int .u64 x.t.a) rfl
            have z2 := cell_new wr #[.int .i64 x.n, .int .u64 x.t.a, .int .u64 x.t.b, .int .u64 x.t.c] 52 2 (v := .int .u64 x.t.b) rfl
            have z3 := cell_new wr #[.int .i64 x.n, .int .u64 x.t.a, .int .u64 x.t.b, .int .u64 x.t.c] 52 3 (v := .int .u64 x.t.c) rfl
            have hX := Lib.hid ((HE3.out.trans HV.out).alloc (.cells #[.int .i64 x.n, .int .u64 x.t.a, .int .u64 x.t.b, .int .u64 x.t.c] 52))
            have hX2 := Lib.hid ((Upd.refl [] wr).alloc (.cells #[.int .i64 x.n, .int .u64 x.t.a, .int .u64 x.t.b, .int .u64 x.t.c] 52))
            go_upto_region 20 with fail
            generalize wr.alloc (.cells #[.int .i64 x.n, .int .u64 x.t.a, .int .u64 x.t.b, .int .u64 x.t.c] 52) = wA at *
            clear y0 y1 y2 y3
            generalize wr.heap.size = ob at *
            go_region_held3 (fun w' => w'.cell? ⟨ob, 0, none⟩ = some (.int .i64 x.n) ∧ w'.cell? ⟨ob, 1, none⟩ = some (.int .u64 x.t.a) ∧ w'.cell? ⟨ob, 2, none⟩ = some (.int .u64 x.t.b) ∧ w'.cell? ⟨ob, 3, none⟩ = some (.int .u64 x.t.c)) (go_keep)
              (first
                | (go_at_call_of 48 (Value.pointer (some ⟨la, 0, none⟩)); refine (ga.out _ hX.out.drew).mono ?_; rintro e wb ⟨rfl, hu⟩; have b0 := hu.cellS (show wA.drew.cell? _ = _ from z0) (by simp); have b1 := hu.cellS (show wA.drew.cell? _ = _ from z1) (by simp); have b2 := hu.cellS (show wA.drew.cell? _ = _ from z2) (by simp); have b3 := hu.cellS (show wA.drew.cell? _ = _ from z3) (by simp); have HVb := Lib.hid (hX.out.drew.trans hu); have HQb := Lib.hid hu; clear hu)
                | (go_at_call_of 48 (Value.pointer (some ⟨lc, 0, none⟩)); refine (gc.out _ HVb.out).mono ?_; rintro e wc2 ⟨rfl, hu⟩; have c0 := hu.cellS b0 (by simp); have c1 := hu.cellS b1 (by simp); have c2 := hu.cellS b2 (by simp); have c3 := hu.cellS b3 (by simp); have HVc := Lib.hid (HVb.out.trans hu); have HQc := Lib.hid hu; clear hu)
                | (go_at_call_of 48 (Value.pointer (some ⟨ld, 0, none⟩)); refine (gd.out _ HVc.out).mono ?_; rintro e wd ⟨rfl, hu⟩; have d0 := hu.cellS c0 (by simp); have d1 := hu.cellS c1 (by simp); have d2 := hu.cellS c2 (by simp); have d3 := hu.cellS c3 (by simp); have HVd := Lib.hid (HVc.out.trans hu); have HVR := Lib.hid (show Upd [] wA.drew wd from (HQb.out.trans HQc.out).trans hu); clear hu))
            go_wp2_with fail
            go_roundg (l10.length - (j + 1))
            case measure => have := HM.out; omega
            case rel =>
              have h1 : Upd [] wA wA.drew := (Upd.refl [] wA).drew
              exact ⟨j + 1, by have := HM.out; omega, rfl, HV.out.trans (hX2.out.trans (h1.trans HVR.out))⟩
          · have hjj : ¬ (j : Int) < (lk1.length : Int) + lk2.length := by have := hlen10.out; omega
            have HA := Lib.hid (HA8.out.keep (HE3.out.trans HV.out) (by simp) (by simp) (by simp))
            have HUB := Lib.hid (Upd.updB (B := wc.heap.size) (HW8.out.trans (HE3.out.trans HV.out)))
            clear HK3 HM HV HE3 HA8 HC8 HD8 HW8 HSum HCB HDB
            go_wp2_with fail
            go_loopg [12, 13, 108] ys.length (fun m v12 v13 v108 wz => ∃ (i : Nat) (M : List (StampK × Int)), m + i = ys.length ∧ v108 = .int .i64 i ∧ LedAt wz la ta ma M ∧ (∀ x, cnt M x = tot (ys.map prL) x - tot ((ys.map prL).take i) x) ∧ UpdB wc.heap.size wc wz)
            case atStart => exact ⟨0, Ma, rfl, rfl, HA.out, fun x => by rw [HAC.out x]; simp [tot], HUB.out⟩
            case round =>
              obtain ⟨i, M, hm, rfl, ht, hc, hu⟩ := hrel
              clear HA HUB
              have HA := Lib.hid ht
              have HC := Lib.hid hc
              have HM := Lib.hid hm
              have HUB := Lib.hid hu
              clear hm hc ht hu
              by_cases hi : i < ys.length
              · have hii : (i : Int) < ys.length := by omega
                obtain ⟨o, ho⟩ : ∃ o, ys[i]? = some o := ⟨ys[i], List.getElem?_eq_getElem hi⟩
                obtain ⟨b, off, rfl, hc⟩ := HR.out i o ho
                have hbl := lt_of_cell (hc 0 _ rfl)
                have y0 := HUB.out.cellS (hc 0 _ rfl) hbl
                have y1 := HUB.out.cellS (hc 1 _ rfl) hbl
                have y2 := HUB.out.cellS (hc 2 _ rfl) hbl
                have y3 := HUB.out.cellS (hc 3 _ rfl) hbl
                have y4 := HUB.out.cellS (hc 4 _ rfl) hbl
                have y5 := HUB.out.cellS (hc 5 _ rfl) hbl
                clear hc
                simp only [Nat.add_zero] at y0
                have HO := Lib.hid ho
                clear ho
                have hb0 := HPB.out ys hyl o.s
                have hb1 := HPB.out (ys.take i) (by simp; omega) o.s
                rw [List.map_take] at hb1
                have hbd : -600 ≤ cnt M o.s ∧ cnt M o.s ≤ 600 := by rw [HC.out]; omega
                have HBD := Lib.hid hbd
                clear hb0 hb1 hbd
                have z0 := cell_new wr #[.int .i64 o.kd, .int .i64 o.iv, .int .i64 o.s.n, .int .u64 o.s.t.a, .int .u64 o.s.t.b, .int .u64 o.s.t.c] 90 0 (v := .int .i64 o.kd) rfl
                have z2 := cell_new wr #[.int .i64 o.kd, .int .i64 o.iv, .int .i64 o.s.n, .int .u64 o.s.t.a, .int .u64 o.s.t.b, .int .u64 o.s.t.c] 90 2 (v := .int .i64 o.s.n) rfl
                have z3 := cell_new wr #[.int .i64 o.kd, .int .i64 o.iv, .int .i64 o.s.n, .int .u64 o.s.t.a, .int .u64 o.s.t.b, .int .u64 o.s.t.c] 90 3 (v := .int .u64 o.s.t.a) rfl
                have z4 := cell_new wr #[.int .i64 o.kd, .int .i64 o.iv, .int .i64 o.s.n, .int .u64 o.s.t.a, .int .u64 o.s.t.b, .int .u64 o.s.t.c] 90 4 (v := .int .u64 o.s.t.b) rfl
                have z5 := cell_new wr #[.int .i64 o.kd, .int .i64 o.iv, .int .i64 o.s.n, .int .u64 o.s.t.a, .int .u64 o.s.t.b, .int .u64 o.s.t.c] 90 5 (v := .int .u64 o.s.t.c) rfl
                have hA := (Upd.refl [] wr).alloc (.cells #[.int .i64 o.kd, .int .i64 o.iv, .int .i64 o.s.n, .int .u64 o.s.t.a, .int .u64 o.s.t.b, .int .u64 o.s.t.c] 90)
                have HA1 := Lib.hid (HA.out.keep hA (by simp) (by simp) (by simp))
                have HUB1 := Lib.hid (HUB.out.trans (Upd.updB hA))
                have HOB : Hid (wr.heap.size ∉ [ma]) := Lib.hid (by simp; have := HA.out.lt; omega)
                go_upto_region 26 with fail
                generalize wr.alloc (.cells #[.int .i64 o.kd, .int .i64 o.iv, .int .i64 o.s.n, .int .u64 o.s.t.a, .int .u64 o.s.t.b, .int .u64 o.s.t.c] 90) = wA at *
                clear hA HA HUB y0 y1 y2 y3 y4 y5
                generalize wr.heap.size = ob at *
                have hB1 := Lib.hid (fun (x : World) (y : World) (h : Upd [ma] x y) => (show UpdB wc.heap.size x y from ⟨_, fun b hb => by simp at hb; subst hb; exact HMA.out, h⟩))
                by_cases hk : o.kd.tmod 2 = 0
                · have hkb : (o.kd.tmod 2 == 0) = true := by simpa using hk
                  have HK := Lib.hid hk
                  clear hk
                  go_wp2_with (go_at_call 49; refine (useL HA1.out o.s (by have := HBD.out; omega)).mono ?_; rintro e w6 ⟨M1, rfl, ht, hc, hl, hu⟩; have HA2 := Lib.hid ht; have HC2 := Lib.hid hc; have HU2 := Lib.hid hu; replace z0 := hu.cellS z0 HOB.out; replace z2 := hu.cellS z2 HOB.out; replace z3 := hu.cellS z3 HOB.out; replace z4 := hu.cellS z4 HOB.out; replace z5 := hu.cellS z5 HOB.out; clear ht hc hl hu)
                  go_roundg (ys.length - (i + 1))
                  case measure => have := HM.out; omega
                  case rel =>
                  refine ⟨i + 1, M1, by have := HM.out; omega, rfl, HA2.out, fun x => ?_, HUB1.out.trans (hB1.out _ _ HU2.out)⟩
                  have ht := tot_take (l := ys.map prL) (i := i) (p := prL o) (by simp [HO.out]) x
                  have hc := HC.out x
                  have hsg : sgL o = 1 := by unfold sgL; rw [if_pos HK.out]
                  rw [ht]
                  simp only [prL, hsg]
                  have h2 := HC2.out x
                  rw [h2, hc]
                  by_cases q : o.s = x
                  · simp only [if_pos q]; omega
                  · simp only [if_neg q]; omega
                · have hkb : (o.kd.tmod 2 == 0) = false := by simpa using hk
                  have HK := Lib.hid hk
                  clear hk
                  go_wp2_with (first
                    | (go_at_call 49; refine (useL HA1.out o.s (by have := HBD.out; omega)).mono ?_; rintro e w6 ⟨M1, rfl, ht, hc, hl, hu⟩; have HA2 := Lib.hid ht; have HC2 := Lib.hid hc; have HU2 := Lib.hid hu; replace z0 := hu.cellS z0 HOB.out; replace z2 := hu.cellS z2 HOB.out; replace z3 := hu.cellS z3 HOB.out; replace z4 := hu.cellS z4 HOB.out; replace z5 := hu.cellS z5 HOB.out; clear ht hc hl hu)
                    | (go_at_call 50; have _hq := HA3; refine (makeL HA3.out o.s (by have h1 := HBD.out; have h2 := HC2.out o.s; have h3 := HC3.out o.s; simp at h2 h3; omega)).mono ?_; rintro e w8 ⟨M3, rfl, ht, hc, hl, hu⟩; have HA4 := Lib.hid ht; have HC4 := Lib.hid hc; have HU4 := Lib.hid hu; clear ht hc hl hu)
                    | (go_at_call 50; refine (makeL HA2.out o.s (by have h1 := HBD.out; have h2 := HC2.out o.s; simp at h2; omega)).mono ?_; rintro e w7 ⟨M2, rfl, ht, hc, hl, hu⟩; have HA3 := Lib.hid ht; have HC3 := Lib.hid hc; have HU3 := Lib.hid hu; replace z0 := hu.cellS z0 HOB.out; replace z2 := hu.cellS z2 HOB.out; replace z3 := hu.cellS z3 HOB.out; replace z4 := hu.cellS z4 HOB.out; replace z5 := hu.cellS z5 HOB.out; clear ht hc hl hu))
                  go_roundg (ys.length - (i + 1))
                  case measure => have := HM.out; omega
                  case rel =>
                  refine ⟨i + 1, M3, by have := HM.out; omega, rfl, HA4.out, fun x => ?_, ((HUB1.out.trans (hB1.out _ _ HU2.out)).trans (hB1.out _ _ HU3.out)).trans (hB1.out _ _ HU4.out)⟩
                  have ht := tot_take (l := ys.map prL) (i := i) (p := prL o) (by simp [HO.out]) x
                  have hc := HC.out x
                  have hsg : sgL o = -1 := by unfold sgL; rw [if_neg HK.out]
                  rw [ht]
                  simp only [prL, hsg]
                  have h2 := HC2.out x
                  have h3 := HC3.out x
                  have h4 := HC4.out x
                  rw [h4, h3, h2, hc]
                  by_cases q : o.s = x
                  · simp only [if_pos q]; omega
                  · simp only [if_neg q]; omega
              · have hii : ¬ (i : Int) < ys.length := by omega
                obtain rfl : i = ys.length := by have := HM.out; omega
                have hz : ∀ x, cnt M x = 0 := fun x => by rw [HC.out x, List.take_of_length_le (by simp)]; omega
                obtain rfl := led_nil HA.out hz
                clear hz
                go_wp2_with (first
                  | (go_at_call 51; refine (lLen HA.out).mono ?_; rintro e wq ⟨rfl, rfl⟩)
                  | (go_at_call 46; refine (lChanges HA.out (by simp)).mono ?_; rintro e w7 ⟨a1, c1, l1, rfl, h1, h2, h3, h4, h5⟩; obtain rfl : l1 = [] := (by simpa using h2); have HA2 := Lib.hid (HA.out.keep h5 (by simp) (by simp) (by simp)); have HZ := Lib.hid h5; clear h1 h2 h3 h4 h5)
                  | (go_at_call 47; refine (lKeys HA2.out (by simp)).mono ?_; rintro e w10 ⟨a1, c1, l1, rfl, h1, h2, h3, h4, h5⟩; obtain rfl : l1 = [] := (by simpa using h2); have HZ2 := Lib.hid (HZ.out.trans h5); clear h1 h2 h3 h4 h5))
                go_ret
                exact ⟨rfl, HUB.out.trans (Upd.updB HZ2.out)⟩
end Go.Proofs.Ytcdmdpgfadopcaa
