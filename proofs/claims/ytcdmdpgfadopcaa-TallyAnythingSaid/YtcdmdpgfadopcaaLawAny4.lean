/-
  sluicelaw04: TallyAnything, the walk.
-/
import Derived.Test.YtcdmdpgfadopcaaLawAny3
namespace Go.Proofs.Ytcdmdpgfadopcaa
open Go.Slu Go.MapKept Go.RowKit Go.Sort

set_option maxHeartbeats 4000000 in
set_option maxRecDepth 20000 in
theorem anything_any (w : World) (aa : Option Addr) (xs : List CountK) (ca : Nat) (hrd : Rd 4 eeCt w aa xs) (hxl : xs.length ≤ maxLen) :
    Calls Try.prog 4 #[.slice aa xs.length ca] w fun e w' => e = .returned (.bool true) ∧ UpdB w.heap.size w w' := by
  have HRD := Lib.hid hrd
  have hxl' : (xs.length : Int) ≤ 9223372036854775807 := by simp only [maxLen] at hxl; omega
  clear hrd hxl
  go_enter Try.func4, Try.ntmps4
  go_upto_region 6 with (first
    | (go_at_call 19; refine (newPk (ek := ekP2) _ _).mono ?_; rintro e w1 ⟨rfl, ht, hu⟩; have HT := Lib.hid ht; have HU := Lib.hid hu; clear ht hu)
    | (go_at_call 21; refine (newMk (ek := ekM2) _ _).mono ?_; rintro e w2 ⟨rfl, ht, hu⟩; have HV := Lib.hid ht; have HW := Lib.hid hu; clear ht hu)
    | (go_at_call 15; refine (known_any _).mono ?_; rintro e w3 ⟨rfl, hu⟩; have HX := Lib.hid hu; clear hu))
  have hA : AnyS w.heap.size w3 (w.heap.size + 1) w.heap.size w1.heap.size (w1.heap.size + 1 + 1) (w1.heap.size + 1) [w1.heap.size] 0 [] [] [] := by
    have hw : (w1.alloc (.cells #[.int .i64 0, .slice none 0 0, .slice none 0 0] 31)).heap.size = w1.heap.size + 1 := by simp
    have hv := HV.out
    rw [hw] at hv
    have hl := HT.out.lt
    have h1 := (Upd.refl [] w1).alloc (.cells #[.int .i64 0, .slice none 0 0, .slice none 0 0] 31)
    have hblk := HX.out.at (HW.out.at (heap_alloc w1 (.cells #[.int .i64 0, .slice none 0 0, .slice none 0 0] 31)).1 (by simp)) (by simp)
    refine ⟨((HT.out.keep h1 (by simp) (by simp)).keep HW.out (by simp) (by simp)).keep HX.out (by simp) (by simp), ⟨none, 0, none, 0, ⟨hblk, OwnAt.nil _ _ _ _, OwnAt.nil _ _ _ _⟩, by simp [ablk]⟩, ⟨by simp, by simp⟩, ⟨by simp, fun x => rfl⟩, by simp, by simp, hv.keep HX.out (by simp) (by simp), fun p => by rw [if_neg (by omega)]; rfl, rfl, ?_, ?_, ?_⟩
    · simp; omega
    · omega
    · simp; omega
  have HUB := Lib.hid (Upd.updB (B := w.heap.size) ((((HU.out.alloc (.cells #[.int .i64 0, .slice none 0 0, .slice none 0 0] 31))).trans HW.out).trans HX.out))
  clear HT HU HV HW HX
  obtain ⟨tb, mb, rb, tu, mu, F, h1, h2, h3, hA'⟩ : ∃ tb mb rb tu mu F, w.heap.size + 1 = tb ∧ w1.heap.size = rb ∧ rb + 1 + 1 = tu ∧ AnyS w.heap.size w3 tb mb rb tu mu F 0 [] [] [] := ⟨_, _, _, _, _, _, rfl, rfl, rfl, hA⟩
  rw [h1, h2, h3]
  have HA := Lib.hid hA'
  clear hA hA' h1 h2 h3
  go_upto_block 0 with fail
  go_cut [] (fun wx => ∃ (F : List Nat) (i : Nat) (M : List (PairK × Int)) (L : List (RKey × Int)) (U : List (PlaceK × Int)), i ≤ 200 ∧ AnyS w.heap.size wx tb mb rb tu mu F i M L U ∧ UpdB w.heap.size w wx)
  case first =>
    go_wp2_with fail
    go_loopg [6, 7, 8, 27] xs.length (fun m v6 v7 v8 v27 wz => ∃ (i : Nat) (F : List Nat) (M : List (PairK × Int)) (L : List (RKey × Int)) (U : List (PlaceK × Int)), m + i = xs.length ∧ v27 = .int .i64 i ∧ i ≤ 200 ∧ AnyS w.heap.size wz tb mb rb tu mu F i M L U ∧ UpdB w.heap.size w wz)
    case atStart => exact ⟨0, F, [], [], [], rfl, rfl, by omega, HA.out, HUB.out⟩
    case round =>
      obtain ⟨i, F2, M, L, U, hm, rfl, hi2, hst, hu⟩ := hrel
      clear HA HUB
      have HS := Lib.hid hst
      have HM := Lib.hid hm
      have HU := Lib.hid hu
      clear hst hm hu
      by_cases hi : i < xs.length
      · have hii : (i : Int) < xs.length := by omega
        obtain ⟨c, hc0⟩ : ∃ c, xs[i]? = some c := ⟨xs[i], List.getElem?_eq_getElem hi⟩
        obtain ⟨b, off, rfl, hc⟩ := HRD.out i c hc0
        have hbl := lt_of_cell (hc 0 _ rfl)
        have y0 := HU.out.cellS (hc 0 _ rfl) hbl
        have y1 := HU.out.cellS (hc 1 _ rfl) hbl
        have y2 := HU.out.cellS (hc 2 _ rfl) hbl
        have y3 := HU.out.cellS (hc 3 _ rfl) hbl
        clear hc hc0
        simp only [Nat.add_zero] at y0
        obtain ⟨ck, cn⟩ := c
        simp only at y0 y1 y2 y3
        by_cases h200 : i = 200
        · have h3 : ((i : Int) == 200) = true := by simp; omega
          have H200 := Lib.hid h200
          clear h200
          go_wp2_with fail
          go_meet
          exact ⟨F2, i, M, L, U, hi2, HS.out.keep ((Upd.refl [] wr).alloc _), HU.out.trans (Upd.updB ((Upd.refl [] wr).alloc _))⟩
        · have h3 : ((i : Int) == 200) = false := by simp; omega
          have H200 := Lib.hid h200
          clear h200
          have z0 := cell_new wr #[.int .i64 ck.a, .int .u8 (ck.b0.toNat : Int), .int .u8 (ck.b1.toNat : Int), .int .i64 cn] 55 0 (v := .int .i64 ck.a) rfl
          have z1 := cell_new wr #[.int .i64 ck.a, .int .u8 (ck.b0.toNat : Int), .int .u8 (ck.b1.toNat : Int), .int .i64 cn] 55 1 (v := .int .u8 (ck.b0.toNat : Int)) rfl
          have z2 := cell_new wr #[.int .i64 ck.a, .int .u8 (ck.b0.toNat : Int), .int .u8 (ck.b1.toNat : Int), .int .i64 cn] 55 2 (v := .int .u8 (ck.b1.toNat : Int)) rfl
          have z3 := cell_new wr #[.int .i64 ck.a, .int .u8 (ck.b0.toNat : Int), .int .u8 (ck.b1.toNat : Int), .int .i64 cn] 55 3 (v := .int .i64 cn) rfl
          have hX := (Upd.refl [] wr).alloc (.cells #[.int .i64 ck.a, .int .u8 (ck.b0.toNat : Int), .int .u8 (ck.b1.toNat : Int), .int .i64 cn] 55)
          go_upto_region 10 with fail
          generalize wr.alloc (.cells #[.int .i64 ck.a, .int .u8 (ck.b0.toNat : Int), .int .u8 (ck.b1.toNat : Int), .int .i64 cn] 55) = wA at *
          have HS2 := Lib.hid (HS.out.keep hX)
          have HU2 := Lib.hid (HU.out.trans (Upd.updB hX))
          have hobm : wr.heap.size ≠ mb := fun e => by have := HS.out.t.lt; omega
          have hobF : wr.heap.size ∉ F2 := fun e => by have := HS.out.r.lt _ e; omega
          have HB2 := Lib.hid (show w.heap.size ≤ wA.heap.size from HU2.out.size)
          clear hX HS HU y0 y1 y2 y3
          generalize wr.heap.size = ob at *
          have HOM : Hid (ob ∉ [mb]) := Lib.hid (by simpa using hobm)
          have HOF := Lib.hid hobF
          clear hobm hobF
          have hsp := sameP_add HS2.out.l HS2.out.s ck cn
          have hml := setM_lenK M ck (cnt M ck + cn)
          have hadd := Lib.hid (fun W (hW : TallyPk ekP2 W tb mb 20 M) => addPk kvP tb mb 20 M ck cn W hW (tally_okcK kvP.ops HS2.out.t ck))
          have haddr := fun W (hW : RefF F2 W rb 0 L) => addR F2 W rb 0 L hW HS2.out.l (by have := HS2.out.ll; omega) (rkP ck) cn
          rw [← HS2.out.s.eq] at haddr
          have hM'l : (if okC cn && okC (cnt M ck + cn) then setM M ck (cnt M ck + cn) else M).length ≤ i + 1 := by
            have := HS2.out.ml
            split <;> omega
          have hL'l := hsp.2.2
          unfold AddedPk at hadd
          generalize hr : (if okC cn && okC (cnt M ck + cn) then (0 : Int) else 12) = r at hadd haddr
          generalize hM' : (if okC cn && okC (cnt M ck + cn) then setM M ck (cnt M ck + cn) else M) = M' at hadd hM'l hsp
          generalize hL' : (if okC cn && okC (cnt M ck + cn) then put L (rkP ck) (cnt M ck + cn) else L) = L' at haddr hsp hL'l
          clear hr hM' hL' hml
          have HAR := Lib.hid haddr
          have HSP := Lib.hid hsp
          have HLL := Lib.hid (show L'.length ≤ i + 1 from by have := HS2.out.ll; omega)
          clear haddr hsp hL'l
          have hkey := Lib.hid (fun W => key_any ck W)
          go_region_held3 (fun w' => w'.cell? ⟨ob, 0, none⟩ = some (.int .i64 ck.a) ∧ w'.cell? ⟨ob, 1, none⟩ = some (.int .u8 (ck.b0.toNat : Int)) ∧ w'.cell? ⟨ob, 2, none⟩ = some (.int .u8 (ck.b1.toNat : Int)) ∧ w'.cell? ⟨ob, 3, none⟩ = some (.int .i64 cn)) (go_keep)
            (first
              | (go_at_call 28; refine (paired_any F3 _ tb mb rb M' L' (HT3.out.keep HQ7.out (by simp) (by simp)) (HR3.out.keep HQ7.out (by simp)) HSP.out.1 HSP.out.2.1 (by omega) (by have := HLL.out; omega)).mono ?_; rintro e wH ⟨rfl, hu⟩; have g0 := hu.cellS f0 (by simp); have g1 := hu.cellS f1 (by simp); have g2 := hu.cellS f2 (by simp); have g3 := hu.cellS f3 (by simp); have HQ8 := Lib.hid (HQ7.out.trans hu); clear hu)
              | (go_at_call 27; refine (getF F3 _ rb 0 L' (HR3.out.keep HQ6.out (by simp)) HSP.out.1 (by have := HLL.out; omega) (rkP ck)).mono ?_; rintro e wG ⟨rfl, hg⟩; rw [← HSP.out.2.1.eq ck]; have f0 := hg.upd.cellS q0 (by simp); have f1 := hg.upd.cellS q1 (by simp); have f2 := hg.upd.cellS q2 (by simp); have f3 := hg.upd.cellS q3 (by simp); have HQ7 := Lib.hid (HQ6.out.trans hg.upd); clear hg)
              | (go_at_call 25; have _hq := d0; refine (hkey.out _).mono ?_; rintro e wF ⟨rfl, hg⟩; have q0 := hg.upd.cellS d0 (by simp); have q1 := hg.upd.cellS d1 (by simp); have q2 := hg.upd.cellS d2 (by simp); have q3 := hg.upd.cellS d3 (by simp); have HQ6 := Lib.hid (HQ5.out.trans hg.upd); clear hg)
              | (go_at_call 26; refine (getPk kvP tb mb _ M' ck _ HT3.out).mono ?_; rintro e wE ⟨rfl, hu⟩; have d0 := hu.cellS c0 (by simp); have d1 := hu.cellS c1 (by simp); have d2 := hu.cellS c2 (by simp); have d3 := hu.cellS c3 (by simp); have HQ5 := Lib.hid hu; clear hu)
              | (go_at_call 24; refine (HAR.out _ (((HS2.out.r.keep (Upd.refl [] _).drew (by simp)).keep HUB2.out (fun x hx _ hx2 => by (simp at hx2; subst hx2; exact HS2.out.dF.2.1 hx))).grew HGC.out)).mono ?_; rintro e wD ⟨rfl, hst⟩; obtain ⟨F3, hB4, hT3, hR3, hV3, hdF, hlo, _⟩ := ((HS2.out.keep (Upd.refl [] _).drew).pair HB2.out HTB.out HUB2.out HGC.out.upd hst HSP.out.1 HSP.out.2.1 hM'l HLL.out); obtain ⟨_, _, _, hu4⟩ := hst; have c0 := hu4.cellS b0 HOF.out; have c1 := hu4.cellS b1 HOF.out; have c2 := hu4.cellS b2 HOF.out; have c3 := hu4.cellS b3 HOF.out; have HT3 := Lib.hid hT3; have HR3 := Lib.hid hR3; have HV3 := Lib.hid hV3; have HDF := Lib.hid hdF; have HLO := Lib.hid hlo; have HB4 := Lib.hid hB4; clear hT3 hR3 hV3 hdF hlo hB4 hu4)
              | (go_at_call 25; have _hq := a0; refine (hkey.out _).mono ?_; rintro e wC ⟨rfl, hg⟩; have b0 := hg.upd.cellS a0 (by simp); have b1 := hg.upd.cellS a1 (by simp); have b2 := hg.upd.cellS a2 (by simp); have b3 := hg.upd.cellS a3 (by simp); have HGC := Lib.hid hg; clear hg)
              | (go_at_call 23; refine (hadd.out _ (HS2.out.t.keep (Upd.refl [] _).drew (by simp) (by simp))).mono ?_; rintro e wB ⟨rfl, ht, hu⟩; have a0 := hu.cellS (show wA.drew.cell? _ = _ from z0) HOM.out; have a1 := hu.cellS (show wA.drew.cell? _ = _ from z1) HOM.out; have a2 := hu.cellS (show wA.drew.cell? _ = _ from z2) HOM.out; have a3 := hu.cellS (show wA.drew.cell? _ = _ from z3) HOM.out; have HTB := Lib.hid ht; have HUB2 := Lib.hid hu; clear ht hu))
          have hX := HQ8.out.alloc (.cells #[.int .i64 (i : Int), .int .u64 0, .int .u64 0, .int .u64 0] 52)
          have k0 := cell_new wH #[.int .i64 (i : Int), .int .u64 0, .int .u64 0, .int .u64 0] 52 0 (v := .int .i64 (i : Int)) rfl
          have k1 := cell_new wH #[.int .i64 (i : Int), .int .u64 0, .int .u64 0, .int .u64 0] 52 1 (v := .int .u64 0) rfl
          have k2 := cell_new wH #[.int .i64 (i : Int), .int .u64 0, .int .u64 0, .int .u64 0] 52 2 (v := .int .u64 0) rfl
          have k3 := cell_new wH #[.int .i64 (i : Int), .int .u64 0, .int .u64 0, .int .u64 0] 52 3 (v := .int .u64 0) rfl
          have HSM : Hid (wH.heap.size ∉ [mu]) := Lib.hid (by simp; have := HV3.out.lt; have := HQ8.out.size; omega)
          clear a0 a1 a2 a3 b0 b1 b2 b3 c0 c1 c2 c3 d0 d1 d2 d3 q0 q1 q2 q3 f0 f1 f2 f3 g0 g1 g2 g3 z0 z1 z2 z3
          go_upto_region 13 with fail
          generalize wH.alloc (.cells #[.int .i64 (i : Int), .int .u64 0, .int .u64 0, .int .u64 0] 52) = wI at *
          have T9 := Lib.hid (HT3.out.keep hX (by simp) (by simp))
          have R9 := Lib.hid (HR3.out.keep hX (by simp))
          have V9 := Lib.hid (HV3.out.keep hX (by simp) (by simp))
          have B9 := Lib.hid ((HU2.out.trans (Upd.updB (Upd.refl [] wA).drew)).trans (HB4.out.trans (Upd.updB hX)))
          clear hX
          generalize wH.heap.size = pb at *
          have hadU := Lib.hid (fun W (hW : TallyMk ekM2 W tu mu 22 U) => u_add hi2 HS2.out.uc HS2.out.ul W hW)
          go_wp2_with (first
            | (go_at_call 29; refine (hadU.out _ V9.out).mono ?_; rintro e wJ ⟨U', rfl, ht, huc, hul, hu⟩; have V10 := Lib.hid ht; have UC := Lib.hid huc; have UL := Lib.hid hul; have HUJ := Lib.hid hu; replace k0 := hu.cellS k0 HSM.out; replace k1 := hu.cellS k1 HSM.out; replace k2 := hu.cellS k2 HSM.out; replace k3 := hu.cellS k3 HSM.out; clear ht huc hul hu)
            | (go_at_call 30; refine (u_get hi2 UC.out _ V10.out).mono ?_; rintro e wK ⟨rfl, hu⟩; have HUK := Lib.hid hu; clear hu)
            | (go_at_call 31; refine (lenMk tu mu _ U' _ (V10.out.keep HUK.out (by simp) (by simp))).mono ?_; rintro e wL ⟨rfl, rfl⟩; rw [UL.out]))
          go_roundg (xs.length - (i + 1))
          case measure => have := HM.out; omega
          case rel =>
            have hne := HS2.out.dM
            refine ⟨i + 1, F3, M', L', U', by have := HM.out; omega, by simp, by have := H200.out; omega, ⟨(T9.out.keep HUJ.out (by simpa using hne.2.2.symm) (by simpa using hne.2.1)).keep HUK.out (by simp) (by simp), (R9.out.keep HUJ.out (fun x hx _ hx2 => by simp at hx2; subst hx2; exact HDF.out.2.2.2 hx)).keep HUK.out (by simp), HSP.out.1, HSP.out.2.1, hM'l, HLL.out, V10.out.keep HUK.out (by simp) (by simp), UC.out, UL.out, HDF.out, hne, HS2.out.lo.1, HS2.out.lo.2.1, HLO.out⟩, (B9.out.trans ⟨_, fun x hx => by simp at hx; subst hx; exact HS2.out.lo.2.1, HUJ.out⟩).trans (Upd.updB HUK.out)⟩
      · have hii : ¬ (i : Int) < xs.length := by omega
        go_wp2_with fail
        go_meet
        exact ⟨F2, i, M, L, U, hi2, HS.out, HU.out⟩
  case rest =>
    obtain ⟨F2, i, M, L, U, hi2, hst, hu⟩ := hcut
    have HS := Lib.hid hst
    have HU := Lib.hid hu
    clear hst hu HA HUB HRD
    have hkeys := Lib.hid (u_keys hi2 HS.out.uc HS.out.ul _ HS.out.u)
    go_wp2_with (go_at_call 32; refine hkeys.out.mono ?_; rintro e wk ⟨a, c, rfl, ho, hu⟩; have HO := Lib.hid ho; have HK := Lib.hid hu; clear ho hu)
    clear hkeys
    go_loopg [9, 10, 93] i (fun m v9 v10 v93 wz => ∃ j : Nat, m + j = i ∧ v93 = .int .i64 j ∧ Upd [] wk wz)
    case atStart => exact ⟨0, rfl, rfl, Upd.refl _ _⟩
    case round =>
      obtain ⟨j, hm, rfl, hu⟩ := hrel
      have HM := Lib.hid hm
      have HZ := Lib.hid hu
      clear hm hu
      by_cases hj : j < i
      · have hjj : (j : Int) < i := by omega
        have hpj := plc_n (i := j) (by omega)
        obtain ⟨g1, o1, rfl, hc⟩ := HO.out.rd elemM2.len j (plc j) (plcs_at hj)
        have y0 := HZ.out.cellS (hc 0 _ rfl) (by simp)
        have y1 := HZ.out.cellS (hc 1 _ rfl) (by simp)
        have y2 := HZ.out.cellS (hc 2 _ rfl) (by simp)
        have y3 := HZ.out.cellS (hc 3 _ rfl) (by simp)
        clear hc
        simp only [Nat.add_zero, hpj] at y0
        have k0 := cell_new wr #[.int .i64 (j : Int), .int .u64 0, .int .u64 0, .int .u64 0] 52 0 (v := .int .i64 (j : Int)) rfl
        have HX := Lib.hid (HZ.out.alloc (.cells #[.int .i64 (j : Int), .int .u64 0, .int .u64 0, .int .u64 0] 52))
        clear hpj
        go_wp2_with fail
        go_roundg (i - (j + 1))
        case measure => have := HM.out; omega
        case rel => exact ⟨j + 1, by have := HM.out; omega, rfl, HX.out⟩
      · have hjj : ¬ (j : Int) < i := by omega
        have hp := Lib.hid (HS.out.keep (HK.out.trans HZ.out))
        go_wp2_with (go_at_call 28; refine (paired_any F2 _ tb mb rb M L hp.out.t hp.out.r hp.out.l hp.out.s (by have := hp.out.ml; omega) (by have := hp.out.ll; omega)).mono ?_; rintro e we ⟨rfl, hu⟩)
        go_ret
        exact ⟨rfl, (HU.out.trans (Upd.updB (HK.out.trans HZ.out))).trans (Upd.updB hu)⟩
end Go.Proofs.Ytcdmdpgfadopcaa
