/-
  sluicelaw04: TallyKeeps, the walk.
-/
import Derived.Test.YtcdmdpgfadopcaaLawTally17
namespace Go.Slu
theorem ivl {e : TypeId} {k : Nat} {α : Type} {ee : α → List Value} {w w' : World} {a : Option Addr} {c : Nat} {xs : List α} (ho : OwnAt e k ee w' a c xs) (hf : ∀ b ∈ ablk a, w.heap.size ≤ b) : ∀ b ∈ ablk a, w.heap.size ≤ b ∧ b < w'.heap.size := fun b hb => ⟨hf b hb, ho.lt b hb⟩
end Go.Slu
namespace Go.Proofs.Ytcdmdpgfadopcaa
open Go.Slu Go.MapKept Go.RowKit Go.Sort

theorem lists_of {ss : List Sl} {w : World} {X : Nat → List Str} (own : ∀ (j : Nat) (s : Sl), ss[j]? = some s → OwnAt 9 1 eeS w s.a s.c (X j) ∧ (X j).length = s.n ∧ s.n ≤ 1000000) (lo hi : Nat → Nat)
    (hI : ∀ (j : Nat) (s : Sl), ss[j]? = some s → ∀ b ∈ ablk s.a, lo j ≤ b ∧ b < hi j) (hm : ∀ i j, i < j → j < ss.length → hi i ≤ lo j) : Lists ss w X :=
  ⟨own, fun i j s t hij hs ht b hb hb2 => by
    have h1 := hI i s hs b hb
    have h2 := hI j t ht b hb2
    have l1 := (List.getElem?_eq_some_iff.1 hs).1
    have l2 := (List.getElem?_eq_some_iff.1 ht).1
    rcases Nat.lt_or_gt_of_ne hij with h | h
    · have := hm i j h l2; omega
    · have := hm j i h l1; omega⟩
/-- the five lists of TallyKeeps, one behind the other in memory -/
structure Five (w : World) (K D : List Str) (a b c d f : Option Addr) (cA cB cC cD cF : Nat) (s2 s3 s5 s6 s7 s8 s9 s10 s11 : Nat) : Prop where
  ha : OwnAt 9 1 eeS w a cA K
  hb : OwnAt 9 1 eeS w b cB K
  hc : OwnAt 9 1 eeS w c cC K
  hd : OwnAt 9 1 eeS w d cD D
  hf : OwnAt 9 1 eeS w f cF K
  ia : ∀ x ∈ ablk a, s2 ≤ x ∧ x < s3
  ib : ∀ x ∈ ablk b, s5 ≤ x ∧ x < s6
  ic : ∀ x ∈ ablk c, s6 ≤ x ∧ x < s7
  id : ∀ x ∈ ablk d, s8 ≤ x ∧ x < s9
  i_f : ∀ x ∈ ablk f, s10 ≤ x ∧ x < s11
  m1 : s3 ≤ s5
  m2 : s5 ≤ s6
  m3 : s6 ≤ s7
  m4 : s7 ≤ s8
  m5 : s8 ≤ s9
  m6 : s9 ≤ s10
  hk : K.length ≤ 1000000
  hl : D.length ≤ 1000000
abbrev five (K D : List Str) (a b c d f : Option Addr) (cA cB cC cD cF : Nat) : List Sl := [⟨a, K.length, cA⟩, ⟨b, K.length, cB⟩, ⟨c, K.length, cC⟩, ⟨d, D.length, cD⟩, ⟨f, K.length, cF⟩]
theorem Five.keep {w w' : World} {K D : List Str} {a b c d f : Option Addr} {cA cB cC cD cF s2 s3 s5 s6 s7 s8 s9 s10 s11 : Nat} (h : Five w K D a b c d f cA cB cC cD cF s2 s3 s5 s6 s7 s8 s9 s10 s11) (hu : Upd [] w w') : Five w' K D a b c d f cA cB cC cD cF s2 s3 s5 s6 s7 s8 s9 s10 s11 :=
  ⟨h.ha.keep hu (by simp), h.hb.keep hu (by simp), h.hc.keep hu (by simp), h.hd.keep hu (by simp), h.hf.keep hu (by simp), h.ia, h.ib, h.ic, h.id, h.i_f, h.m1, h.m2, h.m3, h.m4, h.m5, h.m6, h.hk, h.hl⟩
theorem Five.lists {w : World} {K D : List Str} {a b c d f : Option Addr} {cA cB cC cD cF s2 s3 s5 s6 s7 s8 s9 s10 s11 : Nat} (h : Five w K D a b c d f cA cB cC cD cF s2 s3 s5 s6 s7 s8 s9 s10 s11) :
    Lists (five K D a b c d f cA cB cC cD cF) w (fun j => if j = 3 then D else K) := by
  obtain ⟨ha, hb, hc, hd, hf, ia, ib, ic, id, i_f, m1, m2, m3, m4, m5, m6, hk, hl⟩ := h
  refine lists_of (fun j s hs => ?_) (fun j => if j = 0 then s2 else if j = 1 then s5 else if j = 2 then s6 else if j = 3 then s8 else s10) (fun j => if j = 0 then s3 else if j = 1 then s6 else if j = 2 then s7 else if j = 3 then s9 else s11) (fun j s hs => ?_) (fun i j hij hj => ?_)
  · match j, hs with
    | 0, hs => cases hs; exact ⟨ha, rfl, hk⟩
    | 1, hs => cases hs; exact ⟨hb, rfl, hk⟩
    | 2, hs => cases hs; exact ⟨hc, rfl, hk⟩
    | 3, hs => cases hs; exact ⟨hd, rfl, hl⟩
    | 4, hs => cases hs; exact ⟨hf, rfl, hk⟩
    | n + 5, hs => simp at hs
  · match j, hs with
    | 0, hs => cases hs; exact ia
    | 1, hs => cases hs; exact ib
    | 2, hs => cases hs; exact ic
    | 3, hs => cases hs; exact id
    | 4, hs => cases hs; exact i_f
    | n + 5, hs => simp at hs
  · simp at hj
    have hj' : j = 1 ∨ j = 2 ∨ j = 3 ∨ j = 4 := by omega
    have hi' : i = 0 ∨ i = 1 ∨ i = 2 ∨ i = 3 := by omega
    rcases hj' with rfl | rfl | rfl | rfl <;> rcases hi' with rfl | rfl | rfl | rfl <;> first | omega | (simp <;> omega)
theorem Five.foot {w : World} {K D : List Str} {a b c d f : Option Addr} {cA cB cC cD cF s2 s3 s5 s6 s7 s8 s9 s10 s11 : Nat} (h : Five w K D a b c d f cA cB cC cD cF s2 s3 s5 s6 s7 s8 s9 s10 s11) {x : Nat} (hx : x ∈ foot (five K D a b c d f cA cB cC cD cF)) :
    (s2 ≤ x ∧ x < s3) ∨ (s5 ≤ x ∧ x < s7) ∨ (s8 ≤ x ∧ x < s9) ∨ (s10 ≤ x ∧ x < s11) := by
  have m2 := h.m2
  have m3 := h.m3
  simp only [five, Go.Proofs.Ytcdmdpgfadopcaa.foot, List.flatMap_cons, List.flatMap_nil, List.mem_append, List.not_mem_nil, or_false] at hx
  rcases hx with hx | hx | hx | hx | hx
  · exact .inl (h.ia x hx)
  · have := h.ib x hx; omega
  · have := h.ic x hx; omega
  · have := h.id x hx; omega
  · have := h.i_f x hx; omega

set_option maxHeartbeats 4000000 in
set_option maxRecDepth 20000 in
theorem keeps_any (w : World) (aa : Option Addr) (xs : List OpS) (ca : Nat) (hrd : Rd 5 eeO w aa xs) (hxl : xs.length ≤ maxLen) (ba : Option Addr) (ys : List OpS) (cb : Nat) (hrd2 : Rd 5 eeO w ba ys) (hyl : ys.length ≤ maxLen) :
    Calls Try.prog 5 #[.slice aa xs.length ca, .slice ba ys.length cb] w fun e w' => e = .returned (.bool true) ∧ UpdB w.heap.size w w' := by
  have hf := Lib.hid (filled_any w aa xs ca hrd hxl)
  have HRD := Lib.hid hrd2
  have hyl' : (ys.length : Int) ≤ 9223372036854775807 := by simp only [maxLen] at hyl; omega
  clear hrd hxl hrd2 hyl
  go_enter Try.func5, Try.ntmps5
  go_upto_region 5 with (first
    | (go_at_call 33; refine hf.out.mono ?_; rintro e w1 ⟨tb, mb, M, rfl, ht, hml, htb, hmb, hu1⟩; have HT1 := Lib.hid ht; have HU1 := Lib.hid hu1; have HB := Lib.hid (And.intro htb (And.intro hmb (And.intro ht.lt.1 ht.lt.2))); clear ht hu1 htb hmb)
    | (go_at_call 15; refine (known_any _).mono ?_; rintro e w2 ⟨rfl, hu2⟩; have HT2 := Lib.hid (HT1.out.keep hu2 (by simp) (by simp)); have HU2 := Lib.hid hu2; clear hu2)
    | (go_at_call 34; refine (keys_first tb mb M _ HT2.out (by omega)).mono ?_; rintro e w3 ⟨K, hK, a, cA, rfl, ho, hfr, hu3⟩; have HK := Lib.hid hK; have HA3 := Lib.hid ho; have IA := Lib.hid (ivl ho hfr); have HU3 := Lib.hid hu3; clear hK ho hfr hu3))
  have hkl : K.length ≤ 1000000 := by have := HK.out.len; omega
  have hlit := Lib.hid (OwnAt.lit (e := 9) elemS.len w3 [] (by simp [maxLen]) #[] rfl)
  go_upto_region 6 with (at_builtin; refine wpList_append_rep rfl _ _ 72 rfl elemS (xs := []) (ys := K) (aa := some ⟨w3.heap.size, 0, none⟩) (c := 0) (c2 := cA) hlit.out ((HA3.out.keep ((Upd.refl [] w3).alloc _) (by simp)).rd elemS.len) (by simp [Act.eval]) (by simp [Act.eval]) (by simp [maxLen]; omega) (by simp; omega) ?_; intro aW cW w4 ho hu hor _; have HW4 := Lib.hid ho; have IW : Hid (∀ x ∈ ablk aW, w3.heap.size ≤ x ∧ x < w4.heap.size) := Lib.hid (ivl ho (fun x hx => by (rcases hor with e | e <;> rw [e] at hx <;> simp [ablk] at hx <;> omega))); have HU4 : Hid (Upd [] w3 w4) := Lib.hid (((Upd.refl [] w3).alloc _).then hu (fun x hx hl => by simp [ablk] at hx; omega)); clear ho hu hor hlit)
  go_upto_region 9 with (first
    | (go_at_call 35; refine (copyS tb mb _ M _ ((HT2.out.keep HU3.out (by simp) (by simp)).keep HU4.out (by simp) (by simp))).mono ?_; rintro e w5 ⟨tb2, mb2, rfl, ht, hu, h1, h2⟩; have HC5 := Lib.hid ht; have HU5 := Lib.hid hu; have IU : Hid (w4.heap.size ≤ tb2 ∧ tb2 < w5.heap.size ∧ w4.heap.size ≤ mb2 ∧ mb2 < w5.heap.size) := Lib.hid (And.intro h1 (And.intro ht.lt.1 (And.intro h2 ht.lt.2))); clear ht hu h1 h2)
    | (go_at_call_of 34 (Value.pointer (some ⟨tb, 0, none⟩)); refine (keys_again tb mb M K HK.out _ (((HT2.out.keep HU3.out (by simp) (by simp)).keep HU4.out (by simp) (by simp)).keep HU5.out (by simp) (by simp)) (by omega)).mono ?_; rintro e w6 ⟨b, cB, rfl, ho, hfr, hu⟩; have HB6 := Lib.hid ho; have IB := Lib.hid (ivl ho hfr); have HU6 := Lib.hid hu; clear ho hfr hu)
    | (go_at_call_of 34 (Value.pointer (some ⟨tb2, 0, none⟩)); refine (keys_again tb2 mb2 M K HK.out _ (HC5.out.keep HU6.out (by simp) (by simp)) (by omega)).mono ?_; rintro e w7 ⟨c, cC, rfl, ho, hfr, hu⟩; have HC7 := Lib.hid ho; have IC := Lib.hid (ivl ho hfr); have HU7 := Lib.hid hu; clear ho hfr hu))
  -- all of it, ahead of the loop
  have hu37 := ((HU4.out.trans HU5.out).trans HU6.out).trans HU7.out
  have hu27 := HU3.out.trans hu37
  have hu57 := HU6.out.trans HU7.out
  have hu47 := HU5.out.trans hu57
  have T7 := Lib.hid (HT2.out.keep hu27 (by simp) (by simp))
  have A7 := Lib.hid (HA3.out.keep hu37 (by simp))
  have W7 := Lib.hid (HW4.out.keep hu47 (by simp))
  have V7 := Lib.hid (HC5.out.keep hu57 (by simp) (by simp))
  have B7 := Lib.hid (HB6.out.keep HU7.out (by simp))
  have hsz : Hid (w.heap.size ≤ w2.heap.size ∧ w1.heap.size ≤ w2.heap.size ∧ w2.heap.size ≤ w3.heap.size ∧ w3.heap.size ≤ w4.heap.size ∧ w4.heap.size ≤ w5.heap.size ∧ w5.heap.size ≤ w6.heap.size ∧ w6.heap.size ≤ w7.heap.size) := Lib.hid ⟨Nat.le_trans HU1.out.size HU2.out.size, HU2.out.size, HU3.out.size, HU4.out.size, HU5.out.size, HU6.out.size, HU7.out.size⟩
  have HU := Lib.hid ((HU1.out.trans HU2.out).trans hu27)
  clear hf hu37 hu27 hu57 hu47 HT1 HT2 HA3 HW4 HC5 HB6 HU1 HU2 HU3 HU4 HU5 HU6 HU7
  go_wp2_with fail
  go_loopg [11, 12, 38] ys.length (fun m v11 v12 v38 wz => ∃ (i : Nat) (M2 : List (Str × Int)), m + i = ys.length ∧ v38 = .int .i64 i ∧ TallyS wz tb2 mb2 (gOf 0) M2 ∧ M2.length ≤ 200 + i ∧ M2.length ≤ 400 ∧ Upd [mb2] w7 wz)
  case atStart => exact ⟨0, M, rfl, rfl, V7.out, by omega, by omega, Upd.refl _ _⟩
  case round =>
    obtain ⟨i, M2, hm, rfl, ht, hl1, hl2, hu⟩ := hrel
    have HT := Lib.hid ht
    have HM := Lib.hid hm
    have HUL := Lib.hid hu
    clear hm ht hu V7
    by_cases hi : i < ys.length
    · have hii : (i : Int) < ys.length := by omega
      obtain ⟨o, ho⟩ : ∃ o, ys[i]? = some o := ⟨ys[i], List.getElem?_eq_getElem hi⟩
      obtain ⟨b', off, rfl, hc⟩ := HRD.out i o ho
      have hUB : UpdB w.heap.size w wr := (Upd.updB HU.out).trans ⟨_, by simp; have := IU.out; have := hsz.out; omega, HUL.out⟩
      have hbl := lt_of_cell (hc 0 _ rfl)
      have y0 := hUB.cellS (hc 0 _ rfl) hbl
      have y1 := hUB.cellS (hc 1 _ rfl) hbl
      have y2 := hUB.cellS (hc 2 _ rfl) hbl
      have y3 := hUB.cellS (hc 3 _ rfl) hbl
      have y4 := hUB.cellS (hc 4 _ rfl) hbl
      clear hc ho hUB hbl
      simp only [Nat.add_zero] at y0
      have z3 := cell_new wr #[.int .i64 o.kd, .int .i64 o.iv, .int .i64 o.jv, .string o.key.s, .int .i64 o.n] 34 3 (v := .string o.key.s) rfl
      have z4 := cell_new wr #[.int .i64 o.kd, .int .i64 o.iv, .int .i64 o.jv, .string o.key.s, .int .i64 o.n] 34 4 (v := .int .i64 o.n) rfl
      have hA := (Upd.refl [] wr).alloc (.cells #[.int .i64 o.kd, .int .i64 o.iv, .int .i64 o.jv, .string o.key.s, .int .i64 o.n] 34)
      have HT1 := Lib.hid (HT.out.keep hA (by simp) (by simp))
      have HU1 := Lib.hid (HUL.out.trans (hA.mono (by simp)))
      clear hA HT HUL
      by_cases h200 : i < 200
      · have h2i : (i : Int) < 200 := by omega
        go_wp2_with (go_at_call 36; refine (addT tb2 mb2 _ M2 o.key o.n _ HT1.out).mono ?_; rintro e w6 ⟨r, M', rfl, ht6, hl6, hu6⟩; have HT6 := Lib.hid ht6; have HU6 := Lib.hid hu6; clear ht6 hu6)
        go_roundg (ys.length - (i + 1))
        case measure => have := HM.out; omega
        case rel => exact ⟨i + 1, M', by have := HM.out; omega, rfl, HT6.out, by omega, by omega, HU1.out.trans HU6.out⟩
      · have h2i : ¬ (i : Int) < 200 := by omega
        go_wp2_with fail
        go_roundg (ys.length - (i + 1))
        case measure => have := HM.out; omega
        case rel => exact ⟨i + 1, M2, by have := HM.out; omega, rfl, HT1.out, by omega, by omega, HU1.out⟩
    · have hii : ¬ (i : Int) < ys.length := by omega
      generalize wr = w8 at *
      have T8 := Lib.hid (T7.out.keep HUL.out (by simp; have := HB.out; have := IU.out; have := hsz.out; omega) (by simp; have := HB.out; have := IU.out; have := hsz.out; omega))
      have A8 := Lib.hid (A7.out.keep HUL.out (fun x hx => by simp; have := IA.out x hx; have := IU.out; have := hsz.out; omega))
      have W8 := Lib.hid (W7.out.keep HUL.out (fun x hx => by simp; have := IW.out x hx; have := IU.out; have := hsz.out; omega))
      have B8 := Lib.hid (B7.out.keep HUL.out (fun x hx => by simp; have := IB.out x hx; have := IU.out; have := hsz.out; omega))
      have C8 := Lib.hid (HC7.out.keep HUL.out (fun x hx => by simp; have := IC.out x hx; have := IU.out; have := hsz.out; omega))
      have hs8 := Lib.hid HUL.out.size
      clear T7 A7 W7 B7 HC7 HRD hi HM hl1
      go_upto_region 16 with (go_at_call 34; refine (keys_first tb2 mb2 M2 _ HT.out (by omega)).mono ?_; rintro e w9 ⟨D, hD, d, cD, rfl, ho, hfr, hu⟩; have HD := Lib.hid hD; have HD9 := Lib.hid ho; have ID := Lib.hid (ivl ho hfr); have HU9 := Lib.hid hu; clear hD ho hfr hu)
      have hdl : D.length ≤ 1000000 := by have := HD.out.len; omega
      have hlit := Lib.hid (OwnAt.lit (e := 9) elemS.len w9 [] (by simp [maxLen]) #[] rfl)
      go_upto_region 17 with (at_builtin; refine wpList_append_rep rfl _ _ 72 rfl elemS (xs := []) (ys := D) (aa := some ⟨w9.heap.size, 0, none⟩) (c := 0) (c2 := cD) hlit.out ((HD9.out.keep ((Upd.refl [] w9).alloc _) (by simp)).rd elemS.len) (by simp [Act.eval]) (by simp [Act.eval]) (by simp [maxLen]; omega) (by simp; omega) ?_; intro aN cN w10 ho hu hor _; have HN10 := Lib.hid ho; have IN : Hid (∀ x ∈ ablk aN, w9.heap.size ≤ x ∧ x < w10.heap.size) := Lib.hid (ivl ho (fun x hx => by (rcases hor with e | e <;> rw [e] at hx <;> simp [ablk] at hx <;> omega))); have HU10 : Hid (Upd [] w9 w10) := Lib.hid (((Upd.refl [] w9).alloc _).then hu (fun x hx hl => by simp [ablk] at hx; omega)); clear ho hu hor hlit)
      go_upto_region 18 with (go_at_call 34; refine (keys_again tb mb M K HK.out _ ((T8.out.keep HU9.out (by simp) (by simp)).keep HU10.out (by simp) (by simp)) (by omega)).mono ?_; rintro e w11 ⟨f, cF, rfl, ho, hfr, hu⟩; have HF11 := Lib.hid ho; have IF := Lib.hid (ivl ho hfr); have HU11 := Lib.hid hu; clear ho hfr hu)
      have hu811 := (HU9.out.trans HU10.out).trans HU11.out
      have hu911 := HU10.out.trans HU11.out
      have T11 := Lib.hid (T8.out.keep hu811 (by simp) (by simp))
      have V11 := Lib.hid (HT.out.keep hu811 (by simp) (by simp))
      have A11 := Lib.hid (A8.out.keep hu811 (by simp))
      have W11 := Lib.hid (W8.out.keep hu811 (by simp))
      have B11 := Lib.hid (B8.out.keep hu811 (by simp))
      have C11 := Lib.hid (C8.out.keep hu811 (by simp))
      have D11 := Lib.hid (HD9.out.keep hu911 (by simp))
      have N11 := Lib.hid (HN10.out.keep HU11.out (by simp))
      have hsz2 : Hid (w7.heap.size ≤ w8.heap.size ∧ w8.heap.size ≤ w9.heap.size ∧ w9.heap.size ≤ w10.heap.size ∧ w10.heap.size ≤ w11.heap.size) := Lib.hid ⟨hs8.out, HU9.out.size, HU10.out.size, HU11.out.size⟩
      have HUF : Hid (UpdB w.heap.size w w11) := Lib.hid (((Upd.updB HU.out).trans ⟨_, by simp; have := IU.out; have := hsz.out; omega, HUL.out⟩).trans (Upd.updB hu811))
      clear hu811 hu911 T8 A8 W8 B8 C8 HD9 HN10 HU9 HU10 HU11 hs8 HU HUL HT
      go_upto_region 20 with (first
        | (go_at_call_of 37 (Value.slice a K.length cA); refine (same_any _ _ _ _ _ K (by omega) (A11.out.rd elemS.len) (W11.out.rd elemS.len)).mono ?_; rintro e w12 ⟨rfl, h⟩; have HU12 := Lib.hid h; clear h)
        | (go_at_call_of 37 (Value.slice b K.length cB); refine (same_any _ _ _ _ _ K (by omega) ((B11.out.keep HU12.out (by simp)).rd elemS.len) ((W11.out.keep HU12.out (by simp)).rd elemS.len)).mono ?_; rintro e w13 ⟨rfl, h⟩; have HU13 := Lib.hid (HU12.out.trans h); clear h)
        | (go_at_call_of 37 (Value.slice c K.length cC); refine (same_any _ _ _ _ _ K (by omega) ((C11.out.keep HU13.out (by simp)).rd elemS.len) ((W11.out.keep HU13.out (by simp)).rd elemS.len)).mono ?_; rintro e w14 ⟨rfl, h⟩; have HU14 := Lib.hid (HU13.out.trans h); clear h)
        | (go_at_call_of 37 (Value.slice f K.length cF); refine (same_any _ _ _ _ _ K (by omega) ((HF11.out.keep HU14.out (by simp)).rd elemS.len) ((W11.out.keep HU14.out (by simp)).rd elemS.len)).mono ?_; rintro e w15 ⟨rfl, h⟩; have HU15 := Lib.hid (HU14.out.trans h); clear h))
      have hF : Five w11 K D a b c d f cA cB cC cD cF w2.heap.size w3.heap.size w5.heap.size w6.heap.size w7.heap.size w8.heap.size w9.heap.size w10.heap.size w11.heap.size := by
        have h1 := hsz.out
        have h2 := hsz2.out
        exact ⟨A11.out, B11.out, C11.out, D11.out, HF11.out, IA.out, IB.out, IC.out, ID.out, IF.out, by omega, by omega, by omega, by omega, by omega, by omega, hkl, hdl⟩
      have hu := HU15.out.alloc (.cells #[.slice a K.length cA, .slice b K.length cB, .slice c K.length cC, .slice d D.length cD, .slice f K.length cF] 72)
      have hF' := Lib.hid (hF.keep hu)
      have hrd := Lib.hid ((OwnAt.lit (e := 72) elemL.len w15 (five K D a b c d f cA cB cC cD cF) (by simp [maxLen]) #[.slice a K.length cA, .slice b K.length cB, .slice c K.length cC, .slice d D.length cD, .slice f K.length cF] rfl).rd elemL.len)
      have hs15 := Lib.hid HU15.out.size
      have HUL := Lib.hid hu
      clear hF hu HU12 HU13 HU14 HU15 A11 B11 C11 D11 HF11
      go_upto_region 22 with (go_at_call 38; refine (apart_any _ _ (five K D a b c d f cA cB cC cD cF) 5 (by simp) hrd.out _ hF'.out.lists (fun x hx hx2 => by (have := hF'.out.foot hx2; have h1 := hsz.out; have h2 := hsz2.out; have := hs15.out; simp [ablk] at hx; omega))).mono ?_; rintro e w16 ⟨rfl, h⟩; have HU16 := Lib.hid h; clear h)
      have hs1 := hsz.out
      have hs2 := hsz2.out
      have hsL := HUL.out.size
      have hs16 := HU16.out.size
      have hB := HB.out
      have hI := IU.out
      have T16 := Lib.hid ((T11.out.keep HUL.out (by simp) (by simp)).keep HU16.out (fun hx => by have := hF'.out.foot hx; omega) (fun hx => by have := hF'.out.foot hx; omega))
      have V16 := Lib.hid ((V11.out.keep HUL.out (by simp) (by simp)).keep HU16.out (fun hx => by have := hF'.out.foot hx; omega) (fun hx => by have := hF'.out.foot hx; omega))
      have W16 := Lib.hid ((W11.out.keep HUL.out (by simp)).keep HU16.out (fun x hx hx2 => by have := hF'.out.foot hx2; have := IW.out x hx; omega))
      have N16 := Lib.hid ((N11.out.keep HUL.out (by simp)).keep HU16.out (fun x hx hx2 => by have := hF'.out.foot hx2; have := IN.out x hx; omega))
      have HUE : Hid (UpdB w.heap.size w w16) := Lib.hid ((HUF.out.trans (Upd.updB HUL.out)).trans ⟨_, fun x hx => by have := hF'.out.foot hx; omega, HU16.out⟩)
      have IW' := Lib.hid (fun x hx => (show x ≠ mb2 from by have := IW.out x hx; omega))
      have IN' := Lib.hid (fun x hx => (show x ≠ mb2 from by have := IN.out x hx; omega))
      have HTM := Lib.hid (show tb ≠ mb2 ∧ mb ≠ mb2 ∧ mb2 < w16.heap.size ∧ w.heap.size ≤ mb2 from ⟨by omega, by omega, by omega, by omega⟩)
      clear hs1 hs2 hsL hs16 hB hI T11 V11 W11 N11 HUL HU16 hF' hrd HUF IA IB IC ID IF IW IN hsz hsz2 hs15
      go_wp2_with (first
        | (go_at_call 35; refine (copyS tb2 mb2 _ M2 _ V16.out).mono ?_; rintro e w17 ⟨tb3, mb3, rfl, ht, hu, h1, h2⟩; have HC17 := Lib.hid ht; have HU17 := Lib.hid hu; have I3 := Lib.hid (And.intro h1 h2); clear ht hu h1 h2)
        | (go_at_call 39; refine (clearS tb2 mb2 _ M2 _ (V16.out.keep HU17.out (by simp) (by simp))).mono ?_; rintro e w18 ⟨rfl, ht, hu⟩; have HV18 := Lib.hid ht; have HU18 := Lib.hid hu; clear ht hu)
        | (go_at_call_of 34 (Value.pointer (some ⟨tb, 0, none⟩)); refine (keys_again tb mb M K HK.out _ ((T16.out.keep HU17.out (by simp) (by simp)).keep HU18.out (by simpa using HTM.out.1) (by simpa using HTM.out.2.1)) (by omega)).mono ?_; rintro e w19 ⟨k1, cK, rfl, ho, hfr, hu⟩; have HK19 := Lib.hid ho; have HU19 := Lib.hid hu; clear ho hfr hu)
        | (go_at_call_of 34 (Value.pointer (some ⟨tb3, 0, none⟩)); refine (keys_again tb3 mb3 M2 D HD.out _ (((HC17.out.keep HU18.out (by simp; have := I3.out; have := HTM.out; omega) (by simp; have := I3.out; have := HTM.out; omega)).keep HU19.out (by simp) (by simp)).keep HU20.out (by simp) (by simp)) (by omega)).mono ?_; rintro e w21 ⟨k2, cL, rfl, ho, hfr, hu⟩; have HK21 := Lib.hid ho; have HU21 := Lib.hid hu; clear ho hfr hu)
        | (go_at_call_of 37 (Value.slice k1 K.length cK); refine (same_any _ _ _ _ _ K (by omega) (HK19.out.rd elemS.len) ((((W16.out.keep HU17.out (by simp)).keep HU18.out (fun x hx => by simpa using IW'.out x hx)).keep HU19.out (by simp)).rd elemS.len)).mono ?_; rintro e w20 ⟨rfl, h⟩; have HU20 := Lib.hid h; clear h)
        | (go_at_call_of 37 (Value.slice k2 D.length cL); refine (same_any _ _ _ _ _ D (by omega) (HK21.out.rd elemS.len) ((((((N16.out.keep HU17.out (by simp)).keep HU18.out (fun x hx => by simpa using IN'.out x hx)).keep HU19.out (by simp)).keep HU20.out (by simp)).keep HU21.out (by simp)).rd elemS.len)).mono ?_; rintro e w22 ⟨rfl, h⟩; have HU22 := Lib.hid h; clear h)
        | (go_at_call 40; refine (lenS tb2 mb2 _ [] _ ((((HV18.out.keep HU19.out (by simp) (by simp)).keep HU20.out (by simp) (by simp)).keep HU21.out (by simp) (by simp)).keep HU22.out (by simp) (by simp))).mono ?_; rintro e w23 ⟨rfl, rfl⟩))
      go_ret
      exact ⟨rfl, ((HUE.out.trans (Upd.updB HU17.out)).trans ⟨_, fun x hx => by simp at hx; have := HTM.out; omega, HU18.out⟩).trans (Upd.updB (((HU19.out.trans HU20.out).trans HU21.out).trans HU22.out))⟩
end Go.Proofs.Ytcdmdpgfadopcaa
