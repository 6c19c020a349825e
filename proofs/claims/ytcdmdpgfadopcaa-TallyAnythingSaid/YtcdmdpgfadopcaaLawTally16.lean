/-
  sluicelaw04: apart, the walk.
-/
import Derived.Test.YtcdmdpgfadopcaaLawTally15
import Derived.StillTailTactics
namespace Go.Proofs.Ytcdmdpgfadopcaa
open Go.Slu Go.MapKept Go.RowKit Go.Sort

theorem size9 : ∀ W : World, (Go.sizeOf 9).run Try.prog W = .ok 1 W := fun W => by
  have := elem_size elemS W
  rwa [elem_eq elemS] at this

set_option maxHeartbeats 4000000 in
set_option maxRecDepth 20000 in
theorem apart_any (w : World) (la : Option Addr) (ss : List Sl) (lc : Nat) (hss : ss.length ≤ 200) (hrd : Rd 1 eeL w la ss) (X : Nat → List Str) (hL : Lists ss w X) (hla : ∀ b ∈ ablk la, b ∉ foot ss) :
    Calls Try.prog 38 #[.slice la ss.length lc] w fun e w' => e = .returned (.bool true) ∧ Upd (foot ss) w w' := by
  have HRD := Lib.hid hrd
  have HL := Lib.hid hL
  have HLA := Lib.hid hla
  clear hrd hL hla
  go_enter Try.func38, Try.ntmps38
  go_wp2_with fail
  go_loopg [3, 4, 5, 15] ss.length (fun m v3 v4 v5 v15 wz => ∃ (i : Nat) (Y : Nat → List Str), m + i = ss.length ∧ v15 = .int .i64 i ∧ Ap ss w wz i 0 Y)
  case atStart => exact ⟨0, X, rfl, rfl, Ap.start HL.out⟩
  case round =>
    obtain ⟨i, Y, hm, rfl, hap⟩ := hrel
    have HM := Lib.hid hm
    have HP := Lib.hid hap
    clear hm hap
    by_cases hi : i < ss.length
    · have hii : (i : Int) < ss.length := by omega
      obtain ⟨s, hs⟩ : ∃ s, ss[i]? = some s := ⟨ss[i], List.getElem?_eq_getElem hi⟩
      obtain ⟨b, off, rfl, hc⟩ := HRD.out i s hs
      have y0 := HP.out.upd.cellS (hc 0 _ rfl) (HLA.out _ (by simp [ablk]))
      clear hc
      simp only [Nat.add_zero, Nat.mul_one] at y0
      have hsn := (HL.out.own i s hs).2.2
      have HS := Lib.hid hs
      clear hs
      go_wp2_with fail
      go_loopg [5, 22] s.n (fun m v5 v22 wz => ∃ (k : Nat) (Y : Nat → List Str), m + k = s.n ∧ v22 = .int .i64 k ∧ Ap ss w wz i k Y)
      case atStart => exact ⟨0, Y, rfl, rfl, HP.out⟩
      case round =>
        obtain ⟨k, Y2, hm, rfl, hap⟩ := hrel
        clear HP
        have HM2 := Lib.hid hm
        have HP := Lib.hid hap
        clear hm hap
        by_cases hk : k < s.n
        · have hkk : (k : Int) < s.n := by omega
          have hown := HP.out.own i s HS.out
          obtain ⟨g, ha⟩ : ∃ g, s.a = some ⟨g, 0, none⟩ := by
            rcases hown.1.cases with ⟨_, _, h3⟩ | ⟨g, h1, _⟩
            · have := hown.2; rw [h3] at this; simp at this; omega
            · exact ⟨g, h1⟩
          have h1 := hown.1
          rw [ha] at h1
          obtain ⟨cur, hb, h4, _, h6, _⟩ := h1.block
          have hkc : k < cur.size := by have := hown.2; omega
          clear hown h1 h4 h6
          have kc := conv4 i k (by omega) wr
          have HB := Lib.hid hb
          have HA := Lib.hid ha
          have HKC := Lib.hid hkc
          have hu1 := (Upd.refl [] wr).alloc (.cells #[.int .u8 255, .int .u8 i, .int .u8 ((k : Int) % 256), .int .u8 ((k : Int) / 256 % 256)] 5)
          have HB1 := Lib.hid (hu1.at hb (by simp))
          have HU1 := Lib.hid hu1
          clear hb hu1 hkc
          go_wp2_with (refine wpList_store1 rfl _ _ rfl size9 (b := g) (i := k) HB1.out HKC.out (by simp [Act.eval, HA.out]) rfl rfl ?_; intro w2 hb2 hu2; have HB2 := Lib.hid hb2; have HU2 := Lib.hid hu2; clear hb2 hu2)
          rw [← HA.out]
          go_roundg (s.n - (k + 1))
          case measure => have := HM2.out; omega
          case rel => exact ⟨k + 1, _, by have := HM2.out; omega, rfl, HP.out.set HL.out HS.out hk HA.out HB.out HU1.out HB2.out HU2.out⟩
        · have hkk : ¬ (k : Int) < s.n := by omega
          obtain rfl : k = s.n := by have := HM2.out; omega
          go_wp2_with fail
          go_roundg (ss.length - (i + 1))
          case measure => have := HM.out; omega
          case rel => exact ⟨i + 1, Y2, by have := HM.out; omega, rfl, HP.out.next HS.out⟩
    · have hii : ¬ (i : Int) < ss.length := by omega
      obtain rfl : i = ss.length := by have := HM.out; omega
      have hq := Aq.start HP.out
      clear HP
      have HQ := Lib.hid hq
      clear hq HM
      go_wp2_with fail
      go_loopg [6, 7, 8, 41] ss.length (fun m v6 v7 v8 v41 wz => ∃ (i : Nat) (am : Option Addr) (cm : Nat) (Z : List Sl), m + i = ss.length ∧ v6 = .slice am i cm ∧ v41 = .int .i64 i ∧ Aq ss w wz i am cm Z)
      case atStart => exact ⟨0, none, 0, [], rfl, rfl, rfl, HQ.out⟩
      case round =>
        obtain ⟨i, am, cm, Z, hm, rfl, rfl, hq⟩ := hrel
        clear HQ
        have HM := Lib.hid hm
        have HQ := Lib.hid hq
        clear hm hq
        by_cases hi : i < ss.length
        · have hii : (i : Int) < ss.length := by omega
          obtain ⟨s, hs⟩ : ∃ s, ss[i]? = some s := ⟨ss[i], List.getElem?_eq_getElem hi⟩
          obtain ⟨b, off, rfl, hc⟩ := HRD.out i s hs
          have y0 := HQ.out.upd.cellS (hc 0 _ rfl) (HLA.out _ (by simp [ablk]))
          clear hc
          simp only [Nat.add_zero, Nat.mul_one] at y0
          have hsn := (HL.out.own i s hs).2.2
          have HS := Lib.hid hs
          clear hs
          have kc := conv2 i (by omega) wr
          have hZ := Lib.hid HQ.out.len
          have hown := Lib.hid (HQ.out.own i s HS.out (Nat.le_refl _))
          have hlit1 := Lib.hid (fun W => OwnAt.lit (e := 9) elemS.len W [tlS i] (by simp [maxLen]) #[.string (tlS i).s] rfl)
          have hlit2 := Lib.hid (fun W a n c => OwnAt.lit (e := 72) elemL.len W [⟨a, n, c⟩] (by simp [maxLen]) #[.slice a n c] rfl)
          have HUA := Lib.hid (((Upd.refl [] wr).alloc (.cells #[.int .u8 254, .int .u8 i] 5)).alloc (.cells #[.string (tlS i).s] 9))
          go_wp2_with (first
            | (at_builtin; refine wpList_append_rep2 rfl _ _ 78 rfl elemL (xs := Z) (ys := [⟨a3, (mks i s.n).length + 1, c3⟩]) (aa := am) (c := cm) (c2 := 1) (HMO.out.keep ((Upd.refl [] w3).alloc _) (by simp)) ((hlit2.out _ _ _ _).rd elemL.len) (by simp [Act.eval, hZ.out]) (by simp [Act.eval]) (by simp [maxLen, hZ.out]; omega) (by simp [hZ.out]; omega) (by simp) ?_; intro a4 c4 w4 ho4 hu4; have HO4 := Lib.hid ho4; have HU4 := Lib.hid hu4; clear ho4 hu4)
            | (at_builtin; refine wpList_append_rep2 rfl _ _ 72 rfl elemS (xs := mks i s.n) (ys := [tlS i]) (aa := s.a) (c := s.c) (c2 := 1) ((hown.out.keep ((Upd.refl [] wr).alloc _) (by simp)).keep ((Upd.refl [] _).alloc _) (by simp)) ((hlit1.out _).rd elemS.len) (by simp [Act.eval, mks_len]) (by simp [Act.eval]) (by simp [maxLen, mks_len]; omega) (by simp [mks_len]; omega) (by simp) ?_; intro a3 c3 w3 ho3 hu3; have HO3 := Lib.hid ho3; have HU3 := Lib.hid hu3; have HMO := Lib.hid (HQ.out.more3 HL.out HS.out HUA.out hu3); clear ho3 hu3))
          go_roundg (ss.length - (i + 1))
          case measure => have := HM.out; omega
          case rel =>
            have ho4 := HO4.out
            simp only [mks_len] at ho4
            exact ⟨i + 1, a4, c4, _, by have := HM.out; omega, by simp [hZ.out], rfl, HQ.out.step HL.out HS.out HUA.out HO3.out HU3.out ((Upd.refl [] w3).alloc _) ho4 HU4.out⟩
        · have hii : ¬ (i : Int) < ss.length := by omega
          obtain rfl : i = ss.length := by have := HM.out; omega
          clear HM hi hii
          have hZ := Lib.hid HQ.out.len
          go_wp2_with fail
          generalize hw5 : wr = w5 at HQ
          go_loopg [9, 10, 11, 12, 59] ss.length (fun m v9 v10 v11 v12 v59 wz => ∃ i : Nat, m + i = ss.length ∧ v59 = .int .i64 i ∧ Upd [] w5 wz)
          case atStart => exact ⟨0, rfl, rfl, hw5 ▸ Upd.refl _ _⟩
          case round =>
            obtain ⟨i, hm, rfl, hu⟩ := hrel
            have HM := Lib.hid hm
            have HU := Lib.hid hu
            clear hm hu hw5
            by_cases hi : i < ss.length
            · have hii : (i : Int) < ss.length := by omega
              obtain ⟨s, hs⟩ : ∃ s, ss[i]? = some s := ⟨ss[i], List.getElem?_eq_getElem hi⟩
              obtain ⟨b, off, rfl, hc⟩ := HRD.out i s hs
              have y0 := HU.out.cellS (HQ.out.upd.cellS (hc 0 _ rfl) (HLA.out _ (by simp [ablk]))) (by simp)
              clear hc
              simp only [Nat.add_zero, Nat.mul_one] at y0
              have hsn := (HL.out.own i s hs).2.2
              obtain ⟨r1, z, hz, hzn, r2, _⟩ := HQ.out.rd i s hs hi
              obtain ⟨bm, om, rfl, hc⟩ := HQ.out.more.rd elemL.len i z hz
              have x0 := hc 0 _ rfl
              clear hc
              simp only [Nat.add_zero, Nat.mul_one] at x0
              have R1 := Lib.hid r1
              have R2 := Lib.hid r2
              have HX0 := Lib.hid x0
              clear hs hz r1 r2 x0
              obtain ⟨sa, sn, sc⟩ := s
              obtain ⟨za, zn, zc⟩ := z
              simp only at hzn
              subst hzn
              simp only at y0 hsn R1 R2 HX0
              go_wp2_with fail
              go_loopg [11, 12, 66] sn (fun m v11 v12 v66 wz => ∃ k : Nat, m + k = sn ∧ v66 = .int .i64 k ∧ Upd [] w5 wz)
              case atStart => exact ⟨0, rfl, rfl, HU.out⟩
              case round =>
                obtain ⟨k, hm, rfl, hu⟩ := hrel
                clear HU
                have HM2 := Lib.hid hm
                have HU := Lib.hid hu
                clear hm hu y0
                by_cases hk : k < sn
                · have hkk : (k : Int) < sn := by omega
                  obtain ⟨g1, o1, rfl, hc⟩ := R1.out k (mkS i k) (mks_at hk)
                  have y1 := hc 0 _ rfl
                  clear hc
                  obtain ⟨g2, o2, rfl, hc⟩ := R2.out k (mkS i k) (by rw [List.getElem?_append_left (by rw [mks_len]; exact hk)]; exact mks_at hk)
                  have y2 := hc 0 _ rfl
                  clear hc
                  simp only [Nat.add_zero, Nat.mul_one] at y1 y2
                  have kc := conv4 i k (by omega) wr
                  have hu6 := HU.out.alloc (.cells #[.int .u8 255, .int .u8 i, .int .u8 ((k : Int) % 256), .int .u8 ((k : Int) / 256 % 256)] 5)
                  go_upto_region 23 with fail
                  generalize wr.alloc (.cells #[.int .u8 255, .int .u8 i, .int .u8 ((k : Int) % 256), .int .u8 ((k : Int) / 256 % 256)] 5) = w6 at *
                  replace y1 := hu6.cellS y1 (by simp)
                  replace y2 := hu6.cellS y2 (by simp)
                  have y3 := hu6.cellS HX0.out (by simp)
                  have HU6 := Lib.hid hu6
                  clear hu6 kc
                  go_wp2_with fail
                  go_roundg (sn - (k + 1))
                  case measure => have := HM2.out; omega
                  case rel => exact ⟨k + 1, by have := HM2.out; omega, rfl, HU6.out⟩
                · have hkk : ¬ (k : Int) < sn := by omega
                  obtain rfl : k = sn := by have := HM2.out; omega
                  obtain ⟨g2, o2, rfl, hc⟩ := R2.out k (tlS i) (by rw [List.getElem?_append_right (by rw [mks_len]; exact Nat.le_refl _), mks_len]; simp)
                  have Y2 := hc 0 _ rfl
                  have y2 := HU.out.cellS Y2 (by simp)
                  have y3 := HU.out.cellS HX0.out (by simp)
                  clear hc
                  simp only [Nat.add_zero, Nat.mul_one] at y2 Y2
                  have hk1 : (k : Int) < (k : Int) + 1 := by omega
                  go_upto_region 26 with fail
                  have hw8 : IntKind.u8.wrap (i : Int) = (i : Int) := IntWalk.u8_in _ (by omega)
                  have kc : (convert 145 9 (.slice (some ⟨wr.heap.size, 0, none⟩) 2 2)).run Try.prog (wr.alloc (.cells #[.int .u8 254, .int .u8 i] 5)).drew = .ok (.string (tlS i).s) (wr.alloc (.cells #[.int .u8 254, .int .u8 i] 5)).drew := conv2 i (by omega) wr.drew
                  have hu8 := HU.out.drew.alloc (.cells #[.int .u8 254, .int .u8 i] 5)
                  have y2' := hu8.cellS (show w5.cell? _ = _ from Y2) (by simp)
                  have y3' := hu8.cellS HX0.out (by simp)
                  have HU8 : Hid (Upd [] w5 (wr.alloc (.cells #[.int .u8 254, .int .u8 i] 5)).drew) := hu8
                  have HS8 : Hid ((fun w' => w'.cell? ⟨bm, om + i, none⟩ = some (.slice (some ⟨g2, o2, none⟩) (k + 1) zc) ∧ w'.cell? ⟨g2, o2 + k, none⟩ = some (.string (tlS i).s)) (wr.alloc (.cells #[.int .u8 254, .int .u8 i] 5)).drew) := ⟨y3', y2'⟩
                  clear hu8 y2' y3'
                  refine wp_region_noPanic ?_
                  refine wp_region_held_drew (S := (fun w' => w'.cell? ⟨bm, om + i, none⟩ = some (.slice (some ⟨g2, o2, none⟩) (k + 1) zc) ∧ w'.cell? ⟨g2, o2 + k, none⟩ = some (.string (tlS i).s))) (by kernel_rfl) ⟨y3, y2⟩ (fun hHeld => ?_)
                  refine wpAnyH_take (i := 0) (v := ?vv0) rfl (by kernel_rfl) (by kernel_rfl) (by kernel_rfl) (fun _ _ _ h => h) (Or.inl ⟨by rfl, ?hy0⟩) (by assumption) ?rest0
                  case hy0 =>
                    intro w hSw
                    (try dsimp only at hSw)
                    simp only [List.getElem_toArray, List.getElem_cons_zero]
                    go_simp
                    try with_reducible rfl
                  try simp only [Act.put, List.setIfInBounds_toArray, List.set_cons_zero, List.set_cons_succ, List.getElem_toArray, List.getElem_cons_zero]
                  refine wpAnyH_take (i := 1) (v := ?vv1) rfl (by kernel_rfl) (by kernel_rfl) (by kernel_rfl) (fun _ _ _ h => h) (Or.inl ⟨by rfl, ?hy1⟩) (by assumption) ?rest1
                  case hy1 =>
                    intro w hSw
                    (try dsimp only at hSw)
                    simp only [List.getElem_toArray, List.getElem_cons_succ, List.getElem_cons_zero]
                    go_simp
                    try with_reducible rfl
                  try simp only [Act.put, List.setIfInBounds_toArray, List.set_cons_zero, List.set_cons_succ, List.getElem_toArray, List.getElem_cons_succ, List.getElem_cons_zero]
                  refine wpAnyH_take (i := 2) (v := ?vv2) rfl (by kernel_rfl) (by kernel_rfl) (by kernel_rfl) (fun _ _ _ h => h) (Or.inl ⟨by rfl, ?hy2⟩) (by assumption) ?rest2
                  case hy2 =>
                    intro w hSw
                    (try dsimp only at hSw)
                    simp only [List.getElem_toArray, List.getElem_cons_succ, List.getElem_cons_zero]
                    go_simp
                    try with_reducible rfl
                  try simp only [Act.put, List.setIfInBounds_toArray, List.set_cons_zero, List.set_cons_succ, List.getElem_toArray, List.getElem_cons_succ, List.getElem_cons_zero]
                  refine wpAnyH_take (i := 3) (v := ?vv3) rfl (by kernel_rfl) (by kernel_rfl) (by kernel_rfl) (fun _ _ _ h => h) (Or.inl ⟨by rfl, ?hy3⟩) (by assumption) ?rest3
                  case hy3 =>
                    intro w hSw
                    (try dsimp only at hSw)
                    simp only [List.getElem_toArray, List.getElem_cons_succ, List.getElem_cons_zero]
                    go_simp
                    try with_reducible rfl
                  try simp only [Act.put, List.setIfInBounds_toArray, List.set_cons_zero, List.set_cons_succ, List.getElem_toArray, List.getElem_cons_succ, List.getElem_cons_zero]
                  refine wpAnyH_take (i := 4) (v := ?vv4) rfl (by kernel_rfl) (by kernel_rfl) (by kernel_rfl) (fun _ _ _ h => h) (Or.inl ⟨by rfl, ?hy4⟩) (by assumption) ?rest4
                  case hy4 =>
                    intro w hSw
                    (try dsimp only at hSw)
                    simp only [List.getElem_toArray, List.getElem_cons_succ, List.getElem_cons_zero]
                    go_simp
                    try with_reducible rfl
                  try simp only [Act.put, List.setIfInBounds_toArray, List.set_cons_zero, List.set_cons_succ, List.getElem_toArray, List.getElem_cons_succ, List.getElem_cons_zero]
                  refine wpAnyH_take (i := 5) (v := ?vv5) rfl (by kernel_rfl) (by kernel_rfl) (by kernel_rfl) (fun _ _ _ h => h) (Or.inl ⟨by rfl, ?hy5⟩) (by assumption) ?rest5
                  case hy5 =>
                    intro w hSw
                    (try dsimp only at hSw)
                    simp only [List.getElem_toArray, List.getElem_cons_succ, List.getElem_cons_zero]
                    go_simp
                    try with_reducible rfl
                  try simp only [Act.put, List.setIfInBounds_toArray, List.set_cons_zero, List.set_cons_succ, List.getElem_toArray, List.getElem_cons_succ, List.getElem_cons_zero]
                  refine wpAnyH_take (i := 6) (v := ?vv6) rfl (by kernel_rfl) (by kernel_rfl) (by kernel_rfl) (fun _ _ _ h => h) (Or.inl ⟨by rfl, ?hy6⟩) (by assumption) ?rest6
                  case hy6 =>
                    intro w hSw
                    (try dsimp only at hSw)
                    simp only [List.getElem_toArray, List.getElem_cons_succ, List.getElem_cons_zero]
                    go_simp
                    try with_reducible rfl
                  try simp only [Act.put, List.setIfInBounds_toArray, List.set_cons_zero, List.set_cons_succ, List.getElem_toArray, List.getElem_cons_succ, List.getElem_cons_zero]
                  refine wpAnyH_take (i := 7) (v := ?vv7) rfl (by kernel_rfl) (by kernel_rfl) (by kernel_rfl) (fun _ _ _ h => h) (Or.inl ⟨by rfl, ?hy7⟩) (by assumption) ?rest7
                  case hy7 =>
                    intro w hSw
                    (try dsimp only at hSw)
                    simp only [List.getElem_toArray, List.getElem_cons_succ, List.getElem_cons_zero]
                    go_simp
                    try with_reducible rfl
                  try simp only [Act.put, List.setIfInBounds_toArray, List.set_cons_zero, List.set_cons_succ, List.getElem_toArray, List.getElem_cons_succ, List.getElem_cons_zero]
                  refine wpAnyH_take (i := 8) (v := ?vv8) rfl (by kernel_rfl) (by kernel_rfl) (by kernel_rfl) (fun _ _ _ h => h) (Or.inl ⟨by rfl, ?hy8⟩) (by assumption) ?rest8
                  case hy8 =>
                    intro w hSw
                    (try dsimp only at hSw)
                    simp only [List.getElem_toArray, List.getElem_cons_succ, List.getElem_cons_zero]
                    go_simp
                    try with_reducible rfl
                  try simp only [Act.put, List.setIfInBounds_toArray, List.set_cons_zero, List.set_cons_succ, List.getElem_toArray, List.getElem_cons_succ, List.getElem_cons_zero]
                  refine wpAnyH_take (i := 9) (v := ?vv9) rfl (by kernel_rfl) (by kernel_rfl) (by kernel_rfl) (fun _ _ _ h => h) (Or.inl ⟨by rfl, ?hy9⟩) (by assumption) ?rest9
                  case hy9 =>
                    intro w hSw
                    (try dsimp only at hSw)
                    simp only [List.getElem_toArray, List.getElem_cons_succ, List.getElem_cons_zero]
                    go_simp
                    try with_reducible rfl
                  try simp only [Act.put, List.setIfInBounds_toArray, List.set_cons_zero, List.set_cons_succ, List.getElem_toArray, List.getElem_cons_succ, List.getElem_cons_zero]
                  refine wpAnyH_ready (rs := [10]) (by kernel_rfl) (by simp) ?_
                  refine AllReadyH.cons rfl (fun K hK => ?_) AllReadyH.nil
                  simp only [List.getElem_toArray, List.getElem_cons_succ, List.getElem_cons_zero]
                  go_simp
                  refine hK.out _ _ HS8.out (fun hHeld => ?_)
                  clear hK K hHeld
                  try simp only [Act.put, List.setIfInBounds_toArray, List.set_cons_zero, List.set_cons_succ, List.getElem_toArray, List.getElem_cons_succ, List.getElem_cons_zero]
                  refine wpAnyH_ready (rs := [11]) (by kernel_rfl) (by simp) ?_
                  refine AllReadyH.cons rfl (fun K hK => ?_) AllReadyH.nil
                  simp only [List.getElem_toArray, List.getElem_cons_succ, List.getElem_cons_zero]
                  go_simp
                  refine hK.out _ _ HS8.out (fun hHeld => ?_)
                  clear hK K
                  try simp only [Act.put, List.setIfInBounds_toArray, List.set_cons_zero, List.set_cons_succ, List.getElem_toArray, List.getElem_cons_succ, List.getElem_cons_zero]
                  clear kc y2 y3
                  generalize (wr.alloc (.cells #[.int .u8 254, .int .u8 i] 5)).drew = w8 at *
                  refine wpAnyH_take (i := 12) (v := ?vv12) rfl (by kernel_rfl) (by kernel_rfl) (by kernel_rfl) (fun _ _ _ h => h) (Or.inl ⟨by rfl, ?hy12⟩) (by assumption) ?rest12
                  case hy12 =>
                    intro w hSw
                    (try dsimp only at hSw)
                    simp only [List.getElem_toArray, List.getElem_cons_succ, List.getElem_cons_zero]
                    go_simp
                    try with_reducible rfl
                  try simp only [Act.put, List.setIfInBounds_toArray, List.set_cons_zero, List.set_cons_succ, List.getElem_toArray, List.getElem_cons_succ, List.getElem_cons_zero]
                  refine wpAnyH_done (by kernel_rfl) ?_ _
                  refine NoPanic.normal ?_
                  go_wp2_with fail
                  go_roundg (ss.length - (i + 1))
                  case measure => have := HM.out; omega
                  case rel => exact ⟨i + 1, by have := HM.out; omega, rfl, HU8.out⟩
            · have hii : ¬ (i : Int) < ss.length := by omega
              go_wp2_with fail
              go_ret
              exact ⟨rfl, HQ.out.upd.trans (HU.out.mono (by simp))⟩
end Go.Proofs.Ytcdmdpgfadopcaa
