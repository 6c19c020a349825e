/-
  sluicelaw14: apart, the walk (in progress).
-/
import Derived.Test.YtcdmdpgfadopcaaLedger8
import Derived.Test.YtcdmdpgfadopcaaApart2
namespace Go.Slu
open Go.MapKept Go.RowKit
section
variable {P : Program} {ops : Array Oper} {Q : Exit → Act → World → Prop} {rest : List Oper} {o : Oper} {a : Act} {w : World}
variable {t e tsl : TypeId} {k bytes : Nat} {α : Type} {ee : α → List Value}
theorem wpList_storeK (hg : o.guard = none) (p x : Operand) (hop : o.op = .store t p x) (E : Elem P tsl e k bytes ee) (hsz : ∀ W, (Go.sizeOf t).run P W = .ok k W) {g c i : Nat} {xs : List α} (h : OwnAt e k ee w (some ⟨g, 0, none⟩) c xs) (x0 : α) (hi : i < xs.length)
    (hp : a.eval p = .pointer (some ⟨g, i * k, none⟩)) (hx : a.eval x = .agg (ee x0).toArray)
    (hK : ∀ w', OwnAt e k ee w' (some ⟨g, 0, none⟩) c (xs.set i x0) → Upd [g] w w' → wpList P ops Q rest (a.put o.dst undef) w') : wpList P ops Q (o :: rest) a w := by
  obtain ⟨w', h1, h2, h3⟩ := h.setK (t := t) E x0 hi hsz
  exact wpList_run_skip hg (by simp [execOp, hop, hp, hx, h1, Result.andThen]) (hK _ h2 h3)
end
end Go.Slu
namespace Go.Proofs.Ytcdmdpgfadopcaa
open Go.Slu Go.MapKept Go.RowKit Go.Sort
theorem infoLC : (Try.prog.info? 87).map (fun i => (i.zero, i.size, i.bytes)) = some (some (.slice none 0 0), 1, 24) := by kernel_rfl
theorem elemLC : Elem Try.prog 102 87 1 24 eeL where
  ht := Try.underlying102
  info := by obtain ⟨i, h1, h2, h3, h4⟩ := info_parts infoLC; exact ⟨i, _, h1, h2, h3, h4, rfl⟩
  pos := by omega
  len _ := rfl
  one _ u hu := by simp [eeL] at hu; subst hu; rfl
theorem infoLS : (Try.prog.info? 68).map (fun i => (i.zero, i.size, i.bytes)) = some (some (.slice none 0 0), 1, 24) := by kernel_rfl
theorem elemLS : Elem Try.prog 103 68 1 24 eeL where
  ht := Try.underlying103
  info := by obtain ⟨i, h1, h2, h3, h4⟩ := info_parts infoLS; exact ⟨i, _, h1, h2, h3, h4, rfl⟩
  pos := by omega
  len _ := rfl
  one _ u hu := by simp [eeL] at hu; subst hu; rfl
theorem sizeCh : ∀ W : World, (Go.sizeOf 105).run Try.prog W = .ok 5 W := fun W => by
  have := elem_size elemCh W
  rwa [elem_eq elemCh] at this
theorem sizeSt : ∀ W : World, (Go.sizeOf 52).run Try.prog W = .ok 4 W := fun W => by
  have := elem_size elemM W
  rwa [elem_eq elemM] at this

set_option maxHeartbeats 4000000 in
set_option maxRecDepth 20000 in
theorem apart14_any (w : World) (lc : Option Addr) (ss : List Sl) (cc : Nat) (ls : Option Addr) (st : List Sl) (cs : Nat) (hC : ss.length ≤ 200) (hS : st.length ≤ 200) (hrC : Rd 1 eeL w lc ss) (hrS : Rd 1 eeL w ls st)
    (X : Nat → List (StampK × Int)) (X2 : Nat → List StampK) (hLC : Lists 105 5 eeCh ss w X) (hLS : Lists 52 4 eeM st w X2) (hd : ∀ b ∈ foot ss, b ∉ foot st) (hlc : ∀ b ∈ ablk lc, b ∉ foot ss ∧ b ∉ foot st) (hls : ∀ b ∈ ablk ls, b ∉ foot ss ∧ b ∉ foot st) :
    Calls Try.prog 58 #[.slice lc ss.length cc, .slice ls st.length cs] w fun e w' => e = .returned (.bool true) ∧ Upd (foot ss ++ foot st) w w' := by
  have HRC := Lib.hid hrC
  have HRS := Lib.hid hrS
  have HLC := Lib.hid hLC
  have HLS := Lib.hid hLS
  have HD := Lib.hid hd
  have HC1 := Lib.hid hlc
  have HS1 := Lib.hid hls
  clear hrC hrS hLC hLS hd hlc hls
  go_enter Try.func58, Try.ntmps58
  go_upto_block 0 with fail
  go_cut [] (fun wx => ∃ Y : Nat → List (StampK × Int), Ap 105 5 eeCh mkCh ss w wx ss.length 0 Y)
  case first =>
    go_wp2_with fail
    go_loopg [5, 6, 7, 25] ss.length (fun m v5 v6 v7 v25 wz => ∃ (i : Nat) (Y : Nat → List (StampK × Int)), m + i = ss.length ∧ v25 = .int .i64 i ∧ Ap 105 5 eeCh mkCh ss w wz i 0 Y)
    case atStart => exact ⟨0, X, rfl, rfl, Ap.start HLC.out⟩
    case round =>
      obtain ⟨i, Y, hm, rfl, hap⟩ := hrel
      have HM := Lib.hid hm
      have HP := Lib.hid hap
      clear hm hap
      by_cases hi : i < ss.length
      · have hii : (i : Int) < ss.length := by omega
        obtain ⟨s, hs⟩ : ∃ s, ss[i]? = some s := ⟨ss[i], List.getElem?_eq_getElem hi⟩
        obtain ⟨b, off, rfl, hc⟩ := HRC.out i s hs
        have y0 := HP.out.upd.cellS (hc 0 _ rfl) (HC1.out _ (by simp [ablk])).1
        clear hc
        simp only [Nat.add_zero, Nat.mul_one] at y0
        have hsn := (HLC.out.own i s hs).2.2
        have HS := Lib.hid hs
        clear hs
        go_wp2_with fail
        go_loopg [7, 32] s.n (fun m v7 v32 wz => ∃ (k : Nat) (Y : Nat → List (StampK × Int)), m + k = s.n ∧ v32 = .int .i64 k ∧ Ap 105 5 eeCh mkCh ss w wz i k Y)
        case atStart => exact ⟨0, Y, rfl, rfl, HP.out⟩
        case round =>
          obtain ⟨k, Y2, hm, rfl, hap⟩ := hrel
          clear HP
          have HM2 := Lib.hid hm
          have HP := Lib.hid hap
          clear hm hap
          by_cases hk : k < s.n
          · have hkk : (k : Int) < s.n := by omega
            have hown := HP.out.own i s HS.out
            obtain ⟨g, ha⟩ : ∃ g, s.a = some ⟨g, 0, none⟩ := by
              rcases hown.1.cases with ⟨_, _, h3⟩ | ⟨g, h1, _⟩
              · have := hown.2; rw [h3] at this; simp at this; omega
              · exact ⟨g, h1⟩
            have h1 := hown.1
            rw [ha] at h1
            have HO := Lib.hid h1
            have hkl := Lib.hid (show k < (Y2 i).length by have := hown.2; omega)
            have HA := Lib.hid ha
            have hmk := Lib.hid (mark_any i k (by omega) (by omega) wr)
            clear hown h1
            go_wp2_with (first
              | (go_at_call 103; refine hmk.out.mono ?_; rintro e w' ⟨rfl, rfl⟩)
              | (refine wpList_storeK rfl _ _ rfl elemCh sizeCh (g := g) (i := k) HO.out (mkCh i k) hkl.out (by simp [Act.eval]) rfl ?_; intro w2 ho2 hu2; have HO2 := Lib.hid ho2; have HU2 := Lib.hid hu2; clear ho2 hu2))
            rw [← HA.out]
            go_roundg (s.n - (k + 1))
            case measure => have := HM2.out; omega
            case rel => exact ⟨k + 1, _, by have := HM2.out; omega, rfl, HP.out.set HLC.out HS.out hk (by rw [HA.out]; exact HO2.out) (by rw [HA.out]; exact HU2.out)⟩
          · have hkk : ¬ (k : Int) < s.n := by omega
            obtain rfl : k = s.n := by have := HM2.out; omega
            go_wp2_with fail
            go_roundg (ss.length - (i + 1))
            case measure => have := HM.out; omega
            case rel => exact ⟨i + 1, Y2, by have := HM.out; omega, rfl, HP.out.next HS.out⟩
      · have hii : ¬ (i : Int) < ss.length := by omega
        obtain rfl : i = ss.length := by have := HM.out; omega
        go_wp2_with fail
        go_meet
        exact ⟨Y, HP.out⟩
  case rest =>
    obtain ⟨wa, rfl⟩ : ∃ wa, wa = wc := ⟨_, rfl⟩
    obtain ⟨Y, hp⟩ := hcut
    have HP1 := Lib.hid hp
    have HL1 := Lib.hid (HLS.out.keep hp.upd (fun b hb hx => HD.out b hx hb))
    clear hp
    go_upto_block 4 with fail
    go_cut [] (fun wx => ∃ Y2 : Nat → List StampK, Ap 52 4 eeM mkSt st wa wx st.length 0 Y2)
    case first =>
      go_wp2_with fail
      go_loopg [8, 9, 10, 46] st.length (fun m v8 v9 v10 v46 wz => ∃ (i : Nat) (Y : Nat → List (StampK)), m + i = st.length ∧ v46 = .int .i64 i ∧ Ap 52 4 eeM mkSt st wa wz i 0 Y)
      case atStart => exact ⟨0, X2, rfl, rfl, Ap.start HL1.out⟩
      case round =>
        obtain ⟨i, Y2, hm, rfl, hap⟩ := hrel
        have HM := Lib.hid hm
        have HP := Lib.hid hap
        clear hm hap
        by_cases hi : i < st.length
        · have hii : (i : Int) < st.length := by omega
          obtain ⟨s, hs⟩ : ∃ s, st[i]? = some s := ⟨st[i], List.getElem?_eq_getElem hi⟩
          obtain ⟨b, off, rfl, hc⟩ := HRS.out i s hs
          have y0 := HP.out.upd.cellS (HP1.out.upd.cellS (hc 0 _ rfl) (HS1.out _ (by simp [ablk])).1) (HS1.out _ (by simp [ablk])).2
          clear hc
          simp only [Nat.add_zero, Nat.mul_one] at y0
          have hsn := (HL1.out.own i s hs).2.2
          have HS := Lib.hid hs
          clear hs
          go_wp2_with fail
          go_loopg [10, 53] s.n (fun m v10 v53 wz => ∃ (k : Nat) (Y : Nat → List (StampK)), m + k = s.n ∧ v53 = .int .i64 k ∧ Ap 52 4 eeM mkSt st wa wz i k Y)
          case atStart => exact ⟨0, Y2, rfl, rfl, HP.out⟩
          case round =>
            obtain ⟨k, Y3, hm, rfl, hap⟩ := hrel
            clear HP
            have HM2 := Lib.hid hm
            have HP := Lib.hid hap
            clear hm hap
            by_cases hk : k < s.n
            · have hkk : (k : Int) < s.n := by omega
              have hown := HP.out.own i s HS.out
              obtain ⟨g, ha⟩ : ∃ g, s.a = some ⟨g, 0, none⟩ := by
                rcases hown.1.cases with ⟨_, _, h3⟩ | ⟨g, h1, _⟩
                · have := hown.2; rw [h3] at this; simp at this; omega
                · exact ⟨g, h1⟩
              have h1 := hown.1
              rw [ha] at h1
              have HO := Lib.hid h1
              have hkl := Lib.hid (show k < (Y3 i).length by have := hown.2; omega)
              have HA := Lib.hid ha
              have hmk := Lib.hid (mark_any i k (by omega) (by omega) wr)
              clear hown h1
              go_wp2_with (first
                | (go_at_call 103; refine hmk.out.mono ?_; rintro e w' ⟨rfl, rfl⟩)
                | (refine wpList_storeK rfl _ _ rfl elemM sizeSt (g := g) (i := k) HO.out (mkSt i k) hkl.out (by simp [Act.eval]) (by simp only [eeM_mk (show i ≤ 1000000 ∧ k ≤ 100000000 by omega)]; rfl) ?_; intro w2 ho2 hu2; have HO2 := Lib.hid ho2; have HU2 := Lib.hid hu2; clear ho2 hu2))
              rw [← HA.out]
              go_roundg (s.n - (k + 1))
              case measure => have := HM2.out; omega
              case rel => exact ⟨k + 1, _, by have := HM2.out; omega, rfl, HP.out.set HL1.out HS.out hk (by rw [HA.out]; exact HO2.out) (by rw [HA.out]; exact HU2.out)⟩
            · have hkk : ¬ (k : Int) < s.n := by omega
              obtain rfl : k = s.n := by have := HM2.out; omega
              go_wp2_with fail
              go_roundg (st.length - (i + 1))
              case measure => have := HM.out; omega
              case rel => exact ⟨i + 1, Y3, by have := HM.out; omega, rfl, HP.out.next HS.out⟩
        · have hii : ¬ (i : Int) < st.length := by omega
          obtain rfl : i = st.length := by have := HM.out; omega
          go_wp2_with fail
          go_meet
          exact ⟨Y2, HP.out⟩
    case rest =>
      obtain ⟨wb, rfl⟩ : ∃ wb, wb = wc := ⟨_, rfl⟩
      obtain ⟨Y2, hp2⟩ := hcut
      have HPA := Lib.hid (HP1.out.base hp2.upd HD.out)
      have HLA := Lib.hid ((HP1.out.lists HLC.out).keep hp2.upd HD.out)
      have HPB := Lib.hid hp2
      have HLB := Lib.hid (hp2.lists HL1.out)
      have HUB : Hid (Upd (foot ss ++ foot st) w wb) := Lib.hid ((HP1.out.upd.mono (fun k _ h => List.mem_append_left _ h)).trans (hp2.upd.mono (fun k _ h => List.mem_append_right _ h)))
      have HRC1 := Lib.hid (HRC.out.keep' elemLC HUB.out (fun b hb hx => by rcases List.mem_append.1 hx with h | h; exact (HC1.out b hb).1 h; exact (HC1.out b hb).2 h))
      have HRS1 := Lib.hid (HRS.out.keep' elemLS HUB.out (fun b hb hx => by rcases List.mem_append.1 hx with h | h; exact (HS1.out b hb).1 h; exact (HS1.out b hb).2 h))
      clear hp2 HP1 HL1 HRC HRS
      go_upto_block 8 with fail
      go_cut [11] (fun v11 wx => ∃ (am : Option Addr) (cm : Nat) (Z : List Sl), v11 = .slice am ss.length cm ∧ Aq 105 5 eeCh 87 mkCh mkCh ss wb wx ss.length am cm Z)
      case first =>
        go_wp2_with fail
        go_loopg [11, 13, 14, 67] ss.length (fun m v11 v13 v14 v67 wz => ∃ (i : Nat) (am : Option Addr) (cm : Nat) (Z : List Sl), m + i = ss.length ∧ v11 = .slice am i cm ∧ v67 = .int .i64 i ∧ Aq 105 5 eeCh 87 mkCh mkCh ss wb wz i am cm Z)
        case atStart => exact ⟨0, none, 0, [], rfl, rfl, rfl, Aq.start HPA.out⟩
        case round =>
          obtain ⟨i, am, cm, Z, hm, rfl, rfl, hq⟩ := hrel
          have HM := Lib.hid hm
          have HQ := Lib.hid hq
          clear hm hq
          by_cases hi : i < ss.length
          · have hii : (i : Int) < ss.length := by omega
            obtain ⟨s, hs⟩ : ∃ s, ss[i]? = some s := ⟨ss[i], List.getElem?_eq_getElem hi⟩
            obtain ⟨b, off, rfl, hc⟩ := HRC1.out i s hs
            have y0 := HQ.out.upd.cellS (hc 0 _ rfl) (HC1.out _ (by simp [ablk])).1
            clear hc
            simp only [Nat.add_zero, Nat.mul_one] at y0
            have hsn := (HLA.out.own i s hs).2.2
            have HS := Lib.hid hs
            clear hs
            have hZ := Lib.hid HQ.out.len
            have hown := Lib.hid (HQ.out.own i s HS.out (Nat.le_refl _))
            have hmk := Lib.hid (fun W => mark_any i s.n (by omega) (by omega) W)
            have hlit1 := Lib.hid (fun W => OwnAt.lit (e := 105) elemCh.len W [mkCh i s.n] (by simp [maxLen]) #[.int .i64 0, .int .u64 0, .int .u64 0, .int .u64 0, .int .i64 (mkN i s.n)] rfl)
            have hlit2 := Lib.hid (fun W a n c => OwnAt.lit (e := 87) elemLC.len W [⟨a, n, c⟩] (by simp [maxLen]) #[.slice a n c] rfl)
            have HUA := Lib.hid ((Upd.refl [] wr).alloc (.cells #[.int .i64 0, .int .u64 0, .int .u64 0, .int .u64 0, .int .i64 (mkN i s.n)] 105))
            go_wp2_with (first
              | (go_at_call 103; refine (hmk.out _).mono ?_; rintro e w' ⟨rfl, rfl⟩)
              | (at_builtin; refine wpList_append_rep2 rfl _ _ 102 rfl elemLC (xs := Z) (ys := [⟨a3, (mks mkCh i s.n).length + 1, c3⟩]) (aa := am) (c := cm) (c2 := 1) (HMO.out.keep ((Upd.refl [] w3).alloc _) (by simp)) ((hlit2.out _ _ _ _).rd elemLC.len) (by simp [Act.eval, hZ.out]) (by simp [Act.eval]) (by simp [maxLen, hZ.out]; omega) (by simp [hZ.out]; omega) (by simp) ?_; intro a4 c4 w4 ho4 hu4; have HO4 := Lib.hid ho4; have HU4 := Lib.hid hu4; clear ho4 hu4)
              | (at_builtin; refine wpList_append_rep2 rfl _ _ 87 rfl elemCh (xs := mks mkCh i s.n) (ys := [mkCh i s.n]) (aa := s.a) (c := s.c) (c2 := 1) (hown.out.keep ((Upd.refl [] wr).alloc _) (by simp)) ((hlit1.out _).rd elemCh.len) (by simp [Act.eval, mks_len]) (by simp [Act.eval]) (by simp [maxLen, mks_len]; omega) (by simp [mks_len]; omega) (by simp) ?_; intro a3 c3 w3 ho3 hu3; have HO3 := Lib.hid ho3; have HU3 := Lib.hid hu3; have HMO := Lib.hid (HQ.out.more3 HLA.out HS.out HUA.out hu3); clear ho3 hu3))
            go_roundg (ss.length - (i + 1))
            case measure => have := HM.out; omega
            case rel =>
              have ho4 := HO4.out
              simp only [mks_len] at ho4
              exact ⟨i + 1, a4, c4, _, by have := HM.out; omega, by simp [hZ.out], rfl, HQ.out.step elemCh HLA.out HS.out HUA.out HO3.out HU3.out ((Upd.refl [] w3).alloc _) ho4 HU4.out⟩
          · have hii : ¬ (i : Int) < ss.length := by omega
            obtain rfl : i = ss.length := by have := HM.out; omega
            go_wp2_with fail
            go_meet
            exact ⟨am, cm, Z, rfl, HQ.out⟩
      case rest =>
        obtain ⟨we, rfl⟩ : ∃ we, we = wc := ⟨_, rfl⟩
        obtain ⟨am, cm, Z, rfl, hq⟩ := hcut
        have HQ1 := Lib.hid hq
        have hSC := fun (b : Nat) (hb : b ∈ foot st) (hx : b ∈ foot ss) => HD.out b hx hb
        have HPB2 := Lib.hid (HPB.out.base hq.upd hSC)
        have HLB2 := Lib.hid (HLB.out.keep hq.upd hSC)
        have HUC : Hid (Upd (foot ss ++ foot st) w we) := Lib.hid (HUB.out.trans (hq.upd.mono (fun k _ h => List.mem_append_left _ h)))
        have HRC2 := Lib.hid (HRC1.out.keep' elemLC hq.upd (fun b hb hx => (HC1.out b hb).1 hx))
        have HRS2 := Lib.hid (HRS1.out.keep' elemLS hq.upd (fun b hb hx => (HS1.out b hb).1 hx))
        clear hq HPA HPB HUB HRC1 HRS1 hSC
        go_upto_block 10 with fail
        go_cut [12] (fun v12 wx => ∃ (am : Option Addr) (cm : Nat) (Z : List Sl), v12 = .slice am st.length cm ∧ Aq 52 4 eeM 68 mkSt mkSt st we wx st.length am cm Z)
        case first =>
          go_wp2_with fail
          go_loopg [12, 15, 16, 86] st.length (fun m v12 v15 v16 v86 wz => ∃ (i : Nat) (am : Option Addr) (cm : Nat) (Z : List Sl), m + i = st.length ∧ v12 = .slice am i cm ∧ v86 = .int .i64 i ∧ Aq 52 4 eeM 68 mkSt mkSt st we wz i am cm Z)
          case atStart => exact ⟨0, none, 0, [], rfl, rfl, rfl, Aq.start HPB2.out⟩
          case round =>
            obtain ⟨i, am, cm, Z, hm, rfl, rfl, hq⟩ := hrel
            have HM := Lib.hid hm
            have HQ := Lib.hid hq
            clear hm hq
            by_cases hi : i < st.length
            · have hii : (i : Int) < st.length := by omega
              obtain ⟨s, hs⟩ : ∃ s, st[i]? = some s := ⟨st[i], List.getElem?_eq_getElem hi⟩
              obtain ⟨b, off, rfl, hc⟩ := HRS2.out i s hs
              have y0 := HQ.out.upd.cellS (hc 0 _ rfl) (HS1.out _ (by simp [ablk])).2
              clear hc
              simp only [Nat.add_zero, Nat.mul_one] at y0
              have hsn := (HLB2.out.own i s hs).2.2
              have HS := Lib.hid hs
              clear hs
              have hZ := Lib.hid HQ.out.len
              have hown := Lib.hid (HQ.out.own i s HS.out (Nat.le_refl _))
              have hmk := Lib.hid (fun W => mark_any i s.n (by omega) (by omega) W)
              have hlit1 := Lib.hid (fun W => OwnAt.lit (e := 52) elemM.len W [mkSt i s.n] (by simp [maxLen]) #[.int .i64 (mkN i s.n), .int .u64 0, .int .u64 0, .int .u64 0] (by simp [eeM_mk (show i ≤ 1000000 ∧ s.n ≤ 100000000 by omega)]))
              have hlit2 := Lib.hid (fun W a n c => OwnAt.lit (e := 68) elemLS.len W [⟨a, n, c⟩] (by simp [maxLen]) #[.slice a n c] rfl)
              have HUA := Lib.hid ((Upd.refl [] wr).alloc (.cells #[.int .i64 (mkN i s.n), .int .u64 0, .int .u64 0, .int .u64 0] 52))
              go_wp2_with (first
                | (go_at_call 103; refine (hmk.out _).mono ?_; rintro e w' ⟨rfl, rfl⟩)
                | (at_builtin; refine wpList_append_rep2 rfl _ _ 103 rfl elemLS (xs := Z) (ys := [⟨a3, (mks mkSt i s.n).length + 1, c3⟩]) (aa := am) (c := cm) (c2 := 1) (HMO.out.keep ((Upd.refl [] w3).alloc _) (by simp)) ((hlit2.out _ _ _ _).rd elemLS.len) (by simp [Act.eval, hZ.out]) (by simp [Act.eval]) (by simp [maxLen, hZ.out]; omega) (by simp [hZ.out]; omega) (by simp) ?_; intro a4 c4 w4 ho4 hu4; have HO4 := Lib.hid ho4; have HU4 := Lib.hid hu4; clear ho4 hu4)
                | (at_builtin; refine wpList_append_rep2 rfl _ _ 68 rfl elemM (xs := mks mkSt i s.n) (ys := [mkSt i s.n]) (aa := s.a) (c := s.c) (c2 := 1) (hown.out.keep ((Upd.refl [] wr).alloc _) (by simp)) ((hlit1.out _).rd elemM.len) (by simp [Act.eval, mks_len]) (by simp [Act.eval]) (by simp [maxLen, mks_len]; omega) (by simp [mks_len]; omega) (by simp) ?_; intro a3 c3 w3 ho3 hu3; have HO3 := Lib.hid ho3; have HU3 := Lib.hid hu3; have HMO := Lib.hid (HQ.out.more3 HLB2.out HS.out HUA.out hu3); clear ho3 hu3))
              go_roundg (st.length - (i + 1))
              case measure => have := HM.out; omega
              case rel =>
                have ho4 := HO4.out
                simp only [mks_len] at ho4
                exact ⟨i + 1, a4, c4, _, by have := HM.out; omega, by simp [hZ.out], rfl, HQ.out.step elemM HLB2.out HS.out HUA.out HO3.out HU3.out ((Upd.refl [] w3).alloc _) ho4 HU4.out⟩
            · have hii : ¬ (i : Int) < st.length := by omega
              obtain rfl : i = st.length := by have := HM.out; omega
              go_wp2_with fail
              go_meet
              exact ⟨am, cm, Z, rfl, HQ.out⟩
        case rest =>
          obtain ⟨wf, rfl⟩ : ∃ wf, wf = wc := ⟨_, rfl⟩
          obtain ⟨am2, cm2, Z2, rfl, hq⟩ := hcut
          have CKC := Lib.hid (HQ1.out.chk elemCh elemLC HLA.out hq.upd (fun b hb => ⟨HLB.out.foot_lt b hb, fun hx => HD.out b hx hb⟩))
          have CKS := Lib.hid (hq.chk elemM elemLS HLB2.out (Upd.refl [] _) (by simp))
          have HUD : Hid (Upd (foot ss ++ foot st) w wf) := Lib.hid (HUC.out.trans (hq.upd.mono (fun k _ h => List.mem_append_right _ h)))
          have HRC := Lib.hid (HRC2.out.keep' elemLC hq.upd (fun b hb hx => (HC1.out b hb).2 hx))
          have HRS := Lib.hid (HRS2.out.keep' elemLS hq.upd (fun b hb hx => (HS1.out b hb).2 hx))
          have BC : Hid (∀ (j : Nat) (s : Sl), ss[j]? = some s → s.n ≤ 1000000) := Lib.hid (fun j s hs => (HLA.out.own j s hs).2.2)
          have BS : Hid (∀ (j : Nat) (s : Sl), st[j]? = some s → s.n ≤ 1000000) := Lib.hid (fun j s hs => (HLB.out.own j s hs).2.2)
          have hZC := CKC.out.len
          have hZS := CKS.out.len
          clear hq HQ1 HLA HLB HLB2 HPB2 HUC HRC2 HRS2 HD HC1 HS1 HLC HLS
          go_upto_block 12 with fail
          go_cut [] (fun wx => Upd [] wf wx)
          case first =>
            go_wp2_with fail
            go_loopg [17, 18, 19, 105] ss.length (fun m v17 v18 v19 v105 wz => ∃ i : Nat, m + i = ss.length ∧ v105 = .int .i64 i ∧ Upd [] wf wz)
            case atStart => exact ⟨0, rfl, rfl, Upd.refl _ _⟩
            case round =>
              obtain ⟨i, hm, rfl, hu⟩ := hrel
              have HM := Lib.hid hm
              have HU := Lib.hid hu
              clear hm hu
              by_cases hi : i < ss.length
              · have hii : (i : Int) < ss.length := by omega
                obtain ⟨s, hs⟩ : ∃ s, ss[i]? = some s := ⟨ss[i], List.getElem?_eq_getElem hi⟩
                obtain ⟨r1, z, hz, hzn, r2⟩ := CKC.out.at_ i s hs
                obtain ⟨bm, om, rfl, hc⟩ := CKC.out.more i z hz
                have x0 := HU.out.cellS (hc 0 _ rfl) (by simp)
                clear hc
                obtain ⟨b, off, rfl, hc⟩ := HRC.out i s hs
                have Y0 := hc 0 _ rfl
                clear hc
                simp only [Nat.add_zero, Nat.mul_one] at x0 Y0
                have hsn : s.n ≤ 1000000 := BC.out i s hs
                have R1 := Lib.hid r1
                have R2 := Lib.hid r2
                have HY0 := Lib.hid Y0
                clear hs hz r1 r2 Y0
                obtain ⟨sa, sn, sc⟩ := s
                obtain ⟨za, zn, zc⟩ := z
                simp only at hzn
                subst hzn
                simp only at x0 hsn R1 R2 HY0
                go_wp2_with fail
                go_loopg [19, 112] (sn + 1) (fun m v19 v112 wz => ∃ k : Nat, m + k = sn + 1 ∧ v112 = .int .i64 k ∧ Upd [] wf wz)
                case atStart => exact ⟨0, rfl, rfl, HU.out⟩
                case round =>
                  obtain ⟨k, hm, rfl, hu⟩ := hrel
                  clear HU
                  have HM2 := Lib.hid hm
                  have HU := Lib.hid hu
                  clear hm hu x0
                  by_cases hk1 : k < sn + 1
                  · have hkk1 : (k : Int) < (sn : Int) + 1 := by omega
                    obtain ⟨g2, o2, rfl, hc⟩ := R2.out k (mkCh i k) (mks_at hk1)
                    have y2 := HU.out.cellS (hc 4 (.int .i64 (mkN i k)) rfl) (by simp)
                    clear hc
                    have y3 := HU.out.cellS HY0.out (by simp)
                    try simp only [Nat.add_zero, Nat.mul_one] at y2
                    have hmk := Lib.hid (fun W => mark_any i k (by omega) (by omega) W)
                    have hq1 : decide (mkN i k = mkN i k) = true := by simp
                    have hq2 : decide (mkN i k ≠ mkN i k) = false := by simp
                    have hq3 : (mkN i k != mkN i k) = false := by simp
                    by_cases hk : k < sn
                    · have hkk : (k : Int) < sn := by omega
                      obtain ⟨g1, o1, rfl, hc⟩ := R1.out k (mkCh i k) (mks_at hk)
                      have y1 := HU.out.cellS (hc 4 (.int .i64 (mkN i k)) rfl) (by simp)
                      clear hc
                      try simp only [Nat.add_zero, Nat.mul_one] at y1
                      go_wp2_with fail
                      go_quiet ((go_at_call 103; exact Calls.quiet_of_same ((hmk.out _).mono fun e w' h => ⟨h.1, h.2.symm⟩)))
                      go_wp2_with fail
                      go_roundg (sn + 1 - (k + 1))
                      case measure => have := HM2.out; omega
                      case rel => exact ⟨k + 1, by have := HM2.out; omega, rfl, HU.out.drewN _⟩
                    · have hkk : decide ((k : Int) < sn) = false := by simp; omega
                      go_wp2_with fail
                      go_quiet ((go_at_call 103; exact Calls.quiet_of_same ((hmk.out _).mono fun e w' h => ⟨h.1, h.2.symm⟩)))
                      go_wp2_with fail
                      go_roundg (sn + 1 - (k + 1))
                      case measure => have := HM2.out; omega
                      case rel => exact ⟨k + 1, by have := HM2.out; omega, rfl, HU.out.drewN _⟩
                  · have hkk1 : ¬ (k : Int) < (sn : Int) + 1 := by omega
                    go_wp2_with fail
                    go_roundg (ss.length - (i + 1))
                    case measure => have := HM.out; omega
                    case rel => exact ⟨i + 1, by have := HM.out; omega, rfl, HU.out⟩
              · have hii : ¬ (i : Int) < ss.length := by omega
                go_wp2_with fail
                go_meet
                exact HU.out
          case rest =>
            have HC := Lib.hid hcut
            clear hcut
            go_wp2_with fail
            go_loopg [20, 21, 22, 151] st.length (fun m v20 v21 v22 v151 wz => ∃ i : Nat, m + i = st.length ∧ v151 = .int .i64 i ∧ Upd [] wf wz)
            case atStart => exact ⟨0, rfl, rfl, HC.out⟩
            case round =>
              obtain ⟨i, hm, rfl, hu⟩ := hrel
              have HM := Lib.hid hm
              have HU := Lib.hid hu
              clear hm hu
              by_cases hi : i < st.length
              · have hii : (i : Int) < st.length := by omega
                obtain ⟨s, hs⟩ : ∃ s, st[i]? = some s := ⟨st[i], List.getElem?_eq_getElem hi⟩
                obtain ⟨r1, z, hz, hzn, r2⟩ := CKS.out.at_ i s hs
                obtain ⟨bm, om, rfl, hc⟩ := CKS.out.more i z hz
                have x0 := HU.out.cellS (hc 0 _ rfl) (by simp)
                clear hc
                obtain ⟨b, off, rfl, hc⟩ := HRS.out i s hs
                have Y0 := hc 0 _ rfl
                clear hc
                simp only [Nat.add_zero, Nat.mul_one] at x0 Y0
                have hsn : s.n ≤ 1000000 := BS.out i s hs
                have R1 := Lib.hid r1
                have R2 := Lib.hid r2
                have HY0 := Lib.hid Y0
                clear hs hz r1 r2 Y0
                obtain ⟨sa, sn, sc⟩ := s
                obtain ⟨za, zn, zc⟩ := z
                simp only at hzn
                subst hzn
                simp only at x0 hsn R1 R2 HY0
                go_wp2_with fail
                go_loopg [22, 158] (sn + 1) (fun m v22 v158 wz => ∃ k : Nat, m + k = sn + 1 ∧ v158 = .int .i64 k ∧ Upd [] wf wz)
                case atStart => exact ⟨0, rfl, rfl, HU.out⟩
                case round =>
                  obtain ⟨k, hm, rfl, hu⟩ := hrel
                  clear HU
                  have HM2 := Lib.hid hm
                  have HU := Lib.hid hu
                  clear hm hu x0
                  by_cases hk1 : k < sn + 1
                  · have hkk1 : (k : Int) < (sn : Int) + 1 := by omega
                    obtain ⟨g2, o2, rfl, hc⟩ := R2.out k (mkSt i k) (mks_at hk1)
                    have y2 := HU.out.cellS (hc 0 _ (by rw [eeM_mk (show i ≤ 1000000 ∧ k ≤ 100000000 by omega)]; rfl)) (by simp)
                    clear hc
                    have y3 := HU.out.cellS HY0.out (by simp)
                    try simp only [Nat.add_zero, Nat.mul_one] at y2
                    have hmk := Lib.hid (fun W => mark_any i k (by omega) (by omega) W)
                    have hq1 : decide (mkN i k = mkN i k) = true := by simp
                    have hq2 : decide (mkN i k ≠ mkN i k) = false := by simp
                    have hq3 : (mkN i k != mkN i k) = false := by simp
                    by_cases hk : k < sn
                    · have hkk : (k : Int) < sn := by omega
                      obtain ⟨g1, o1, rfl, hc⟩ := R1.out k (mkSt i k) (mks_at hk)
                      have y1 := HU.out.cellS (hc 0 _ (by rw [eeM_mk (show i ≤ 1000000 ∧ k ≤ 100000000 by omega)]; rfl)) (by simp)
                      clear hc
                      try simp only [Nat.add_zero, Nat.mul_one] at y1
                      go_wp2_with fail
                      go_quiet ((go_at_call 103; exact Calls.quiet_of_same ((hmk.out _).mono fun e w' h => ⟨h.1, h.2.symm⟩)))
                      go_wp2_with fail
                      go_roundg (sn + 1 - (k + 1))
                      case measure => have := HM2.out; omega
                      case rel => exact ⟨k + 1, by have := HM2.out; omega, rfl, HU.out.drewN _⟩
                    · have hkk : decide ((k : Int) < sn) = false := by simp; omega
                      go_wp2_with fail
                      go_quiet ((go_at_call 103; exact Calls.quiet_of_same ((hmk.out _).mono fun e w' h => ⟨h.1, h.2.symm⟩)))
                      go_wp2_with fail
                      go_roundg (sn + 1 - (k + 1))
                      case measure => have := HM2.out; omega
                      case rel => exact ⟨k + 1, by have := HM2.out; omega, rfl, HU.out.drewN _⟩
                  · have hkk1 : ¬ (k : Int) < (sn : Int) + 1 := by omega
                    go_wp2_with fail
                    go_roundg (st.length - (i + 1))
                    case measure => have := HM.out; omega
                    case rel => exact ⟨i + 1, by have := HM.out; omega, rfl, HU.out⟩
              · have hii : ¬ (i : Int) < st.length := by omega
                go_wp2_with fail
                go_ret
                exact ⟨rfl, HUD.out.trans (HU.out.mono (by simp))⟩
end Go.Proofs.Ytcdmdpgfadopcaa
