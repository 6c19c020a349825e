/-
  multi: Apply, the walk.
-/
import Derived.Test.YtcdmdpgfadopcaaMulti8
namespace Go.Proofs.Ytcdmdpgfadopcaa
open Go.Slu Go.MapKept Go.RowKit Go.Sort
theorem wrapS {n : Int} (h1 : -9000000000000000000 ≤ n) (h2 : n ≤ 9000000000000000000) : wrap64 n = n ∧ IntKind.i64.wrap n = n := ⟨IntWalk.wrap64_in _ (by omega), IntWalk.i64_in _ (by omega)⟩
theorem cnt_ok {M : List (TimeK × Int)} (hn : ∀ p ∈ M, p.2 ≠ 0 ∧ okC p.2 = true) (x : TimeK) : okC (cnt M x) = true := by
  unfold cnt
  cases hx : lk M x with
  | none => simp [okC]
  | some v => exact (hn _ (lk_mem hx)).2
theorem cnt_at {S : List (TimeK × Int)} (hd : (S.map (·.1)).Nodup) {x : TimeK} {n : Int} (h : (x, n) ∈ S) : cnt S x = n := by unfold cnt; rw [lk_of_mem hd h]; rfl
theorem okAll_of {M S D : List (TimeK × Int)} (hn : ∀ p ∈ M, p.2 ≠ 0 ∧ okC p.2 = true) (hc : ∀ x, cnt S x = tot D x) (hs : ∀ p ∈ S, okC (cnt M p.1 + p.2) = true) (x : TimeK) : okC (cnt M x + tot D x) = true := by
  rw [← hc x]
  cases hx : lk S x with
  | none => rw [show cnt S x = 0 by unfold cnt; rw [hx]; rfl, Int.add_zero]; exact cnt_ok hn x
  | some v => rw [show cnt S x = v by unfold cnt; rw [hx]; rfl]; exact hs _ (lk_mem hx)
theorem addH {W : World} {tb mb : Nat} {M : List (TimeK × Int)} (ht : TallyTk ekT W tb mb 105 M) (x : TimeK) {n v : Int} (h1 : okC n = true) (h2 : okC (cnt M x) = true) (h3 : okC v = true) (hv : cnt M x + n = v) :
    Calls Try.prog 114 #[.pointer (some ⟨tb, 0, none⟩), ekT x, .int .i64 n] W fun e w' => e = .returned (.int .i64 0) ∧ TallyTk ekT w' tb mb 105 (setM M x v) ∧ Upd [mb] W w' := by
  subst hv
  refine (addTk kvTime tb mb _ M x n W ht h2).mono fun e w' h => ?_
  unfold AddedTk at h
  simpa [h1, h3] using h
theorem MulAt.ne_map {w : World} {u tb mb cb : Nat} {M : List (TimeK × Int)} {a : Option Addr} {c : Nat} {l : List TimeK} (h : MulAt w u tb mb cb M a c l) : u ≠ mb ∧ cb ≠ mb ∧ mb ∉ ablk a := by
  obtain ⟨es, cl, hb, _⟩ := h.t.map
  refine ⟨fun e => ?_, fun e => ?_, fun e => ?_⟩
  · have := h.blk; rw [e, hb] at this; cases this
  · have := h.ch.blk; rw [e, hb] at this; cases this
  · rcases h.ch.own.cases with ⟨h1, _, _⟩ | ⟨g, h1, _⟩
    · rw [h1] at e; simp [ablk] at e
    · have ho := h.ch.own
      rw [h1] at ho e
      obtain ⟨cur, hc, _⟩ := ho.block
      simp [ablk] at e
      rw [← e, hb] at hc
      cases hc
theorem MulAt.far {w : World} {u tb mb cb : Nat} {M : List (TimeK × Int)} {a : Option Addr} {c : Nat} {l : List TimeK} (h : MulAt w u tb mb cb M a c l) : u ≠ cb ∧ tb ≠ cb := by
  refine ⟨fun e => ?_, fun e => ?_⟩
  · have := h.blk; rw [e, h.ch.blk] at this; cases this
  · have := h.t.blk; rw [e, h.ch.blk] at this; cases this
theorem ChainAt.keep0' {w w' : World} {cb : Nat} {a : Option Addr} {c : Nat} {l : List TimeK} (h : ChainAt w cb a c l) (hu : Upd [] w w') : ChainAt w' cb a c l := h.keep hu (by simp) (by simp)
section
variable {w : World} {u tb mb cb : Nat} {M : List (TimeK × Int)} {a : Option Addr} {c : Nat} {l : List TimeK}
set_option maxHeartbeats 4000000 in
set_option maxRecDepth 20000 in
theorem applyM (h : MulAt w u tb mb cb M a c l) {D : List (TimeK × Int)} {ad : Option Addr} {cd : Nat} (hrd : Rd 4 eeD w ad D) (hlen : M.length + D.length ≤ 1000000) (hl : l.length ≤ 1000000) (hln : l.Nodup) :
    Calls Try.prog 61 #[.pointer (some ⟨u, 0, none⟩), .slice ad D.length cd] w (Applied u tb mb cb M l D w) := by
  have hs := sums_any (c := cd) hrd (by omega)
  have hb := Lib.hid (fun n W => beyondM_any n W)
  have H := Lib.hid h
  have HLN := Lib.hid hln
  have hnd := Lib.hid (MapRep.nodup kvTime.ops h.t.map)
  have hnz := Lib.hid h.t.nz
  clear hrd hln
  by_cases hv : ∀ d ∈ D, okC d.2 = true
  · have hs2 := Lib.hid (hs.mono (R' := SumsOk D w) (fun e w' h => h.elim (fun h => h.2) (fun ⟨⟨d, hd, h⟩, _⟩ => absurd (hv d hd) (by simp [h]))))
    have HV := Lib.hid hv
    clear hs hv h
    go_enter Try.func61, Try.ntmps61
    go_upto_block 0 with (first
      | (go_at_call 111; refine hs2.out.mono ?_; rintro e w1 ⟨b, S, rfl, hm1, hcn, hky, hsl, hge, hu1⟩; have HM1 := Lib.hid hm1; have HC1 := Lib.hid hcn; have HK1 := Lib.hid hky; have HG1 := Lib.hid hge; have HU1 := Lib.hid hu1; clear hm1 hcn hky hge hu1)
      | (refine wpList_range_rep rfl _ 173 2 rfl Try.underlying173 HM1.out rfl ?_; intro w2 hi2 hu2; have HI2 := Lib.hid hi2; have HU2 := Lib.hid hu2; clear hi2 hu2))
    have hnS := Lib.hid (MapRep.nodup kvTime.ops HM1.out)
    have H1 := Lib.hid (H.out.keep0 HU1.out)
    have hbS : Hid (∀ p ∈ S, -3000000000000000 ≤ p.2 ∧ p.2 ≤ 3000000000000000) := Lib.hid (fun p hp => by
      have h1 := tot_bound (b := 2147483647) (l := D) (fun d hd => okC_bound (HV.out d hd)) (by omega) p.1
      rw [← HC1.out, cnt_at hnS.out (show (p.1, p.2) ∈ S from hp)] at h1
      have : (D.length : Int) ≤ 1000000 := by omega
      omega)
    have hcb : Hid (∀ x, -2147483647 ≤ cnt M x ∧ cnt M x ≤ 2147483647) := Lib.hid (fun x => okC_bound (cnt_ok hnz.out x))
    go_frame
    go_cut [] (fun wx => (∀ x, okC (cnt M x + tot D x) = true) ∧ Upd [] w1 wx)
    case first =>
      go_wp2_with fail
      go_loopg [26] S.length (fun k _ wz => ∃ left : List (TimeK × Int), left.length = k ∧ Iter ekT (Value.int .i64) wz w1.heap.size b left ∧ (∀ p ∈ S, p ∈ left ∨ okC (cnt M p.1 + p.2) = true) ∧ (∀ p ∈ left, p ∈ S) ∧ Upd [] w1 wz)
      case atStart => exact ⟨S, rfl, HI2.out, fun p hp => .inl hp, fun p hp => hp, HU2.out⟩
      case round =>
        obtain ⟨left, hk, hi, hdone, hsub, hu⟩ := hrel
        have HK := Lib.hid hk
        have HD := Lib.hid hdone
        have HS := Lib.hid hsub
        have HU := Lib.hid hu
        clear hk hdone hsub hu
        go_upto_region 8 with (refine wpList_next_rep rfl _ rfl hi rfl ?_ ?_)
        · intro hl
          have HL := Lib.hid hl
          clear hl
          go_wp2_with fail
          go_meet
          exact ⟨okAll_of hnz.out HC1.out (fun p hp => (HD.out p hp).resolve_left (by rw [HL.out]; simp)), HU.out⟩
        · intro x n l1 l2 wn hl hi4 hat hu4
          have hp : (x, n) ∈ S := HS.out _ (by rw [hl]; simp)
          have hw := wrapS (n := cnt M x + n) (by have := hcb.out x; have := hbS.out _ hp; omega) (by have := hcb.out x; have := hbS.out _ hp; omega)
          have HP := Lib.hid hp
          have HL := Lib.hid hl
          have HI4 := Lib.hid hi4
          have HU4 := Lib.hid (HU.out.then hu4 (fun b hb hlt => absurd hlt (by simp at hb; omega)))
          have hbp := Lib.hid (hb.out (cnt M x + n))
          clear hp hl hi4 hu4 hi
          go_upto_region 8 with fail
          go_upto_region 9 with (refine wpList_entry_rep (x := x) (v := n) rfl _ rfl hat rfl ?_)
          have z0 := cell_new wn #[.int .u64 x.a, .int .u64 x.b, .int .u64 x.c] 50 0 (v := .int .u64 x.a) rfl
          have z1 := cell_new wn #[.int .u64 x.a, .int .u64 x.b, .int .u64 x.c] 50 1 (v := .int .u64 x.b) rfl
          have z2 := cell_new wn #[.int .u64 x.a, .int .u64 x.b, .int .u64 x.c] 50 2 (v := .int .u64 x.c) rfl
          have h3 := H1.out.keep0 (HU4.out.alloc (.cells #[.int .u64 x.a, .int .u64 x.b, .int .u64 x.c] 50))
          have c0 := h3.c0
          have hg := Lib.hid (fun W (hW : Upd [] (wn.alloc (.cells #[.int .u64 x.a, .int .u64 x.b, .int .u64 x.c] 50)) W) => countC (h3.t.keep hW (by simp) (by simp)) x)
          have HUA := Lib.hid (HU4.out.alloc (.cells #[.int .u64 x.a, .int .u64 x.b, .int .u64 x.c] 50))
          have HIA := Lib.hid (HI4.out.keep ((Upd.refl [] wn).alloc (.cells #[.int .u64 x.a, .int .u64 x.b, .int .u64 x.c] 50)) (by simp) (by simp))
          clear h3 hat HU4 HI4
          generalize wn.alloc (.cells #[.int .u64 x.a, .int .u64 x.b, .int .u64 x.c] 50) = wA at *
          generalize wn.heap.size = pb at *
          obtain ⟨hw1, hw2⟩ := hw
          by_cases hok : okC (cnt M x + n) = true
          · have HOK := Lib.hid hok
            rw [hok] at hbp
            clear hok
            go_region_held3 (fun w' => w'.cell? ⟨u, 0, none⟩ = some (.pointer (some ⟨tb, 0, none⟩)) ∧ w'.cell? ⟨pb, 0, none⟩ = some (.int .u64 x.a) ∧ w'.cell? ⟨pb, 1, none⟩ = some (.int .u64 x.b) ∧ w'.cell? ⟨pb, 2, none⟩ = some (.int .u64 x.c)) (go_keep)
              ((first
                | (go_at_call 113; refine (hg.out _ (Upd.refl [] wA).drew).mono ?_; rintro e w3 ⟨rfl, hu⟩; have hk := fun (pp : Addr) v (h : wA.cell? pp = some v) => hu.cellS (show wA.drew.cell? pp = some v from h) (by simp); have k0 := hk _ _ c0; have k5 := hk _ _ z0; have k6 := hk _ _ z1; have k7 := hk _ _ z2; have HU5 := Lib.hid (HUA.out.trans ((Upd.refl [] wA).drew.trans hu)); have HI5 := Lib.hid (HIA.out.keep ((Upd.refl [] wA).drew.trans hu) (by simp) (by simp)); clear hu hk)
                | (go_at_call 112; refine (hbp.out _).mono ?_; rintro e wB ⟨rfl, rfl⟩)))
            go_wp2_with fail
            go_roundg (l1 ++ l2).length
            case measure => have := HK.out; rw [HL.out] at this; simp at this ⊢; omega
            case rel =>
              refine ⟨l1 ++ l2, rfl, HI5.out, fun p hp => ?_, fun p hp => HS.out p (by rw [HL.out]; simp at hp ⊢; rcases hp with h | h <;> simp [h]), HU5.out⟩
              rcases HD.out p hp with hp | hp
              · rw [HL.out] at hp
                simp only [List.mem_append, List.mem_cons] at hp ⊢
                rcases hp with hp | rfl | hp
                · exact .inl (.inl hp)
                · exact .inr HOK.out
                · exact .inl (.inr hp)
              · exact .inr hp
          · have hok' : okC (cnt M x + n) = false := by simpa using hok
            have HOK := Lib.hid hok'
            rw [hok'] at hbp
            clear hok hok'
            go_region_held3 (fun w' => w'.cell? ⟨u, 0, none⟩ = some (.pointer (some ⟨tb, 0, none⟩)) ∧ w'.cell? ⟨pb, 0, none⟩ = some (.int .u64 x.a) ∧ w'.cell? ⟨pb, 1, none⟩ = some (.int .u64 x.b) ∧ w'.cell? ⟨pb, 2, none⟩ = some (.int .u64 x.c)) (go_keep)
              ((first
                | (go_at_call 113; refine (hg.out _ (Upd.refl [] wA).drew).mono ?_; rintro e w3 ⟨rfl, hu⟩; have hk := fun (pp : Addr) v (h : wA.cell? pp = some v) => hu.cellS (show wA.drew.cell? pp = some v from h) (by simp); have k0 := hk _ _ c0; have k5 := hk _ _ z0; have k6 := hk _ _ z1; have k7 := hk _ _ z2; have HU5 := Lib.hid (HUA.out.trans ((Upd.refl [] wA).drew.trans hu)); clear hu hk)
                | (go_at_call 112; refine (hbp.out _).mono ?_; rintro e wB ⟨rfl, rfl⟩)))
            go_wp2_with fail
            go_ret2
            refine .inr ⟨fun h => ?_, rfl, HU1.out.trans HU5.out⟩
            have h1 := h.2 x
            rw [← HC1.out x, cnt_at hnS.out HP.out, HOK.out] at h1
            cases h1
    case rest =>
      obtain ⟨wx, rfl⟩ : ∃ wx, wx = wc := ⟨_, rfl⟩
      obtain ⟨hok, hu⟩ := hcut
      have HOK := Lib.hid hok
      have HUx := Lib.hid (HU1.out.trans hu)
      have HMx := Lib.hid (HM1.out.keep hu (by simp))
      have Hx := Lib.hid (H1.out.keep0 hu)
      have hltt := H.out.t.lt
      have hlmb : Hid (tb < w.heap.size ∧ mb < w.heap.size ∧ mb ≠ b ∧ w.heap.size ≤ wx.heap.size ∧ b < wx.heap.size) := Lib.hid ⟨hltt.1, hltt.2, by have := HG1.out; omega, HUx.out.size, HMx.out.lt⟩
      clear hok hu hltt HU2 HI2
      go_upto_block 2 with (refine wpList_range_rep rfl _ 173 2 rfl Try.underlying173 HMx.out rfl ?_; intro w5 hi5 hu5; have HI5 := Lib.hid hi5; have HU5 := Lib.hid hu5; clear hi5 hu5)
      go_frame
      go_cut [] (fun wy => ∃ Mq, TallyTk ekT wy tb mb 105 Mq ∧ (∀ x, cnt Mq x = cnt M x + tot D x) ∧ (∀ y ∈ Mq.map (·.1), y ∈ M.map (·.1) ∨ y ∈ S.map (·.1)) ∧ Upd [mb] wx wy)
      case first =>
        go_wp2_with fail
        go_loopg [42] S.length (fun k _ wz => ∃ (left Mq : List (TimeK × Int)), left.length = k ∧ Iter ekT (Value.int .i64) wz wx.heap.size b left ∧ TallyTk ekT wz tb mb 105 Mq ∧ (left.map (·.1)).Nodup ∧ (∀ p ∈ left, p ∈ S) ∧ (∀ x, cnt Mq x = cnt M x + (if (lk left x).isSome then 0 else cnt S x)) ∧ (∀ y ∈ Mq.map (·.1), y ∈ M.map (·.1) ∨ y ∈ S.map (·.1)) ∧ Upd [mb] wx wz)
        case atStart =>
          refine ⟨S, M, rfl, HI5.out, Hx.out.t.keep HU5.out (by simp) (by simp), hnS.out, fun p hp => hp, fun x => ?_, fun y hy => .inl hy, HU5.out.mono (by simp)⟩
          cases hx : lk S x <;> simp [cnt, hx]
        case round =>
          obtain ⟨left, Mq, hk, hi, ht, hnl, hsub, hcq, hkq, hu⟩ := hrel
          have HK := Lib.hid hk
          have HT := Lib.hid ht
          have HN := Lib.hid hnl
          have HS := Lib.hid hsub
          have HCQ := Lib.hid hcq
          have HKQ := Lib.hid hkq
          have HU := Lib.hid hu
          clear hk ht hnl hsub hcq hkq hu
          go_upto_region 13 with (refine wpList_next_rep rfl _ rfl hi rfl ?_ ?_)
          · intro hl
            have HL := Lib.hid hl
            clear hl
            go_wp2_with fail
            go_meet
            exact ⟨Mq, HT.out, fun x => by rw [HCQ.out x, HL.out, ← HC1.out x]; simp [lk], HKQ.out, HU.out⟩
          · intro x n l1 l2 wn hl hi4 hat hu4
            have hp : (x, n) ∈ S := HS.out _ (by rw [hl]; simp)
            have hcx : cnt Mq x = cnt M x := by rw [HCQ.out x, lk_of_mem HN.out (show (x, n) ∈ left by rw [hl]; simp)]; simp
            have hn : cnt S x = n := cnt_at hnS.out hp
            have hcm := cnt_ok hnz.out x
            have hcn : okC (cnt M x + n) = true := by have := HOK.out x; rwa [← HC1.out x, hn] at this
            obtain ⟨g1, g2, g3, g4, g5, g6⟩ := half_ok hcm hcn
            have hA1 := Lib.hid (fun W (hW : TallyTk ekT W tb mb 105 Mq) => addH hW x g1 (by rw [hcx]; exact hcm) g2 (by rw [hcx]))
            have hA2 := Lib.hid (fun W (hW : TallyTk ekT W tb mb 105 (setM Mq x (cnt M x + n.tdiv 2))) => addH hW x (v := cnt M x + n) g3 (by rw [cnt_setM, if_pos rfl]; exact g2) hcn (by rw [cnt_setM, if_pos rfl]; omega))
            have g7 : IntKind.i64.wrap (n.tdiv 2) = n.tdiv 2 := (wrapS (by have := (okC_iff _).1 g1; omega) (by have := (okC_iff _).1 g1; omega)).2
            have g8 : IntKind.i64.wrap (n - n.tdiv 2) = n - n.tdiv 2 := (wrapS (by have := (okC_iff _).1 g3; omega) (by have := (okC_iff _).1 g3; omega)).2
            have HP := Lib.hid hp
            have HL := Lib.hid hl
            have HI4 := Lib.hid hi4
            have HN2 := Lib.hid hn
            have hsz : Hid (wx.heap.size ≤ wn.heap.size) := Lib.hid (by have := HU.out.size; have := hu4.size; omega)
            have hri : Hid (wx.heap.size < wn.heap.size) := Lib.hid hi4.lt.1
            have hm1 : Hid (mb ≠ wx.heap.size ∧ tb ≠ wx.heap.size) := Lib.hid (by have := hlmb.out; omega)
            have HT4 := Lib.hid (HT.out.keep hu4 (by have := hm1.out.2; simpa using this) (by have := hm1.out.1; simpa using this))
            have HU4 := Lib.hid (HU.out.then hu4 (fun b hb hlt => absurd hlt (by simp at hb; omega)))
            clear hp hl hi4 hu4 hi hcx hn hcm hcn g1 g2 g3 g4 HT HU
            go_upto_region 13 with fail
            go_upto_region 14 with (refine wpList_entry_rep (x := x) (v := n) rfl _ rfl hat rfl ?_)
            have z0 := cell_new wn #[.int .u64 x.a, .int .u64 x.b, .int .u64 x.c] 50 0 (v := .int .u64 x.a) rfl
            have z1 := cell_new wn #[.int .u64 x.a, .int .u64 x.b, .int .u64 x.c] 50 1 (v := .int .u64 x.b) rfl
            have z2 := cell_new wn #[.int .u64 x.a, .int .u64 x.b, .int .u64 x.c] 50 2 (v := .int .u64 x.c) rfl
            have hal := (Upd.refl [] wn).alloc (.cells #[.int .u64 x.a, .int .u64 x.b, .int .u64 x.c] 50)
            have c0 := (HU4.out.alloc (.cells #[.int .u64 x.a, .int .u64 x.b, .int .u64 x.c] 50)).cellS Hx.out.c0 (by simpa using Hx.out.ne_map.1)
            have HTA := Lib.hid (HT4.out.keep hal (by simp) (by simp))
            have HUA := Lib.hid (HU4.out.alloc (.cells #[.int .u64 x.a, .int .u64 x.b, .int .u64 x.c] 50))
            have HIA := Lib.hid (HI4.out.keep hal (by simp) (by simp))
            have hpm : Hid (wn.heap.size ≠ mb ∧ wn.heap.size ∉ [mb]) := Lib.hid (by have := hlmb.out; have := hsz.out; constructor <;> simp <;> omega)
            clear hal hat HT4 HI4 HU4 hsz
            generalize wn.alloc (.cells #[.int .u64 x.a, .int .u64 x.b, .int .u64 x.c] 50) = wA at *
            generalize wn.heap.size = pb at *
            have hum : Hid (u ∉ [mb]) := Lib.hid (by simpa using Hx.out.ne_map.1)
            obtain ⟨hp1, hp2⟩ := hpm.out
            clear hp1 hp2
            go_region_held3 (fun w' => w'.cell? ⟨u, 0, none⟩ = some (.pointer (some ⟨tb, 0, none⟩)) ∧ w'.cell? ⟨pb, 0, none⟩ = some (.int .u64 x.a) ∧ w'.cell? ⟨pb, 1, none⟩ = some (.int .u64 x.b) ∧ w'.cell? ⟨pb, 2, none⟩ = some (.int .u64 x.c)) (go_keep)
              ((go_at_call 114; refine (hA1.out _ (HTA.out.keep (Upd.refl [] wA).drew (by simp) (by simp))).mono ?_; rintro e w3 ⟨rfl, ht3, hu3⟩; have hk := fun (pp : Addr) v (h : wA.cell? pp = some v) (hx : pp.block ∉ [mb]) => hu3.cellS (show wA.drew.cell? pp = some v from h) hx; have k0 := hk _ _ c0 hum.out; have k5 := hk _ _ z0 hpm.out.2; have k6 := hk _ _ z1 hpm.out.2; have k7 := hk _ _ z2 hpm.out.2; have HT3 := Lib.hid ht3; have HU3 := Lib.hid (HUA.out.trans ((Upd.refl [mb] wA).drew.trans hu3)); have HV3 := Lib.hid ((Upd.refl [mb] wA).drew.trans hu3); clear hu3 hk ht3))
            clear c0 z0 z1 z2
            go_upto_region 15 with fail
            go_region_held3 (fun w' => w'.cell? ⟨u, 0, none⟩ = some (.pointer (some ⟨tb, 0, none⟩)) ∧ w'.cell? ⟨pb, 0, none⟩ = some (.int .u64 x.a) ∧ w'.cell? ⟨pb, 1, none⟩ = some (.int .u64 x.b) ∧ w'.cell? ⟨pb, 2, none⟩ = some (.int .u64 x.c)) (go_keep)
              ((go_at_call 114; refine (hA2.out _ (HT3.out.keep (Upd.refl [] w3).drew (by simp) (by simp))).mono ?_; rintro e w6 ⟨rfl, ht6, hu6⟩; have hk := fun (pp : Addr) v (h : w3.cell? pp = some v) (hx : pp.block ∉ [mb]) => hu6.cellS (show w3.drew.cell? pp = some v from h) hx; have j0 := hk _ _ k0 hum.out; have j5 := hk _ _ k5 hpm.out.2; have j6 := hk _ _ k6 hpm.out.2; have j7 := hk _ _ k7 hpm.out.2; have HT6 := Lib.hid ht6; have HU6 := Lib.hid (HU3.out.trans ((Upd.refl [mb] w3).drew.trans hu6)); have HV6 := Lib.hid (HV3.out.trans ((Upd.refl [mb] w3).drew.trans hu6)); clear hu6 hk ht6))
            go_wp2_with fail
            have hd := HN.out
            rw [HL.out] at hd
            simp only [List.map_append, List.map_cons] at hd
            obtain ⟨hn1, hn2, hn3⟩ := List.nodup_append.1 hd
            obtain ⟨hn4, hn5⟩ := List.nodup_cons.1 hn2
            have hxl : x ∉ (l1 ++ l2).map (·.1) := by
              simp only [List.map_append, List.mem_append, not_or]
              exact ⟨fun q => hn3 x q x (List.mem_cons_self ..) rfl, hn4⟩
            have HXL := Lib.hid hxl
            have HND : Hid ((l1 ++ l2).map (·.1)).Nodup := Lib.hid (by rw [List.map_append]; exact List.nodup_append.2 ⟨hn1, hn5, fun a ha b hb => hn3 a ha b (List.mem_cons_of_mem _ hb)⟩)
            clear hd hn1 hn2 hn3 hn4 hn5 hxl
            go_roundg (l1 ++ l2).length
            case measure => have := HK.out; rw [HL.out] at this; simp at this ⊢; omega
            case rel =>
              refine ⟨l1 ++ l2, _, rfl, HIA.out.keep HV6.out (by have := hlmb.out; simp; omega) (by have := hlmb.out; simp; omega), HT6.out, HND.out, fun p hp => HS.out p (by rw [HL.out]; simp at hp ⊢; rcases hp with h | h <;> simp [h]), fun y => ?_, fun y hy => ?_, HU6.out⟩
              · rw [cnt_setM, cnt_setM]
                by_cases hy : y = x
                · subst hy
                  rw [if_pos rfl, lk_none.2 HXL.out, HN2.out]
                  simp
                · rw [if_neg hy, if_neg hy, HCQ.out y, HL.out, lk_skip _ _ hy]
              · rcases mem_setM hy with rfl | hy
                · exact .inr (List.mem_map_of_mem (f := (·.1)) HP.out)
                · rcases mem_setM hy with rfl | hy
                  · exact .inr (List.mem_map_of_mem (f := (·.1)) HP.out)
                  · exact HKQ.out y hy
      case rest =>
        obtain ⟨wy, rfl⟩ : ∃ wy, wy = wc := ⟨_, rfl⟩
        obtain ⟨M', ht, hcn, hky, hu⟩ := hcut
        obtain ⟨hne1, hne2, hne3⟩ := Hx.out.ne_map
        have hml : Hid (M'.length ≤ M.length + S.length) := Lib.hid (by
          have := nodup_len (MapRep.nodup kvTime.ops ht.map) (U := M.map (·.1) ++ S.map (·.1)) (fun y hy => by have := hky y hy; simp only [List.mem_append]; exact this)
          simpa using this)
        have hM' : Hid (M'.length ≤ 1000000) := Lib.hid (by have := hml.out; omega)
        obtain ⟨K, hK⟩ := keyT_ex M'
        have hnM := MapRep.nodup kvTime.ops ht.map
        have HTold := Lib.hid (fun i k y => hK.told hnM (i := i) (k := k) (y := y))
        have HKn : Hid K.Nodup := Lib.hid (hK.perm.nodup_iff.2 hnM)
        have hkl : K.length ≤ 1000000 := by rw [hK.len]; exact hM'.out
        have HKT := Lib.hid hK
        have HCN := Lib.hid hcn
        have HT := Lib.hid ht
        have c0 := hu.cellS Hx.out.c0 (by simpa using hne1)
        have c1 := hu.cellS Hx.out.c1 (by simpa using hne1)
        have HCH := Lib.hid (Hx.out.ch.keep hu (by simpa using hne2) (fun b hb => by simp; exact fun e => hne3 (e ▸ hb)))
        have HUy := Lib.hid ((HUx.out.mono (by simp)).trans hu)
        have hfar := Lib.hid Hx.out.far
        have hlt := Lib.hid Hx.out.lt
        clear ht hcn hky hne1 hne2 hne3 hnM hK
        have hxy : Hid (wx.heap.size ≤ wy.heap.size) := Lib.hid hu.size
        clear hu HU5 HI5
        go_upto_block 4 with (first
          | (go_at_call 115; refine (listC HCH.out (by omega)).mono ?_; rintro e w6 ⟨aw, cw, rfl, ho, hf, hu⟩; have d0 := hu.cellS c0 (by simp); have d1 := hu.cellS c1 (by simp); have HO6 := Lib.hid ho; have HF6 := Lib.hid hf; have HU6 := Lib.hid hu; clear c0 c1 ho hf hu)
          | (go_at_call 116; refine (clearC (HCH.out.keep0' HU6.out)).mono ?_; rintro e w7 ⟨rfl, hc7, hu⟩; have f0 := hu.cellS d0 (by simpa using hfar.out.1); have f1 := hu.cellS d1 (by simpa using hfar.out.1); have HC7 := Lib.hid hc7; have HU7 := Lib.hid hu; clear d0 d1 hc7 hu)
          | (go_at_call 117; refine (timesC ((HT.out.keep HU6.out (by simp) (by simp)).keep HU7.out (by simpa using hfar.out.2) (by simpa using fun e => Hx.out.ne_map.2.1 e.symm)) HKT.out hM'.out).mono ?_; rintro e w8 ⟨ak, ck, rfl, ho, hf, hu⟩; have g0 := hu.cellS f0 (by simp); have g1 := hu.cellS f1 (by simp); have HO8 := Lib.hid ho; have HF8 := Lib.hid hf; have HU8 := Lib.hid hu; clear f0 f1 ho hf hu))
        have hcbl : Hid (cb < w7.heap.size ∧ cb < wy.heap.size) := Lib.hid (by have h1 := lt_of_block HCH.out.blk; have h2 := HU6.out.size; have h3 := HU7.out.size; omega)
        have HT8 := Lib.hid ((((HT.out.keep HU6.out (by simp) (by simp)).keep HU7.out (by simpa using hfar.out.2) (by simpa using fun e => Hx.out.ne_map.2.1 e.symm))).keep HU8.out (by simp) (by simp))
        have HC8 := Lib.hid (HC7.out.keep0' HU8.out)
        have HK8 := Lib.hid (HO8.out.rd elemTi.len)
        have htc : Hid (tb ∉ [cb] ∧ mb ∉ [cb] ∧ u ∉ [cb]) := Lib.hid ⟨by simpa using hfar.out.2, by simpa using fun e => Hx.out.ne_map.2.1 e.symm, by simpa using hfar.out.1⟩
        go_wp2_with fail
        go_loopg [83] K.length (fun m v83 wz => ∃ (i : Nat) (a' : Option Addr) (c' : Nat), m + i = K.length ∧ v83 = .int .i64 i ∧ ChainAt wz cb a' c' (frontL M' (K.take i)) ∧ (∀ b ∈ ablk a', w8.heap.size ≤ b) ∧ Upd [cb] w8 wz)
        case atStart => exact ⟨0, none, 0, rfl, rfl, HC8.out, by simp [ablk], Upd.refl _ _⟩
        case round =>
          obtain ⟨i, a', c', hm, rfl, hch, hfr, hu⟩ := hrel
          have HM := Lib.hid hm
          have HC := Lib.hid hch
          have HF := Lib.hid hfr
          have HU := Lib.hid hu
          have hll : Hid ((frontL M' (K.take i)).length ≤ 1000000) := Lib.hid (by have h1 := (frontL_sub M' (K.take i)).length_le; simp only [List.length_take] at h1; omega)
          clear hm hch hfr hu
          by_cases hi : i < K.length
          · have hii : (i : Int) < K.length := by omega
            obtain ⟨x, hx⟩ : ∃ x, K[i]? = some x := ⟨K[i], List.getElem?_eq_getElem hi⟩
            obtain ⟨b', off, rfl, hc⟩ := HK8.out i x hx
            have hbk : b' ≠ cb := by have h1 := HF8.out b' (by simp [ablk]); have h2 := hcbl.out; omega
            have y0 := HU.out.cellS (hc 0 _ rfl) (by simpa using hbk)
            have y1 := HU.out.cellS (hc 1 _ rfl) (by simpa using hbk)
            have y2 := HU.out.cellS (hc 2 _ rfl) (by simpa using hbk)
            simp only [Nat.add_zero] at y0
            have HX := Lib.hid hx
            have htl := Lib.hid (fun y hy => HTold.out i x y hx ((frontL_sub M' (K.take i)).subset hy))
            have hft := Lib.hid (frontL_take (M := M') hx)
            clear hc hx hbk
            have c0 := (HU.out.alloc (.cells #[.int .u64 x.a, .int .u64 x.b, .int .u64 x.c] 50)).cellS g0 htc.out.2.2
            have c1 := (HU.out.alloc (.cells #[.int .u64 x.a, .int .u64 x.b, .int .u64 x.c] 50)).cellS g1 htc.out.2.2
            have hal := (Upd.refl [] wr).alloc (.cells #[.int .u64 x.a, .int .u64 x.b, .int .u64 x.c] 50)
            have z0 := cell_new wr #[.int .u64 x.a, .int .u64 x.b, .int .u64 x.c] 50 0 (v := .int .u64 x.a) rfl
            have z1 := cell_new wr #[.int .u64 x.a, .int .u64 x.b, .int .u64 x.c] 50 1 (v := .int .u64 x.b) rfl
            have z2 := cell_new wr #[.int .u64 x.a, .int .u64 x.b, .int .u64 x.c] 50 2 (v := .int .u64 x.c) rfl
            have HUA := Lib.hid (HU.out.alloc (.cells #[.int .u64 x.a, .int .u64 x.b, .int .u64 x.c] 50))
            have HCA := Lib.hid (HC.out.keep0' hal)
            have HTA := Lib.hid (HT8.out.keep (HU.out.alloc (.cells #[.int .u64 x.a, .int .u64 x.b, .int .u64 x.c] 50)) htc.out.1 htc.out.2.1)
            have hrs : Hid (w8.heap.size ≤ (wr.alloc (.cells #[.int .u64 x.a, .int .u64 x.b, .int .u64 x.c] 50)).heap.size) := Lib.hid HUA.out.size
            have hg := Lib.hid (fun W (hW : Upd [] (wr.alloc (.cells #[.int .u64 x.a, .int .u64 x.b, .int .u64 x.c] 50)) W) => countC (HTA.out.keep hW (by simp) (by simp)) x)
            have hpb : Hid (wr.heap.size ∉ cb :: ablk a' ∧ u ∉ cb :: ablk a') := Lib.hid (by
              have h2 := HC.out.own.lt
              have h3 := lt_of_block HC.out.blk
              have h4 : u < w8.heap.size := by have h5 := hlt.out u (by simp); have h6 := hxy.out; have h7 := HU6.out.size; have h8 := HU7.out.size; have h9 := HU8.out.size; omega
              refine ⟨fun e => ?_, fun e => ?_⟩
              · rcases List.mem_cons.1 e with e | e
                · omega
                · have := h2 _ e; omega
              · rcases List.mem_cons.1 e with e | e
                · exact hfar.out.1 e
                · have := HF.out _ e; omega)
            clear hal
            go_upto_region 21 with fail
            generalize wr.alloc (.cells #[.int .u64 x.a, .int .u64 x.b, .int .u64 x.c] 50) = wA at *
            generalize wr.heap.size = pb at *
            clear y0 y1 y2
            by_cases hq : 0 < cnt M' x
            · have hqb : decide (0 < cnt M' x) = true := decide_eq_true hq
              have HQ := Lib.hid hq
              go_region_held3 (fun w' => w'.cell? ⟨u, 0, none⟩ = some (.pointer (some ⟨tb, 0, none⟩)) ∧ w'.cell? ⟨pb, 0, none⟩ = some (.int .u64 x.a) ∧ w'.cell? ⟨pb, 1, none⟩ = some (.int .u64 x.b) ∧ w'.cell? ⟨pb, 2, none⟩ = some (.int .u64 x.c)) (go_keep)
                ((go_at_call 113; refine (hg.out _ (Upd.refl [] wA).drew).mono ?_; rintro e w3 ⟨rfl, hu⟩; have hk := fun (pp : Addr) v (h : wA.cell? pp = some v) => hu.cellS (show wA.drew.cell? pp = some v from h) (by simp); have k0 := hk _ _ c0; have k1 := hk _ _ c1; have k5 := hk _ _ z0; have k6 := hk _ _ z1; have k7 := hk _ _ z2; have HV5 := Lib.hid ((Upd.refl [] wA).drew.trans hu); clear hu hk))
              clear c0 c1 z0 z1 z2
              go_upto_region 22 with fail
              go_region_held3 (fun w' => w'.cell? ⟨u, 1, none⟩ = some (.pointer (some ⟨cb, 0, none⟩)) ∧ w'.cell? ⟨pb, 0, none⟩ = some (.int .u64 x.a) ∧ w'.cell? ⟨pb, 1, none⟩ = some (.int .u64 x.b) ∧ w'.cell? ⟨pb, 2, none⟩ = some (.int .u64 x.c)) (go_keep)
                ((go_at_call 118; refine (insertC (HCA.out.keep0' (HV5.out.trans (Upd.refl [] w3).drew)) hll.out x htl.out).mono ?_; rintro e w9 ⟨r, a2, c2, rfl, hc, hfr2, hu⟩; have hk := fun (pp : Addr) v (h : w3.cell? pp = some v) (hx : pp.block ∉ cb :: ablk a') => hu.cellS (show w3.drew.cell? pp = some v from h) hx; have j1 := hk _ _ k1 hpb.out.2; have j5 := hk _ _ k5 hpb.out.1; have j6 := hk _ _ k6 hpb.out.1; have j7 := hk _ _ k7 hpb.out.1; have HCN := Lib.hid hc; have HF2 := Lib.hid hfr2; have HU9 := Lib.hid hu; clear hk hc hfr2 hu))
              clear k0 k1 k5 k6 k7
              go_wp2_with fail
              go_roundg (K.length - (i + 1))
              case measure => have := HM.out; omega
              case rel =>
                have s1 := HV5.out.size
                have s3 := hrs.out
                refine ⟨i + 1, a2, c2, by have := HM.out; omega, rfl, by rw [hft.out, frontStep, if_pos HQ.out]; exact HCN.out, fun b hb => ?_, (HUA.out.trans ((HV5.out.trans (Upd.refl [] w3).drew).mono (by simp))).then HU9.out (fun b hb hl2 => ?_)⟩
                · rcases HF2.out b hb with h | h
                  · exact HF.out b h
                  · have h3 : w3.drew.heap.size = w3.heap.size := rfl; omega
                · rcases List.mem_cons.1 hb with rfl | hb
                  · simp
                  · have := HF.out b hb; omega
            · have hqb : decide (0 < cnt M' x) = false := decide_eq_false hq
              have HQ := Lib.hid hq
              go_region_held3 (fun w' => w'.cell? ⟨u, 0, none⟩ = some (.pointer (some ⟨tb, 0, none⟩)) ∧ w'.cell? ⟨pb, 0, none⟩ = some (.int .u64 x.a) ∧ w'.cell? ⟨pb, 1, none⟩ = some (.int .u64 x.b) ∧ w'.cell? ⟨pb, 2, none⟩ = some (.int .u64 x.c)) (go_keep)
                ((go_at_call 113; refine (hg.out _ (Upd.refl [] wA).drew).mono ?_; rintro e w3 ⟨rfl, hu⟩; have hk := fun (pp : Addr) v (h : wA.cell? pp = some v) => hu.cellS (show wA.drew.cell? pp = some v from h) (by simp); have k0 := hk _ _ c0; have k1 := hk _ _ c1; have k5 := hk _ _ z0; have k6 := hk _ _ z1; have k7 := hk _ _ z2; have HV5 := Lib.hid ((Upd.refl [] wA).drew.trans hu); clear hu hk))
              clear c0 c1 z0 z1 z2
              go_wp2_with fail
              go_roundg (K.length - (i + 1))
              case measure => have := HM.out; omega
              case rel => exact ⟨i + 1, a', c', by have := HM.out; omega, rfl, by rw [hft.out, frontStep, if_neg (Int.not_lt.2 HQ.out)]; exact HCA.out.keep0' HV5.out, HF.out, HUA.out.trans (HV5.out.mono (by simp))⟩
          · have hii : ¬ (i : Int) < K.length := by omega
            obtain rfl : i = K.length := by have := HM.out; omega
            have hW := Lib.hid ((HO6.out.rd elemTi.len).keep' elemTi ((HU7.out.trans (HU8.out.mono (by simp))).trans HU.out) (fun b hb => by have h1 := HF6.out b hb; have h2 := hcbl.out; simp; omega))
            have hcr := Lib.hid (HU.out.cellS g1 htc.out.2.2)
            have c1 := hcr.out
            have hCF : Hid (ChainAt wr cb a' c' (frontL M' K)) := Lib.hid (by have := HC.out; rwa [List.take_length] at this)
            have hfl : Hid ((frontL M' K).length ≤ 1000000) := Lib.hid (by have := hll.out; rwa [List.take_length] at this)
            have hfn : Hid (frontL M' K).Nodup := Lib.hid (HKn.out.sublist (frontL_sub M' K))
            go_wp2_with (first
              | (go_at_call 115; refine (listC hCF.out (by have := hfl.out; omega)).mono ?_; rintro e w9 ⟨an, cn, rfl, ho, hf, hu⟩; have HO9 := Lib.hid ho; have HF9 := Lib.hid hf; have HU9 := Lib.hid hu; clear ho hf hu)
              | (go_at_call 119; refine (turned_any (hW.out.keep' elemTi HU9.out (by simp)) (HO9.out.rd elemTi.len) hl hfl.out HLN.out hfn.out).mono ?_; rintro e w10 ⟨ao, co, o, rfl, ho, hp, hs, hf, hu⟩; have HOX := Lib.hid ho; have HPX := Lib.hid (And.intro hp hs); have HFX := Lib.hid hf; have HUX := Lib.hid hu; clear ho hp hs hf hu))
            go_ret2
            have hz : Upd [cb] wy w10 := ((((((HU6.out.mono (by simp)).trans HU7.out).trans (HU8.out.mono (by simp))).trans HU.out).trans (HU9.out.mono (by simp))).trans (HUX.out.mono (by simp)))
            have hz2 : Upd [mb, cb] w w10 := (HUy.out.mono (fun k _ hk => by simp at hk; simp [hk])).trans (hz.mono (fun k _ hk => by simp at hk; simp [hk]))
            have s0 := HUy.out.size
            have s6 := HU6.out.size
            have s7 := HU7.out.size
            have s8 := HU8.out.size
            have sr := HU.out.size
            have s9 := HU9.out.size
            have hum := Hx.out.ne_map.1
            refine .inl ⟨⟨HV.out, HOK.out⟩, M', a', c', K, ao, co, o, rfl, HCN.out, by have := hml.out; omega, HKT.out, ⟨hz2.at H.out.blk (by simp; exact ⟨hum, hfar.out.1⟩), HT.out.keep hz htc.out.1 htc.out.2.1, (hCF.out.keep0' HU9.out).keep0' HUX.out⟩, fun b hb => ?_, HOX.out, fun b hb => ?_, fun b hb hb2 => ?_, HPX.out.1, HPX.out.2, hz2⟩
            · have := HF.out b hb; omega
            · have := HFX.out b hb; omega
            · have h1 := HFX.out b hb
              have h2 := hCF.out.own.lt b hb2
              omega
  · have hs2 := Lib.hid (hs.mono (R' := fun e w' => e = .returned (.tuple #[.map none, .bool false]) ∧ Upd [] w w') (fun e w' h => h.elim (fun h => absurd h.1 hv) (fun h => h.2)))
    have HV := Lib.hid hv
    clear hs hv h
    go_enter Try.func61, Try.ntmps61
    go_wp2_with (go_at_call 111; refine hs2.out.mono ?_; rintro e w1 ⟨rfl, hu1⟩; have HU1 := Lib.hid hu1; clear hu1)
    go_ret2
    exact .inr ⟨fun h => HV.out h.1, rfl, HU1.out⟩
end
end Go.Proofs.Ytcdmdpgfadopcaa
