/-
  The ledger: Changes.
-/
import Derived.Test.YtcdmdpgfadopcaaLedger2
import Derived.Deep.RegionHeldLaw
namespace Go.Proofs.Ytcdmdpgfadopcaa
open Go.Slu Go.MapKept Go.RowKit Go.Sort

/-- a change -/
abbrev eeCh (p : StampK × Int) : List Value := [.int .i64 p.1.n, .int .u64 p.1.t.a, .int .u64 p.1.t.b, .int .u64 p.1.t.c, .int .i64 p.2]
theorem infoCh : (Try.prog.info? 105).map (fun i => (i.zero, i.size, i.bytes)) = some (some (.agg #[.int .i64 0, .int .u64 0, .int .u64 0, .int .u64 0, .int .i64 0]), 5, 40) := by kernel_rfl
theorem elemCh : Elem Try.prog 87 105 5 40 eeCh where
  ht := Try.underlying87
  info := by obtain ⟨i, h1, h2, h3, h4⟩ := info_parts infoCh; exact ⟨i, _, h1, h2, h3, h4, rfl⟩
  pos := by omega
  len _ := rfl
  one _ u hu := by simp [eeCh] at hu; rcases hu with rfl | rfl | rfl | rfl | rfl <;> rfl

/-- what Changes leaves -/
def ChangesL (M : List (StampK × Int)) (w : World) (e : Ending) (w' : World) : Prop :=
  ∃ (a : Option Addr) (c : Nat) (l : List StampK), e = .returned (.slice a l.length c) ∧ OwnAt 105 5 eeCh w' a c (l.map fun x => (x, cnt M x)) ∧ l.Perm (M.map (·.1)) ∧ l.Pairwise (fun x y => 0 ≤ cmpM y x) ∧ (∀ b ∈ ablk a, w.heap.size ≤ b) ∧ Upd [] w w'

set_option maxHeartbeats 1000000 in
set_option maxRecDepth 20000 in
theorem lChanges {w : World} {lb tb mb : Nat} {M : List (StampK × Int)} (h : LedAt w lb tb mb M) (hl : M.length ≤ 1000000) :
    Calls Try.prog 46 #[.pointer (some ⟨lb, 0, none⟩)] w (ChangesL M w) := by
  have hk := Lib.hid (sKeys h hl)
  have hget := Lib.hid (fun W (hW : LedAt W lb tb mb M) x => sGet hW x)
  have H := Lib.hid h
  clear h
  go_enter Try.func46, Try.ntmps46
  go_wp2_with (go_at_call 95; refine hk.out.mono ?_; rintro e w1 ⟨a0, c0, l, rfl, h1, h2, h3, h4, h5⟩; have HK := Lib.hid h1; have HP := Lib.hid (And.intro h2 h3); have HU := Lib.hid h5; clear h1 h2 h3 h4 h5)
  clear hk
  have hll : l.length ≤ 1000000 := by have := HP.out.1.length_eq; simp at this; omega
  have hklt := Lib.hid (HK.out.lt)
  go_loopg [3, 5, 13] l.length (fun m v3 v5 v13 wr => ∃ (i : Nat) (aa : Option Addr) (c : Nat), m + i = l.length ∧ v13 = .int .i64 i ∧ v3 = .slice aa i c ∧ OwnAt 105 5 eeCh wr aa c ((l.take i).map fun x => (x, cnt M x)) ∧ (∀ b ∈ ablk aa, w1.heap.size ≤ b) ∧ Upd [] w1 wr)
  case atStart => exact ⟨0, none, 0, rfl, rfl, rfl, OwnAt.nil _ _ _ _, by simp [ablk], Upd.refl _ _⟩
  case round =>
    obtain ⟨i, aa, c, hm, rfl, rfl, hown, hfr, hu⟩ := hrel
    have HM := Lib.hid hm
    have HO := Lib.hid hown
    have HF := Lib.hid hfr
    have HV := Lib.hid hu
    clear hm hown hfr hu
    by_cases hi : i < l.length
    · have hii : (i : Int) < l.length := by omega
      obtain ⟨x, hx⟩ : ∃ x, l[i]? = some x := ⟨l[i], List.getElem?_eq_getElem hi⟩
      obtain ⟨g1, o1, rfl, hc⟩ := (HK.out.keep HV.out (by simp)).rd elemM.len i x hx
      have y0 := hc 0 _ rfl
      have y1 := hc 1 _ rfl
      have y2 := hc 2 _ rfl
      have y3 := hc 3 _ rfl
      clear hc
      simp only [Nat.add_zero] at y0
      have HX := Lib.hid hx
      clear hx
      have htk := Lib.hid (show ((l.take i).map fun x => (x, cnt M x)) ++ [(x, cnt M x)] = (l.take (i + 1)).map fun x => (x, cnt M x) by rw [List.take_add_one, HX.out]; simp)
      have hlen := Lib.hid (show ((l.take i).map fun x => (x, cnt M x)).length = i by simp; omega)
      have hg0 := Lib.hid (fun W hW => hget.out W hW x)
      have hlit := Lib.hid (fun W => OwnAt.lit (e := 105) elemCh.len W [(x, cnt M x)] (by simp [maxLen]) #[.int .i64 x.n, .int .u64 x.t.a, .int .u64 x.t.b, .int .u64 x.t.c, .int .i64 (cnt M x)] rfl)
      generalize cnt M x = cx at hg0 hlit htk
      have z0 := cell_new wr #[.int .i64 x.n, .int .u64 x.t.a, .int .u64 x.t.b, .int .u64 x.t.c] 52 0 (v := .int .i64 x.n) rfl
      have z1 := cell_new wr #[.int .i64 x.n, .int .u64 x.t.a, .int .u64 x.t.b, .int .u64 x.t.c] 52 1 (v := .int .u64 x.t.a) rfl
      have z2 := cell_new wr #[.int .i64 x.n, .int .u64 x.t.a, .int .u64 x.t.b, .int .u64 x.t.c] 52 2 (v := .int .u64 x.t.b) rfl
      have z3 := cell_new wr #[.int .i64 x.n, .int .u64 x.t.a, .int .u64 x.t.b, .int .u64 x.t.c] 52 3 (v := .int .u64 x.t.c) rfl
      have hA := (Upd.refl [] wr).alloc (.cells #[.int .i64 x.n, .int .u64 x.t.a, .int .u64 x.t.b, .int .u64 x.t.c] 52)
      go_upto_region 7 with fail
      generalize wr.alloc (.cells #[.int .i64 x.n, .int .u64 x.t.a, .int .u64 x.t.b, .int .u64 x.t.c] 52) = wA at *
      have HA := Lib.hid hA.drew
      have HL := Lib.hid (H.out.keep (HU.out.trans (HV.out.trans hA.drew)) (by simp) (by simp) (by simp))
      have HO2 := Lib.hid (HO.out.keep hA.drew (by simp))
      have HOB : Hid (wr.heap.size ∉ ablk aa) := Lib.hid (fun hb => by have := HO.out.lt _ hb; omega)
      clear hA y0 y1 y2 y3
      generalize wr.heap.size = ob at *
      go_region_held_law (fun w' => w'.cell? ⟨ob, 0, none⟩ = some (.int .i64 x.n) ∧ w'.cell? ⟨ob, 1, none⟩ = some (.int .u64 x.t.a) ∧ w'.cell? ⟨ob, 2, none⟩ = some (.int .u64 x.t.b) ∧ w'.cell? ⟨ob, 3, none⟩ = some (.int .u64 x.t.c)) (first | exact ⟨e0, e1, e2, e3⟩ | go_keep)
        (first
          | (refine step_append_rep rfl _ _ 87 rfl elemCh (xs := (l.take i).map fun x => (x, cnt M x)) (ys := [(x, cx)]) (aa := aa) (c := c) (a2 := some ⟨w2.heap.size, 0, none⟩) (c2 := 1) (HO3.out.keep ((Upd.refl [] w2).alloc _) (by simp)) ((hlit.out _).rd elemCh.len) (by rw [hlen.out]; simp [Act.eval]) (by simp [Act.eval]) (by rw [hlen.out]; simp [maxLen]; omega) (by rw [hlen.out]; simp; omega) ?_; intro a' c' w3 ho3 hu3 hor hnn; have e0 := hu3.cellS (((Upd.refl [] w2).alloc _).cellS d0 (by simp)) HOB.out; have e1 := hu3.cellS (((Upd.refl [] w2).alloc _).cellS d1 (by simp)) HOB.out; have e2 := hu3.cellS (((Upd.refl [] w2).alloc _).cellS d2 (by simp)) HOB.out; have e3 := hu3.cellS (((Upd.refl [] w2).alloc _).cellS d3 (by simp)) HOB.out; have HO4 := Lib.hid ho3; have HU3 := Lib.hid hu3; have HOR := Lib.hid hor; clear ho3 hu3 hor hnn)
          | (go_simp; go_at_call 96; refine (hg0.out _ HL.out).mono ?_; rintro e w2 ⟨rfl, hu2⟩; have d0 := hu2.cellS (show wA.drew.cell? _ = _ from z0) (by simp); have d1 := hu2.cellS (show wA.drew.cell? _ = _ from z1) (by simp); have d2 := hu2.cellS (show wA.drew.cell? _ = _ from z2) (by simp); have d3 := hu2.cellS (show wA.drew.cell? _ = _ from z3) (by simp); have HU2 := Lib.hid hu2; have HO3 := Lib.hid (HO2.out.keep hu2 (by simp)); clear hu2))
      go_wp2_with fail
      go_roundg (l.length - (i + 1))
      case measure => have := HM.out; omega
      case rel =>
        have ho := HO4.out
        rw [htk.out] at ho
        have s2 := HV.out.size
        have s3 := HA.out.size
        have s4 := HU2.out.size
        refine ⟨i + 1, a', c', by have := HM.out; omega, rfl, by simp; omega, ho, fun b hb => ?_, (((HV.out.trans HA.out).trans HU2.out).alloc _).then HU3.out (fun b hb hlt => absurd (HF.out b hb) (by omega))⟩
        rcases HOR.out with e | e
        · rw [e] at hb; exact HF.out b hb
        · rw [e] at hb; simp [ablk] at hb; omega
    · have hii : ¬ (i : Int) < l.length := by omega
      obtain rfl : i = l.length := by have := HM.out; omega
      go_wp2_with fail
      go_ret
      have ho := HO.out
      rw [List.take_length] at ho
      have s1 := HU.out.size
      exact ⟨aa, c, l, rfl, ho, HP.out.1, HP.out.2, fun b hb => by have := HF.out b hb; omega, HU.out.trans HV.out⟩
end Go.Proofs.Ytcdmdpgfadopcaa
