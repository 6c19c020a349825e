/-
  The ledger: the order of stamps.
-/
import Derived.Test.YtcdmdpgfadopcaaStampKeys
import Derived.Test.YtcdmdpgfadopcaaTallyMC
namespace Go.Proofs.Ytcdmdpgfadopcaa
open Go.Slu Go.MapKept Go.RowKit Go.Sort

theorem cmpOr_any (x y : Int) (b c : Nat) (w : World) (h0 : w.cell? ⟨b, 0, none⟩ = some (.int .i64 x)) (h1 : w.cell? ⟨b, 1, none⟩ = some (.int .i64 y)) :
    Calls Try.prog 128 #[.slice (some ⟨b, 0, none⟩) 2 c] w fun e w' => e = .returned (.int .i64 (if x ≠ 0 then x else y)) ∧ w = w' := by
  by_cases hx : x = 0
  · have hx' := Lib.hid hx
    rw [if_neg (by simpa using hx)]
    by_cases hy : y = 0
    · subst hx; subst hy
      go_enter Try.func128, Try.ntmps128
      go_wp2_with fail
      go_loopg [5, 8] 2 (fun m v5 v8 wr => ∃ i : Nat, m + i = 2 ∧ v8 = .int .i64 i ∧ w = wr)
      case atStart => exact ⟨0, rfl, rfl, rfl⟩
      case round =>
        obtain ⟨i, hm, rfl, rfl⟩ := hrel
        have hi : i = 0 ∨ i = 1 ∨ i = 2 := by omega
        rcases hi with rfl | rfl | rfl
        · go_wp2_with fail
          go_roundg 1
          case measure => omega
          case rel => exact ⟨1, rfl, rfl, rfl⟩
        · go_wp2_with fail
          go_roundg 0
          case measure => omega
          case rel => exact ⟨2, rfl, rfl, rfl⟩
        · go_wp2_with fail
          go_ret
          exact ⟨rfl, rfl⟩
    · subst hx
      have hyb : (y == 0) = false := by simpa using hy
      go_enter Try.func128, Try.ntmps128
      go_wp2_with fail
      go_loopg [5, 8] 2 (fun m v5 v8 wr => ∃ i : Nat, m + i = 2 ∧ i ≤ 1 ∧ v8 = .int .i64 i ∧ w = wr)
      case atStart => exact ⟨0, rfl, by omega, rfl, rfl⟩
      case round =>
        obtain ⟨i, hm, hi1, rfl, rfl⟩ := hrel
        have hi : i = 0 ∨ i = 1 := by omega
        rcases hi with rfl | rfl
        · go_wp2_with fail
          go_roundg 1
          case measure => omega
          case rel => exact ⟨1, rfl, by omega, rfl, rfl⟩
        · go_wp2_with fail
          go_ret
          exact ⟨rfl, rfl⟩
  · rw [if_pos (by simpa using hx)]
    have hxb : (x == 0) = false := by simpa using hx
    go_enter Try.func128, Try.ntmps128
    go_wp2_with fail
    go_loopg [5, 8] 2 (fun m v5 v8 wr => m = 2 ∧ v8 = .int .i64 0 ∧ w = wr)
    case atStart => exact ⟨rfl, rfl, rfl⟩
    case round =>
      obtain ⟨hm, rfl, rfl⟩ := hrel
      go_wp2_with fail
      go_ret
      exact ⟨rfl, rfl⟩

set_option maxRecDepth 20000 in
set_option maxHeartbeats 1000000 in
theorem order_stamp (x y : StampK) (w : World) : Calls Try.prog 98 #[ekM x, ekM y] w fun e w' => e = .returned (.int .i64 (cmpM x y)) ∧ Grew w w' := by
  rw [cmpM_eq]
  have hci := Lib.hid (fun W => cmpInt_any x.n y.n W)
  have hct := Lib.hid (fun W => stampCompare_any x.t y.t W)
  generalize cmpI x.n y.n = r at hci ⊢
  generalize cmpT x.t y.t = r2 at hct ⊢
  have hor := Lib.hid (fun b c W h0 h1 => cmpOr_any r r2 b c W h0 h1)
  generalize hrr : (if r ≠ 0 then r else r2) = rr at hor ⊢
  clear hrr
  have hu := Lib.hid (((Grew.refl w).alloc (.cells #[.int .i64 x.n, .int .u64 x.t.a, .int .u64 x.t.b, .int .u64 x.t.c] 52)).alloc (.cells #[.int .i64 y.n, .int .u64 y.t.a, .int .u64 y.t.b, .int .u64 y.t.c] 52))
  have x0 := ((Upd.refl [] (w.alloc (.cells #[.int .i64 x.n, .int .u64 x.t.a, .int .u64 x.t.b, .int .u64 x.t.c] 52))).alloc (.cells #[.int .i64 y.n, .int .u64 y.t.a, .int .u64 y.t.b, .int .u64 y.t.c] 52)).cellS (cell_new w #[.int .i64 x.n, .int .u64 x.t.a, .int .u64 x.t.b, .int .u64 x.t.c] 52 0 (v := .int .i64 x.n) rfl) (by simp)
  have x1 := ((Upd.refl [] (w.alloc (.cells #[.int .i64 x.n, .int .u64 x.t.a, .int .u64 x.t.b, .int .u64 x.t.c] 52))).alloc (.cells #[.int .i64 y.n, .int .u64 y.t.a, .int .u64 y.t.b, .int .u64 y.t.c] 52)).cellS (cell_new w #[.int .i64 x.n, .int .u64 x.t.a, .int .u64 x.t.b, .int .u64 x.t.c] 52 1 (v := .int .u64 x.t.a) rfl) (by simp)
  have x2 := ((Upd.refl [] (w.alloc (.cells #[.int .i64 x.n, .int .u64 x.t.a, .int .u64 x.t.b, .int .u64 x.t.c] 52))).alloc (.cells #[.int .i64 y.n, .int .u64 y.t.a, .int .u64 y.t.b, .int .u64 y.t.c] 52)).cellS (cell_new w #[.int .i64 x.n, .int .u64 x.t.a, .int .u64 x.t.b, .int .u64 x.t.c] 52 2 (v := .int .u64 x.t.b) rfl) (by simp)
  have x3 := ((Upd.refl [] (w.alloc (.cells #[.int .i64 x.n, .int .u64 x.t.a, .int .u64 x.t.b, .int .u64 x.t.c] 52))).alloc (.cells #[.int .i64 y.n, .int .u64 y.t.a, .int .u64 y.t.b, .int .u64 y.t.c] 52)).cellS (cell_new w #[.int .i64 x.n, .int .u64 x.t.a, .int .u64 x.t.b, .int .u64 x.t.c] 52 3 (v := .int .u64 x.t.c) rfl) (by simp)
  have y0 := cell_new (w.alloc (.cells #[.int .i64 x.n, .int .u64 x.t.a, .int .u64 x.t.b, .int .u64 x.t.c] 52)) #[.int .i64 y.n, .int .u64 y.t.a, .int .u64 y.t.b, .int .u64 y.t.c] 52 0 (v := .int .i64 y.n) rfl
  have y1 := cell_new (w.alloc (.cells #[.int .i64 x.n, .int .u64 x.t.a, .int .u64 x.t.b, .int .u64 x.t.c] 52)) #[.int .i64 y.n, .int .u64 y.t.a, .int .u64 y.t.b, .int .u64 y.t.c] 52 1 (v := .int .u64 y.t.a) rfl
  have y2 := cell_new (w.alloc (.cells #[.int .i64 x.n, .int .u64 x.t.a, .int .u64 x.t.b, .int .u64 x.t.c] 52)) #[.int .i64 y.n, .int .u64 y.t.a, .int .u64 y.t.b, .int .u64 y.t.c] 52 2 (v := .int .u64 y.t.b) rfl
  have y3 := cell_new (w.alloc (.cells #[.int .i64 x.n, .int .u64 x.t.a, .int .u64 x.t.b, .int .u64 x.t.c] 52)) #[.int .i64 y.n, .int .u64 y.t.a, .int .u64 y.t.b, .int .u64 y.t.c] 52 3 (v := .int .u64 y.t.c) rfl
  have hs : (w.alloc (.cells #[.int .i64 x.n, .int .u64 x.t.a, .int .u64 x.t.b, .int .u64 x.t.c] 52)).heap.size = w.heap.size + 1 := by simp
  rw [hs] at y0 y1 y2 y3
  clear hs
  go_enter Try.func98, Try.ntmps98
  go_upto_region 1 with fail
  generalize (w.alloc (.cells #[.int .i64 x.n, .int .u64 x.t.a, .int .u64 x.t.b, .int .u64 x.t.c] 52)).alloc (.cells #[.int .i64 y.n, .int .u64 y.t.a, .int .u64 y.t.b, .int .u64 y.t.c] 52) = w2 at *
  go_region_held3 (fun w' => w'.cell? ⟨w.heap.size, 0, none⟩ = some (.int .i64 x.n) ∧ w'.cell? ⟨w.heap.size, 1, none⟩ = some (.int .u64 x.t.a) ∧ w'.cell? ⟨w.heap.size, 2, none⟩ = some (.int .u64 x.t.b) ∧ w'.cell? ⟨w.heap.size, 3, none⟩ = some (.int .u64 x.t.c) ∧ w'.cell? ⟨w.heap.size + 1, 0, none⟩ = some (.int .i64 y.n) ∧ w'.cell? ⟨w.heap.size + 1, 1, none⟩ = some (.int .u64 y.t.a) ∧ w'.cell? ⟨w.heap.size + 1, 2, none⟩ = some (.int .u64 y.t.b) ∧ w'.cell? ⟨w.heap.size + 1, 3, none⟩ = some (.int .u64 y.t.c)) (go_keep)
    (first
      | (go_at_call 129; refine (hci.out _).mono ?_; rintro e w3 ⟨rfl, rfl⟩)
      | (go_at_call 105; refine (hct.out _).mono ?_; rintro e w4 ⟨rfl, hg⟩; have a0 := hg.upd.cellS (show w2.drew.cell? _ = _ from x0) (by simp); have a1 := hg.upd.cellS (show w2.drew.cell? _ = _ from x1) (by simp); have a2 := hg.upd.cellS (show w2.drew.cell? _ = _ from x2) (by simp); have a3 := hg.upd.cellS (show w2.drew.cell? _ = _ from x3) (by simp); have a4 := hg.upd.cellS (show w2.drew.cell? _ = _ from y0) (by simp); have a5 := hg.upd.cellS (show w2.drew.cell? _ = _ from y1) (by simp); have a6 := hg.upd.cellS (show w2.drew.cell? _ = _ from y2) (by simp); have a7 := hg.upd.cellS (show w2.drew.cell? _ = _ from y3) (by simp); have HG := Lib.hid hg; clear hg)
      | (go_at_call 128; refine (hor.out _ 2 _ (cell_new _ _ _ 0 rfl) (cell_new _ _ _ 1 rfl)).mono ?_; rintro e w5 ⟨rfl, rfl⟩))
  go_wp2_with fail
  go_ret
  exact ⟨rfl, (hu.out.drew.trans HG.out).alloc _⟩
theorem ordStamp : OrdOk Try.prog 98 ekM cmpM where
  enters args w := by kernel_rfl
  pays W x y := order_stamp x y W
  swo := cmpM_swo
  tot := cmpM_tot
end Go.Proofs.Ytcdmdpgfadopcaa
