/-
  sluicelaw04: keys of the caller's own: pairs, stamps by their place; their orders.
-/
import Derived.Test.YtcdmdpgfadopcaaTallyPK
import Derived.Test.YtcdmdpgfadopcaaTallyMK
import Derived.Test.YtcdmdpgfadopcaaLawTally16
namespace Go.Proofs.Ytcdmdpgfadopcaa
open Go.Slu Go.MapKept Go.RowKit Go.Sort Go.WideMaps

/-- a pair -/
structure PairK where
  a : Int
  b0 : UInt8
  b1 : UInt8
  ha : -9223372036854775808 ≤ a ∧ a ≤ 9223372036854775807
theorem PairK.ext' {x y : PairK} (h1 : x.a = y.a) (h2 : x.b0 = y.b0) (h3 : x.b1 = y.b1) : x = y := by cases x; cases y; cases h1; cases h2; cases h3; rfl
instance : DecidableEq PairK := fun x y => decidable_of_iff (x.a = y.a ∧ x.b0 = y.b0 ∧ x.b1 = y.b1) ⟨fun h => PairK.ext' h.1 h.2.1 h.2.2, fun h => h ▸ ⟨rfl, rfl, rfl⟩⟩
instance : Inhabited PairK := ⟨⟨0, 0, 0, by omega⟩⟩
abbrev eeP2 (p : PairK) : List Value := [.int .i64 p.a, .int .u8 (p.b0.toNat : Int), .int .u8 (p.b1.toNat : Int)]
abbrev ekP2 (p : PairK) : Value := .agg #[.int .i64 p.a, .int .u8 (p.b0.toNat : Int), .int .u8 (p.b1.toNat : Int)]
/-- a stamp with nothing but a place -/
structure PlaceK where
  n : Nat
  hn : n < 1000
theorem PlaceK.ext' {x y : PlaceK} (h1 : x.n = y.n) : x = y := by cases x; cases y; cases h1; rfl
instance : DecidableEq PlaceK := fun x y => decidable_of_iff (x.n = y.n) ⟨PlaceK.ext', fun h => h ▸ rfl⟩
instance : Inhabited PlaceK := ⟨⟨0, by omega⟩⟩
abbrev eeM2 (p : PlaceK) : List Value := [.int .i64 (p.n : Int), .int .u64 0, .int .u64 0, .int .u64 0]
abbrev ekM2 (p : PlaceK) : Value := .agg #[.int .i64 (p.n : Int), .int .u64 0, .int .u64 0, .int .u64 0]

theorem cells44 : Try.prog.cellsOf 44 = 3 := by kernel_rfl
theorem cells42 : Try.prog.cellsOf 42 = 2 := by kernel_rfl
theorem cells5 : Try.prog.cellsOf 5 = 1 := by kernel_rfl
theorem cells52 : Try.prog.cellsOf 52 = 4 := by kernel_rfl
theorem cells50 : Try.prog.cellsOf 50 = 3 := by kernel_rfl
theorem cellsU64 : Try.prog.cellsOf 48 = 1 := by kernel_rfl
theorem wide44 : (match Try.prog.underlying 44 with | some (.array _ _) | some (.struct _) => true | _ => false) = true := by kernel_rfl
theorem wide52 : (match Try.prog.underlying 52 with | some (.array _ _) | some (.struct _) => true | _ => false) = true := by kernel_rfl
set_option maxRecDepth 100000 in
theorem lawP : KeyLaw Try.prog 44 := deep_law_laid laidOutP (m := 3) (by omega) (of_decide_eq_true (by kernel_rfl)) (by kernel_rfl) wide44
set_option maxRecDepth 100000 in
theorem lawM : KeyLaw Try.prog 52 := deep_law_laid laidOutP (m := 3) (by omega) (of_decide_eq_true (by kernel_rfl)) (by kernel_rfl) wide52
theorem types_big : ∃ m, Try.prog.types.size + 1 = m + 4 := ⟨Try.prog.types.size + 1 - 4, by
  have : 4 ≤ Try.prog.types.size := of_decide_eq_true (by kernel_rfl)
  omega⟩
theorem wf64 {n : Int} (h : -9223372036854775808 ≤ n ∧ n ≤ 9223372036854775807) : (Lit.int .i64 n).wf = true := by simp [Lit.wf, IntKind.min, IntKind.max, IntKind.signed, IntKind.bits, h]
theorem wf8 (b : UInt8) : (Lit.int .u8 (b.toNat : Int)).wf = true := by
  have := b.toNat_lt
  simp [Lit.wf, IntKind.min, IntKind.max, IntKind.signed, IntKind.bits]
  omega
theorem wfU {n : Int} (h : 0 ≤ n ∧ n ≤ 18446744073709551615) : (Lit.int .u64 n).wf = true := by simp [Lit.wf, IntKind.min, IntKind.max, IntKind.signed, IntKind.bits, h]
theorem litsP (p : PairK) (m : Nat) : Try.prog.keyLits (m + 4) 44 [.int .i64 p.a, .int .u8 (p.b0.toNat : Int), .int .u8 (p.b1.toNat : Int)] = some [.int .i64 p.a, .int .u8 (p.b0.toNat : Int), .int .u8 (p.b1.toNat : Int)] := by
  simp [Program.keyLits, Try.underlying44, Try.underlying42, Try.underlying5, Try.underlying3, cells44, cells42, cells5, cells3, wf64 p.ha, wf8, List.range_succ]
theorem litsM (n : Int) (hn : -9223372036854775808 ≤ n ∧ n ≤ 9223372036854775807) (a b c : Int) (ha : 0 ≤ a ∧ a ≤ 18446744073709551615) (hb : 0 ≤ b ∧ b ≤ 18446744073709551615) (hc : 0 ≤ c ∧ c ≤ 18446744073709551615) (m : Nat) : Try.prog.keyLits (m + 4) 52 [.int .i64 n, .int .u64 a, .int .u64 b, .int .u64 c] = some [.int .i64 n, .int .u64 a, .int .u64 b, .int .u64 c] := by
  simp [Program.keyLits, Try.underlying52, Try.underlying50, Try.underlying48, Try.underlying3, cells52, cells50, cellsU64, cells3, wf64 hn, wfU ha, wfU hb, wfU hc]
  rw [if_pos (by decide)]
  rfl
theorem keyP (p : PairK) : ∃ l, keyOf Try.prog 44 (ekP2 p) = some l := by
  have hk : Try.prog.keyType 44 = true := by kernel_rfl
  obtain ⟨m, hm⟩ := types_big
  have hf : (ekP2 p).formed Try.prog 44 = true := by simp [Value.formed, Try.underlying44, cells44]
  unfold keyOf
  rw [Try.underlying44]
  simp only [hk, hf, hm, Bool.and_self, if_true]
  exact ⟨_, by rw [show (ekP2 p).cells.toList = [.int .i64 p.a, .int .u8 (p.b0.toNat : Int), .int .u8 (p.b1.toNat : Int)] from rfl, litsP]; rfl⟩
theorem keyM (p : PlaceK) : ∃ l, keyOf Try.prog 52 (ekM2 p) = some l := by
  have hk : Try.prog.keyType 52 = true := by kernel_rfl
  obtain ⟨m, hm⟩ := types_big
  have hf : (ekM2 p).formed Try.prog 52 = true := by simp [Value.formed, Try.underlying52, cells52]
  have hn := p.hn
  unfold keyOf
  rw [Try.underlying52]
  simp only [hk, hf, hm, Bool.and_self, if_true]
  exact ⟨_, by rw [show (ekM2 p).cells.toList = [.int .i64 (p.n : Int), .int .u64 0, .int .u64 0, .int .u64 0] from rfl, litsM _ (by omega) 0 0 0 (by omega) (by omega) (by omega)]; rfl⟩
theorem u8_inj {a b : UInt8} (h : (a.toNat : Int) = b.toNat) : a = b := UInt8.toNat_inj.1 (by omega)
theorem kvP : KVPk ekP2 := ⟨KeyOps.of_law lawP (fun x y h => by
  simp only [ekP2, Value.agg.injEq, Array.mk.injEq, List.cons.injEq, Value.int.injEq, true_and, and_true] at h
  exact PairK.ext' h.1 (u8_inj h.2.1) (u8_inj h.2.2)) keyP, fun x => ⟨_, _, _, rfl⟩⟩
theorem kvM : KVMk ekM2 := ⟨KeyOps.of_law lawM (fun x y h => by
  simp only [ekM2, Value.agg.injEq, Array.mk.injEq, List.cons.injEq, Value.int.injEq, true_and, and_true] at h
  exact PlaceK.ext' (by omega)) keyM, fun x => ⟨_, _, _, _, rfl⟩⟩
theorem info44 : (Try.prog.info? 44).map (fun i => (i.zero, i.size, i.bytes)) = some (some (.agg #[.int .i64 0, .int .u8 0, .int .u8 0]), 3, 16) := by kernel_rfl
theorem elemP2 : Elem Try.prog 146 44 3 16 eeP2 where
  ht := Try.underlying146
  info := by obtain ⟨i, h1, h2, h3, h4⟩ := info_parts info44; exact ⟨i, _, h1, h2, h3, h4, rfl⟩
  pos := by omega
  len _ := rfl
  one _ u hu := by simp [eeP2] at hu; rcases hu with rfl | rfl | rfl <;> rfl
theorem info52 : (Try.prog.info? 52).map (fun i => (i.zero, i.size, i.bytes)) = some (some (.agg #[.int .i64 0, .int .u64 0, .int .u64 0, .int .u64 0]), 4, 32) := by kernel_rfl
theorem elemM2 : Elem Try.prog 68 52 4 32 eeM2 where
  ht := Try.underlying68
  info := by obtain ⟨i, h1, h2, h3, h4⟩ := info_parts info52; exact ⟨i, _, h1, h2, h3, h4, rfl⟩
  pos := by omega
  len _ := rfl
  one _ u hu := by simp [eeM2] at hu; rcases hu with rfl | rfl <;> rfl

/-- a pair as the document's key -/
def rkP (p : PairK) : RKey := ⟨⟨⟨[p.b0, p.b1].toArray⟩, by simp [maxLen, ByteArray.size]⟩, p.a⟩
theorem rkP_inj {x y : PairK} (h : rkP x = rkP y) : x = y := by
  have h1 := congrArg RKey.n h
  have h2 := congrArg (fun k => k.s.s.data.toList) h
  simp [rkP] at h1 h2
  exact PairK.ext' h1 h2.1 h2.2
set_option maxRecDepth 20000 in
theorem key_any (p : PairK) (w : World) : Calls Try.prog 25 #[ekP2 p] w fun e w' => e = .returned (ekR (rkP p)) ∧ Grew w w' := by
  obtain ⟨a, b0, b1, ha⟩ := p
  have kc := run_str (P := Try.prog) Try.underlying145 Try.underlying5 Try.underlying9 ((w.alloc (.cells #[.int .i64 a, .int .u8 (b0.toNat : Int), .int .u8 (b1.toNat : Int)] 44)).alloc (.cells #[.string ⟨#[]⟩, .int .i64 0] 60)) [b0, b1] #[.int .u8 (b0.toNat : Int), .int .u8 (b1.toNat : Int)] rfl
  rw [show ((w.alloc (.cells #[.int .i64 a, .int .u8 (b0.toNat : Int), .int .u8 (b1.toNat : Int)] 44)).alloc (.cells #[.string ⟨#[]⟩, .int .i64 0] 60)).heap.size = w.heap.size + 1 + 1 by simp] at kc
  simp only [List.length_cons, List.length_nil, Nat.zero_add, Nat.reduceAdd] at kc
  have hu := ((Grew.refl w).alloc (.cells #[.int .i64 a, .int .u8 (b0.toNat : Int), .int .u8 (b1.toNat : Int)] 44)).alloc (.cells #[.string ⟨#[]⟩, .int .i64 0] 60)
  go_enter Try.func25, Try.ntmps25
  go_wp2_with fail
  refine bodyPost_ret (v := ekR (rkP ⟨a, b0, b1, ha⟩)) (by simp [results, Try.results25, go_sem, rkP]) rfl ⟨rfl, ?_⟩
  exact ((Grew.refl w).alloc _).alloc _ |>.alloc _

/-- the order of pairs -/
abbrev cfP (x y : PairK) : Int := cfK 0 (rkP x) (rkP y)
set_option maxRecDepth 20000 in
theorem byB_any (x y : PairK) (w : World) : Calls Try.prog 20 #[ekP2 x, ekP2 y] w fun e w' => e = .returned (.int .i64 (cfP x y)) ∧ Grew w w' := by
  have ho := Lib.hid (fun W => order_any 0 (rkP x).s (rkP y).s (rkP x).n (rkP y).n W)
  have hx := Lib.hid (fun W => key_any x W)
  have hy := Lib.hid (fun W => key_any y W)
  have hu := Lib.hid (((Grew.refl w).alloc (.cells #[.int .i64 x.a, .int .u8 (x.b0.toNat : Int), .int .u8 (x.b1.toNat : Int)] 44)).alloc (.cells #[.int .i64 y.a, .int .u8 (y.b0.toNat : Int), .int .u8 (y.b1.toNat : Int)] 44))
  have x0 := ((Upd.refl [] (w.alloc (.cells #[.int .i64 x.a, .int .u8 (x.b0.toNat : Int), .int .u8 (x.b1.toNat : Int)] 44))).alloc (.cells #[.int .i64 y.a, .int .u8 (y.b0.toNat : Int), .int .u8 (y.b1.toNat : Int)] 44)).cellS (cell_new w #[.int .i64 x.a, .int .u8 (x.b0.toNat : Int), .int .u8 (x.b1.toNat : Int)] 44 0 (v := .int .i64 x.a) rfl) (by simp)
  have x1 := ((Upd.refl [] (w.alloc (.cells #[.int .i64 x.a, .int .u8 (x.b0.toNat : Int), .int .u8 (x.b1.toNat : Int)] 44))).alloc (.cells #[.int .i64 y.a, .int .u8 (y.b0.toNat : Int), .int .u8 (y.b1.toNat : Int)] 44)).cellS (cell_new w #[.int .i64 x.a, .int .u8 (x.b0.toNat : Int), .int .u8 (x.b1.toNat : Int)] 44 1 (v := .int .u8 (x.b0.toNat : Int)) rfl) (by simp)
  have x2 := ((Upd.refl [] (w.alloc (.cells #[.int .i64 x.a, .int .u8 (x.b0.toNat : Int), .int .u8 (x.b1.toNat : Int)] 44))).alloc (.cells #[.int .i64 y.a, .int .u8 (y.b0.toNat : Int), .int .u8 (y.b1.toNat : Int)] 44)).cellS (cell_new w #[.int .i64 x.a, .int .u8 (x.b0.toNat : Int), .int .u8 (x.b1.toNat : Int)] 44 2 (v := .int .u8 (x.b1.toNat : Int)) rfl) (by simp)
  have y0 := cell_new (w.alloc (.cells #[.int .i64 x.a, .int .u8 (x.b0.toNat : Int), .int .u8 (x.b1.toNat : Int)] 44)) #[.int .i64 y.a, .int .u8 (y.b0.toNat : Int), .int .u8 (y.b1.toNat : Int)] 44 0 (v := .int .i64 y.a) rfl
  have y1 := cell_new (w.alloc (.cells #[.int .i64 x.a, .int .u8 (x.b0.toNat : Int), .int .u8 (x.b1.toNat : Int)] 44)) #[.int .i64 y.a, .int .u8 (y.b0.toNat : Int), .int .u8 (y.b1.toNat : Int)] 44 1 (v := .int .u8 (y.b0.toNat : Int)) rfl
  have y2 := cell_new (w.alloc (.cells #[.int .i64 x.a, .int .u8 (x.b0.toNat : Int), .int .u8 (x.b1.toNat : Int)] 44)) #[.int .i64 y.a, .int .u8 (y.b0.toNat : Int), .int .u8 (y.b1.toNat : Int)] 44 2 (v := .int .u8 (y.b1.toNat : Int)) rfl
  have hs : (w.alloc (.cells #[.int .i64 x.a, .int .u8 (x.b0.toNat : Int), .int .u8 (x.b1.toNat : Int)] 44)).heap.size = w.heap.size + 1 := by simp
  rw [hs] at y0 y1 y2
  clear hs
  go_enter Try.func20, Try.ntmps20
  go_upto_region 1 with fail
  generalize (w.alloc (.cells #[.int .i64 x.a, .int .u8 (x.b0.toNat : Int), .int .u8 (x.b1.toNat : Int)] 44)).alloc (.cells #[.int .i64 y.a, .int .u8 (y.b0.toNat : Int), .int .u8 (y.b1.toNat : Int)] 44) = w2 at *
  go_region_held3 (fun w' => w'.cell? ⟨w.heap.size, 0, none⟩ = some (.int .i64 x.a) ∧ w'.cell? ⟨w.heap.size, 1, none⟩ = some (.int .u8 (x.b0.toNat : Int)) ∧ w'.cell? ⟨w.heap.size, 2, none⟩ = some (.int .u8 (x.b1.toNat : Int)) ∧ w'.cell? ⟨w.heap.size + 1, 0, none⟩ = some (.int .i64 y.a) ∧ w'.cell? ⟨w.heap.size + 1, 1, none⟩ = some (.int .u8 (y.b0.toNat : Int)) ∧ w'.cell? ⟨w.heap.size + 1, 2, none⟩ = some (.int .u8 (y.b1.toNat : Int))) (go_keep)
    (first
      | (go_at_call 25; have _hq := hg3; refine (hy.out _).mono ?_; rintro e w4 ⟨rfl, hg4⟩; have z0 := hg4.upd.cellS a0 (by simp); have z1 := hg4.upd.cellS a1 (by simp); have z2 := hg4.upd.cellS a2 (by simp); have z3 := hg4.upd.cellS a3 (by simp); have z4 := hg4.upd.cellS a4 (by simp); have z5 := hg4.upd.cellS a5 (by simp))
      | (go_at_call 25; refine (hx.out _).mono ?_; rintro e w3 ⟨rfl, hg3⟩; have a0 := hg3.upd.cellS (show w2.drew.cell? _ = _ from x0) (by simp); have a1 := hg3.upd.cellS (show w2.drew.cell? _ = _ from x1) (by simp); have a2 := hg3.upd.cellS (show w2.drew.cell? _ = _ from x2) (by simp); have a3 := hg3.upd.cellS (show w2.drew.cell? _ = _ from y0) (by simp); have a4 := hg3.upd.cellS (show w2.drew.cell? _ = _ from y1) (by simp); have a5 := hg3.upd.cellS (show w2.drew.cell? _ = _ from y2) (by simp))
      | (go_at_call 83; refine (ho.out _).mono ?_; rintro e w5 ⟨rfl, hg5⟩; have u0 := hg5.upd.cellS z0 (by simp); have u1 := hg5.upd.cellS z1 (by simp); have u2 := hg5.upd.cellS z2 (by simp); have u3 := hg5.upd.cellS z3 (by simp); have u4 := hg5.upd.cellS z4 (by simp); have u5 := hg5.upd.cellS z5 (by simp)))
  go_wp2_with fail
  go_ret
  exact ⟨rfl, ((hu.out.drew.trans hg3).trans hg4).trans hg5⟩

theorem cfP_swo : SWO (ltOf cfP) := SWO.of_total (fun x => by simpa [ltOf] using cfK_irr 0 (rkP x)) (fun x y z h1 h2 => by
    simp only [ltOf, decide_eq_true_eq] at h1 h2 ⊢
    exact cfK_trans 0 h1 h2) (fun x y h1 h2 => by
    simp only [ltOf, decide_eq_false_iff_not] at h1 h2
    exact rkP_inj (cfK_tot 0 _ _ h1 h2))
theorem ordP : OrdOk Try.prog 20 ekP2 cfP where
  enters args w := by kernel_rfl
  pays W x y := byB_any x y W
  swo := cfP_swo
  tot x y h1 h2 := by
    simp only [ltOf, decide_eq_false_iff_not] at h1 h2
    exact rkP_inj (cfK_tot 0 _ _ h1 h2)

/-- the order of places -/
abbrev cfM (x y : PlaceK) : Int := (x.n : Int) - y.n
theorem byPlace_any (x y : PlaceK) (w : World) : Calls Try.prog 22 #[ekM2 x, ekM2 y] w fun e w' => e = .returned (.int .i64 (cfM x y)) ∧ Grew w w' := by
  obtain ⟨x, hx⟩ := x
  obtain ⟨y, hy⟩ := y
  have h1 : wrap64 ((x : Int) - y) = (x : Int) - y := IntWalk.wrap64_in _ (by omega)
  have hu := ((Grew.refl w).alloc (.cells #[.int .i64 (x : Int), .int .u64 0, .int .u64 0, .int .u64 0] 52)).alloc (.cells #[.int .i64 (y : Int), .int .u64 0, .int .u64 0, .int .u64 0] 52)
  go_enter Try.func22, Try.ntmps22
  go_wp2_with fail
  go_ret
  exact ⟨rfl, hu⟩
theorem cfM_swo : SWO (ltOf cfM) := SWO.of_total (fun x => by simp [ltOf]) (fun x y z h1 h2 => by simp only [ltOf, cfM, decide_eq_true_eq] at h1 h2 ⊢; omega) (fun x y h1 h2 => by
    simp only [ltOf, cfM, decide_eq_false_iff_not] at h1 h2
    exact PlaceK.ext' (by omega))
theorem ordM : OrdOk Try.prog 22 ekM2 cfM where
  enters args w := by kernel_rfl
  pays W x y := byPlace_any x y W
  swo := cfM_swo
  tot x y h1 h2 := by
    simp only [ltOf, cfM, decide_eq_false_iff_not] at h1 h2
    exact PlaceK.ext' (by omega)
end Go.Proofs.Ytcdmdpgfadopcaa
