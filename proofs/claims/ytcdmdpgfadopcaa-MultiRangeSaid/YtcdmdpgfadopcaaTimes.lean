/-
  Times and stamps: comparing (cmp.Compare, cmp.Or, slices.Compare, stamp.Compare), by walks; the orders, in plain.
-/
import Derived.Test.YtcdmdpgfadopcaaTallyS3
import Derived.Test.YtcdmdpgfadopcaaPlainOrd
import Derived.Test.YtcdmdpgfadopcaaBaseMem
import Derived.Deep.DeepCutAuto
namespace Go.Slu
/-- three ways -/
def cmpI (x y : Int) : Int := if x < y then -1 else if y < x then 1 else 0
def cmpL : List Int → List Int → Int
  | x :: r, y :: s => if cmpI x y ≠ 0 then cmpI x y else cmpL r s
  | _, _ => 0
end Go.Slu
namespace Go.Proofs.Ytcdmdpgfadopcaa
open Go.Slu Go.MapKept Go.RowKit Go.Sort

theorem nanI_any (x : Int) (w : World) : Calls Try.prog 170 #[.int .i64 x] w fun e w' => e = .returned (.bool false) ∧ w = w' := by
  go_enter Try.func170, Try.ntmps170
  go_wp2
  go_ret
  exact ⟨rfl, rfl⟩
theorem nanU_any (x : Int) (w : World) : Calls Try.prog 194 #[.int .u64 x] w fun e w' => e = .returned (.bool false) ∧ w = w' := by
  go_enter Try.func194, Try.ntmps194
  go_wp2
  go_ret
  exact ⟨rfl, rfl⟩
theorem cmpInt_any (x y : Int) (w : World) : Calls Try.prog 129 #[.int .i64 x, .int .i64 y] w fun e w' => e = .returned (.int .i64 (cmpI x y)) ∧ w = w' := by
  unfold cmpI
  by_cases h1 : x < y
  · rw [if_pos h1]
    go_enter Try.func129, Try.ntmps129
    go_wp2_with (go_at_call 170; refine (nanI_any _ _).mono ?_; rintro e w' ⟨rfl, rfl⟩)
    go_ret
    exact ⟨rfl, rfl⟩
  · rw [if_neg h1]
    by_cases h2 : y < x
    · rw [if_pos h2]
      go_enter Try.func129, Try.ntmps129
      go_wp2_with (go_at_call 170; refine (nanI_any _ _).mono ?_; rintro e w' ⟨rfl, rfl⟩)
      go_ret
      exact ⟨rfl, rfl⟩
    · rw [if_neg h2]
      go_enter Try.func129, Try.ntmps129
      go_wp2_with (go_at_call 170; refine (nanI_any _ _).mono ?_; rintro e w' ⟨rfl, rfl⟩)
      go_ret
      exact ⟨rfl, rfl⟩
theorem cmpU_any (x y : Int) (w : World) : Calls Try.prog 171 #[.int .u64 x, .int .u64 y] w fun e w' => e = .returned (.int .i64 (cmpI x y)) ∧ w = w' := by
  unfold cmpI
  by_cases h1 : x < y
  · rw [if_pos h1]
    go_enter Try.func171, Try.ntmps171
    go_wp2_with (go_at_call 194; refine (nanU_any _ _).mono ?_; rintro e w' ⟨rfl, rfl⟩)
    go_ret
    exact ⟨rfl, rfl⟩
  · rw [if_neg h1]
    by_cases h2 : y < x
    · rw [if_pos h2]
      go_enter Try.func171, Try.ntmps171
      go_wp2_with (go_at_call 194; refine (nanU_any _ _).mono ?_; rintro e w' ⟨rfl, rfl⟩)
      go_ret
      exact ⟨rfl, rfl⟩
    · rw [if_neg h2]
      go_enter Try.func171, Try.ntmps171
      go_wp2_with (go_at_call 194; refine (nanU_any _ _).mono ?_; rintro e w' ⟨rfl, rfl⟩)
      go_ret
      exact ⟨rfl, rfl⟩

abbrev eeU (n : Int) : List Value := [.int .u64 n]
theorem cmpL_drop {xs ys : List Int} {i : Nat} {x y : Int} (hx : xs[i]? = some x) (hy : ys[i]? = some y) : cmpL (xs.drop i) (ys.drop i) = if cmpI x y ≠ 0 then cmpI x y else cmpL (xs.drop (i + 1)) (ys.drop (i + 1)) := by
  obtain ⟨h1, rfl⟩ := List.getElem?_eq_some_iff.1 hx
  obtain ⟨h2, rfl⟩ := List.getElem?_eq_some_iff.1 hy
  rw [List.drop_eq_getElem_cons h1, List.drop_eq_getElem_cons h2]
  rfl
set_option maxHeartbeats 1000000 in
theorem sliceCmp_any (w : World) (a b : Option Addr) (ca cb : Nat) (xs ys : List Int) (hl : xs.length = ys.length) (hm : xs.length ≤ 1000000) (ha : Rd 1 eeU w a xs) (hb : Rd 1 eeU w b ys) :
    Calls Try.prog 133 #[.slice a xs.length ca, .slice b ys.length cb] w fun e w' => e = .returned (.int .i64 (cmpL xs ys)) ∧ w = w' := by
  have HA := Lib.hid ha
  have HB := Lib.hid hb
  have HL := Lib.hid hl
  rw [← hl]
  clear ha hb hl
  go_enter Try.func133, Try.ntmps133
  go_wp2_with fail
  go_loopg [5, 6, 7, 8, 11] xs.length (fun m v5 v6 v7 v8 v11 wr => ∃ i : Nat, m + i = xs.length ∧ v11 = .int .i64 i ∧ cmpL xs ys = cmpL (xs.drop i) (ys.drop i) ∧ w = wr)
  case atStart => exact ⟨0, rfl, rfl, rfl, rfl⟩
  case round =>
    obtain ⟨i, hmi, rfl, hc, rfl⟩ := hrel
    have HM := Lib.hid hmi
    have HC := Lib.hid hc
    clear hmi hc
    by_cases hi : i < xs.length
    · have hii : (i : Int) < xs.length := by omega
      obtain ⟨x, hx⟩ : ∃ x, xs[i]? = some x := ⟨xs[i], List.getElem?_eq_getElem hi⟩
      obtain ⟨y, hy⟩ : ∃ y, ys[i]? = some y := ⟨ys[i]'(by rw [← HL.out]; exact hi), List.getElem?_eq_getElem _⟩
      obtain ⟨g1, o1, rfl, hc1⟩ := HA.out i x hx
      obtain ⟨g2, o2, rfl, hc2⟩ := HB.out i y hy
      have y0 := hc1 0 _ rfl
      have z0 := hc2 0 _ rfl
      simp only [Nat.add_zero, Nat.mul_one] at y0 z0
      have HD := Lib.hid (cmpL_drop hx hy)
      clear hc1 hc2 hx hy
      by_cases h0 : cmpI x y = 0
      · have hcu := Lib.hid (h0 ▸ cmpU_any x y w)
        have H0 := Lib.hid h0
        clear h0
        go_wp2_with (go_at_call 171; refine hcu.out.mono ?_; rintro e w' ⟨rfl, rfl⟩)
        go_roundg (xs.length - (i + 1))
        case measure => have := HM.out; omega
        case rel => exact ⟨i + 1, by have := HM.out; omega, rfl, by rw [HC.out, HD.out, H0.out]; simp, rfl⟩
      · have h0b : (cmpI x y == 0) = false := by simpa using h0
        have hcu := Lib.hid (cmpU_any x y w)
        have hfin := Lib.hid (show cmpL xs ys = cmpI x y by rw [HC.out, HD.out, if_pos h0])
        generalize cmpI x y = r at hcu hfin h0b h0
        go_wp2_with (go_at_call 171; refine hcu.out.mono ?_; rintro e w' ⟨rfl, rfl⟩)
        go_ret
        exact ⟨by rw [hfin.out]; rfl, rfl⟩
    · have hii : ¬ (i : Int) < xs.length := by omega
      have hend := Lib.hid (show cmpL xs ys = 0 by rw [HC.out, List.drop_of_length_le (by omega)]; rfl)
      go_wp2_with fail
      go_ret
      exact ⟨by rw [hend.out]; rfl, rfl⟩

/-- a time -/
structure TimeK where
  a : Int
  b : Int
  c : Int
  ha : 0 ≤ a ∧ a ≤ 18446744073709551615
  hb : 0 ≤ b ∧ b ≤ 18446744073709551615
  hc : 0 ≤ c ∧ c ≤ 18446744073709551615
theorem TimeK.ext' {x y : TimeK} (h1 : x.a = y.a) (h2 : x.b = y.b) (h3 : x.c = y.c) : x = y := by cases x; cases y; cases h1; cases h2; cases h3; rfl
instance : DecidableEq TimeK := fun x y => decidable_of_iff (x.a = y.a ∧ x.b = y.b ∧ x.c = y.c) ⟨fun h => TimeK.ext' h.1 h.2.1 h.2.2, fun h => h ▸ ⟨rfl, rfl, rfl⟩⟩
instance : Inhabited TimeK := ⟨⟨0, 0, 0, by omega, by omega, by omega⟩⟩
abbrev eeT (p : TimeK) : List Value := [.int .u64 p.a, .int .u64 p.b, .int .u64 p.c]
abbrev ekT (p : TimeK) : Value := .agg #[.int .u64 p.a, .int .u64 p.b, .int .u64 p.c]
def cmpT (x y : TimeK) : Int := cmpL [x.a, x.b, x.c] [y.a, y.b, y.c]

theorem six_grew {w w' : World} {p0 p1 p2 p3 p4 p5 : Addr} {v0 v1 v2 v3 v4 v5 : Value} (hg : Grew w w') (h : w.cell? p0 = some v0 ∧ w.cell? p1 = some v1 ∧ w.cell? p2 = some v2 ∧ w.cell? p3 = some v3 ∧ w.cell? p4 = some v4 ∧ w.cell? p5 = some v5) :
    w'.cell? p0 = some v0 ∧ w'.cell? p1 = some v1 ∧ w'.cell? p2 = some v2 ∧ w'.cell? p3 = some v3 ∧ w'.cell? p4 = some v4 ∧ w'.cell? p5 = some v5 :=
  ⟨hg.upd.cellS h.1 (by simp), hg.upd.cellS h.2.1 (by simp), hg.upd.cellS h.2.2.1 (by simp), hg.upd.cellS h.2.2.2.1 (by simp), hg.upd.cellS h.2.2.2.2.1 (by simp), hg.upd.cellS h.2.2.2.2.2 (by simp)⟩
theorem numbers_any (a b c : Int) (w : World) : Calls Try.prog 132 #[.agg #[.int .u64 a, .int .u64 b, .int .u64 c]] w fun e w' => e = .returned (.agg #[.int .u64 a, .int .u64 b, .int .u64 c]) ∧ Grew w w' := by
  go_enter Try.func132, Try.ntmps132
  go_wp2
  refine bodyPost_ret (v := .agg #[.int .u64 a, .int .u64 b, .int .u64 c]) (by simp [results, Try.results132, go_sem]) rfl ⟨rfl, ?_⟩
  exact ((Grew.refl w).alloc _).alloc _

section
variable {P : Program} {ops : Array Oper} {Q : Exit → Act → World → Prop} {o : Oper} {a : Act} {w : World} {K : Act → World → Prop} {E : Prop} {t : TypeId}
/-- a whole block is written over -/
theorem run_storeWhole {b : Nat} {cs : Array Value} {vs : List Value} {te : TypeId} (hb : w.heap[b]? = some (.cells cs te (0, 0))) (hn : vs.length = cs.size) (h1 : ∀ v ∈ vs, v.oneCell' = true) (hsz : ∀ W, (Go.sizeOf t).run P W = .ok vs.length W) :
    ∃ w', (Instr.storeAt t (.pointer (some ⟨b, 0, none⟩)) (.agg vs.toArray)).run P w = .ok () w' ∧ w'.heap[b]? = some (.cells vs.toArray te (0, 0)) ∧ Upd [b] w w' ∧ w'.drawn = w.drawn := by
  have hst := run_storeCells_at P b 0 te vs 0 cs w hb (by omega) h1
  simp only [Nat.add_zero, Nat.zero_add, List.take_zero, List.nil_append, hn] at hst
  rw [List.drop_of_length_le (by simp), List.append_nil] at hst
  refine ⟨w.setRow b vs.toArray, ?_, setRow_heap w b cs _ te _ hb, ⟨rfl, rfl, rfl, by simp, fun k _ hk => setRow_other w b k _ (fun e => hk (by simp [e]))⟩, rfl⟩
  simp [Instr.storeAt, Instr.sureAddr, storeVar, hsz, go_sem, hst, Result.andThen]
theorem step_storeWhole (hg : o.guard = none) (p x : Operand) (hop : o.op = .store t p x) (vs : List Value) (hsz : ∀ W, (Go.sizeOf t).run P W = .ok vs.length W) {b : Nat} {cs : Array Value} {te : TypeId} (hb : w.heap[b]? = some (.cells cs te (0, 0))) (hn : vs.length = cs.size) (h1 : ∀ v ∈ vs, v.oneCell' = true)
    (hp : a.eval p = .pointer (some ⟨b, 0, none⟩)) (hx : a.eval x = .agg vs.toArray)
    (hK : ∀ w', w'.heap[b]? = some (.cells vs.toArray te (0, 0)) → Upd [b] w w' → w'.drawn = w.drawn → K (a.put o.dst undef) w') :
    if Region.wanted o (yielded ops a.tmps) = true then Oper.wp P o a w K Q else E := by
  obtain ⟨w', h2, h3, h4, h5⟩ := run_storeWhole (P := P) (t := t) hb hn h1 hsz
  exact step_run_skip hg (by simp [execOp, hop, hp, hx, h2, Result.andThen]) (hK w' h3 h4 h5)
end
theorem six_upd {w w' : World} {b c : Nat} {v0 v1 v2 v3 v4 v5 : Value} (hu : Upd [c] w w') (hc : b + 2 ≤ c) (h : w.cell? ⟨b, 0, none⟩ = some v0 ∧ w.cell? ⟨b, 1, none⟩ = some v1 ∧ w.cell? ⟨b, 2, none⟩ = some v2 ∧ w.cell? ⟨b + 1, 0, none⟩ = some v3 ∧ w.cell? ⟨b + 1, 1, none⟩ = some v4 ∧ w.cell? ⟨b + 1, 2, none⟩ = some v5) :
    w'.cell? ⟨b, 0, none⟩ = some v0 ∧ w'.cell? ⟨b, 1, none⟩ = some v1 ∧ w'.cell? ⟨b, 2, none⟩ = some v2 ∧ w'.cell? ⟨b + 1, 0, none⟩ = some v3 ∧ w'.cell? ⟨b + 1, 1, none⟩ = some v4 ∧ w'.cell? ⟨b + 1, 2, none⟩ = some v5 :=
  ⟨hu.cellS h.1 (by simp; omega), hu.cellS h.2.1 (by simp; omega), hu.cellS h.2.2.1 (by simp; omega), hu.cellS h.2.2.2.1 (by simp; omega), hu.cellS h.2.2.2.2.1 (by simp; omega), hu.cellS h.2.2.2.2.2 (by simp; omega)⟩
theorem grew_upd {w0 w w' : World} {c : Nat} (h : Grew w0 w) (hu : Upd [c] w w') (hc : w0.heap.size ≤ c) (hd : w'.drawn = w.drawn) : Grew w0 w' :=
  ⟨h.upd.then hu (fun i hi hl => by simp at hi; omega), by rw [hd]; exact h.drawn⟩
theorem sizeA : ∀ W : World, (Go.sizeOf 191).run Try.prog W = .ok 3 W := fun W => by kernel_rfl
theorem rd3 {w : World} {b : Nat} {x y z : Int} {te : TypeId} (h : w.heap[b]? = some (.cells #[.int .u64 x, .int .u64 y, .int .u64 z] te (0, 0))) : Rd 1 eeU w (some ⟨b, 0, none⟩) [x, y, z] := fun i u hi => by
  refine ⟨b, 0, rfl, fun j v hv => ?_⟩
  have hj : j = 0 := by have := (List.getElem?_eq_some_iff.1 hv).1; simpa using this
  subst hj
  match i, hi with
  | 0, hi => cases hi; simp at hv; subst hv; simp [World.cell?, h]
  | 1, hi => cases hi; simp at hv; subst hv; simp [World.cell?, h]
  | 2, hi => cases hi; simp at hv; subst hv; simp [World.cell?, h]
  | n + 3, hi => simp at hi

set_option maxRecDepth 20000 in
set_option maxHeartbeats 2000000 in
theorem stampCompare_any (x y : TimeK) (w : World) : Calls Try.prog 105 #[ekT x, ekT y] w fun e w' => e = .returned (.int .i64 (cmpT x y)) ∧ Grew w w' := by
  obtain ⟨xa, xb, xc, _, _, _⟩ := x
  obtain ⟨ya, yb, yc, _, _, _⟩ := y
  have hx := Lib.hid (fun W => numbers_any xa xb xc W)
  have hy := Lib.hid (fun W => numbers_any ya yb yc W)
  have hu := ((Grew.refl w).alloc (.cells #[.int .u64 xa, .int .u64 xb, .int .u64 xc] 50)).alloc (.cells #[.int .u64 ya, .int .u64 yb, .int .u64 yc] 50)
  have x0 := ((Upd.refl [] (w.alloc (.cells #[.int .u64 xa, .int .u64 xb, .int .u64 xc] 50))).alloc (.cells #[.int .u64 ya, .int .u64 yb, .int .u64 yc] 50)).cellS (cell_new w #[.int .u64 xa, .int .u64 xb, .int .u64 xc] 50 0 (v := .int .u64 xa) rfl) (by simp)
  have x1 := ((Upd.refl [] (w.alloc (.cells #[.int .u64 xa, .int .u64 xb, .int .u64 xc] 50))).alloc (.cells #[.int .u64 ya, .int .u64 yb, .int .u64 yc] 50)).cellS (cell_new w #[.int .u64 xa, .int .u64 xb, .int .u64 xc] 50 1 (v := .int .u64 xb) rfl) (by simp)
  have x2 := ((Upd.refl [] (w.alloc (.cells #[.int .u64 xa, .int .u64 xb, .int .u64 xc] 50))).alloc (.cells #[.int .u64 ya, .int .u64 yb, .int .u64 yc] 50)).cellS (cell_new w #[.int .u64 xa, .int .u64 xb, .int .u64 xc] 50 2 (v := .int .u64 xc) rfl) (by simp)
  have y0 := cell_new (w.alloc (.cells #[.int .u64 xa, .int .u64 xb, .int .u64 xc] 50)) #[.int .u64 ya, .int .u64 yb, .int .u64 yc] 50 0 (v := .int .u64 ya) rfl
  have y1 := cell_new (w.alloc (.cells #[.int .u64 xa, .int .u64 xb, .int .u64 xc] 50)) #[.int .u64 ya, .int .u64 yb, .int .u64 yc] 50 1 (v := .int .u64 yb) rfl
  have y2 := cell_new (w.alloc (.cells #[.int .u64 xa, .int .u64 xb, .int .u64 xc] 50)) #[.int .u64 ya, .int .u64 yb, .int .u64 yc] 50 2 (v := .int .u64 yc) rfl
  have hs : (w.alloc (.cells #[.int .u64 xa, .int .u64 xb, .int .u64 xc] 50)).heap.size = w.heap.size + 1 := by simp
  rw [hs] at y0 y1 y2
  have HU := Lib.hid hu
  have hsz : w.heap.size + 2 ≤ ((w.alloc (.cells #[.int .u64 xa, .int .u64 xb, .int .u64 xc] 50)).alloc (.cells #[.int .u64 ya, .int .u64 yb, .int .u64 yc] 50)).heap.size := by simp
  clear hu hs
  go_enter Try.func105, Try.ntmps105
  go_upto_region 1 with fail
  generalize (w.alloc (.cells #[.int .u64 xa, .int .u64 xb, .int .u64 xc] 50)).alloc (.cells #[.int .u64 ya, .int .u64 yb, .int .u64 yc] 50) = wB at *
  go_cut [5, 6] (fun v5 v6 wx => ∃ bx b2, v5 = .pointer (some ⟨bx, 0, none⟩) ∧ v6 = .pointer (some ⟨b2, 0, none⟩) ∧ Rd 1 eeU wx (some ⟨bx, 0, none⟩) [xa, xb, xc] ∧ Rd 1 eeU wx (some ⟨b2, 0, none⟩) [ya, yb, yc] ∧ Grew w wx)
  case first =>
    refine wp_region_noPanic ?_
    refine wp_region_held_drew (S := (fun w' => w'.cell? ⟨w.heap.size, 0, none⟩ = some (.int .u64 xa) ∧ w'.cell? ⟨w.heap.size, 1, none⟩ = some (.int .u64 xb) ∧ w'.cell? ⟨w.heap.size, 2, none⟩ = some (.int .u64 xc) ∧ w'.cell? ⟨w.heap.size + 1, 0, none⟩ = some (.int .u64 ya) ∧ w'.cell? ⟨w.heap.size + 1, 1, none⟩ = some (.int .u64 yb) ∧ w'.cell? ⟨w.heap.size + 1, 2, none⟩ = some (.int .u64 yc))) (by kernel_rfl) ⟨x0, x1, x2, y0, y1, y2⟩ (fun hHeld => ?_)
    refine wpAnyH_take (i := 0) (v := ?vv0) rfl (by kernel_rfl) (by kernel_rfl) (by kernel_rfl) (fun _ _ _ h => h) (Or.inl ⟨by rfl, ?hy0⟩) (by assumption) ?rest0
    case hy0 =>
      intro w hSw
      (try dsimp only at hSw)
      simp only [List.getElem_toArray, List.getElem_cons_zero]
      go_simp
      try with_reducible rfl
    try simp only [Act.put]
    refine wpAnyH_take (i := 2) (v := ?vv2) rfl (by kernel_rfl) (by kernel_rfl) (by kernel_rfl) (fun _ _ _ h => h) (Or.inl ⟨by rfl, ?hy2⟩) (by assumption) ?rest2
    case hy2 =>
      intro w hSw
      (try dsimp only at hSw)
      simp only [List.getElem_toArray, List.getElem_cons_succ, List.getElem_cons_zero]
      go_simp
      try with_reducible rfl
    try simp only [Act.put]
    have s0 : (fun w' => w'.cell? ⟨w.heap.size, 0, none⟩ = some (.int .u64 xa) ∧ w'.cell? ⟨w.heap.size, 1, none⟩ = some (.int .u64 xb) ∧ w'.cell? ⟨w.heap.size, 2, none⟩ = some (.int .u64 xc) ∧ w'.cell? ⟨w.heap.size + 1, 0, none⟩ = some (.int .u64 ya) ∧ w'.cell? ⟨w.heap.size + 1, 1, none⟩ = some (.int .u64 yb) ∧ w'.cell? ⟨w.heap.size + 1, 2, none⟩ = some (.int .u64 yc)) wB.drew := hHeld
    have g0 := (Grew.refl wB).drew
    generalize hW0 : wB.drew = w0 at *
    clear hW0 hHeld
    refine wpAnyH_ready (rs := [1, 4, 5]) (by kernel_rfl) (by simp) ?_
    refine AllReadyH.cons rfl (fun K hK => ?_) ?_
    · -- 1
      simp only [List.getElem_toArray, List.getElem_cons_succ, List.getElem_cons_zero]
      go_simp
      go_at_call 132
      refine (hx.out _).mono ?_
      rintro e w1 ⟨rfl, hg1⟩
      have s1 := six_grew hg1 s0
      have g1 := g0.trans hg1
      go_simp
      refine hK.out _ _ s1 (fun hHeld => ?_)
      clear hK K hHeld
      try simp only [Act.put]
      refine wpAnyH_ready (rs := [3, 4, 5]) (by kernel_rfl) (by simp) ?_
      refine AllReadyH.cons rfl (fun K hK => ?_) ?_
      · -- 3
        simp only [List.getElem_toArray, List.getElem_cons_succ, List.getElem_cons_zero]
        go_simp
        go_at_call 132
        refine (hy.out _).mono ?_
        rintro e w2 ⟨rfl, hg2⟩
        have s2 := six_grew hg2 s1
        have g2 := g1.trans hg2
        go_simp
        refine hK.out _ _ s2 (fun hHeld => ?_)
        clear hK K hHeld
        try simp only [Act.put]
        refine wpAnyH_ready (rs := [4, 5]) (by kernel_rfl) (by simp) ?_
        refine AllReadyH.cons rfl (fun K hK => ?_) ?_
        · -- 4
          simp only [List.getElem_toArray, List.getElem_cons_succ, List.getElem_cons_zero]
          go_simp
          obtain ⟨c3, hc3⟩ : ∃ b, b = w2.heap.size := ⟨_, rfl⟩
          rw [← hc3]
          have ha3 := (heap_alloc w2 (.cells #[.int .u64 0, .int .u64 0, .int .u64 0] 191)).1
          rw [← hc3] at ha3
          have s3 := six_grew ((Grew.refl w2).alloc (.cells #[.int .u64 0, .int .u64 0, .int .u64 0] 191)) s2
          have g3 := g2.alloc (.cells #[.int .u64 0, .int .u64 0, .int .u64 0] 191)
          have lt3 : wB.heap.size ≤ c3 := by have := g2.upd.size; omega
          generalize hW3 : w2.alloc (.cells #[.int .u64 0, .int .u64 0, .int .u64 0] 191) = w3 at *
          clear hW3 hc3
          refine hK.out _ _ s3 (fun hHeld => ?_)
          clear hK K hHeld
          try simp only [Act.put]
          refine wpAnyH_ready (rs := [5]) (by kernel_rfl) (by simp) ?_
          refine AllReadyH.cons rfl (fun K hK => ?_) AllReadyH.nil
          simp only [List.getElem_toArray, List.getElem_cons_succ, List.getElem_cons_zero]
          go_simp
          obtain ⟨c4, hc4⟩ : ∃ b, b = w3.heap.size := ⟨_, rfl⟩
          rw [← hc4]
          have ha4 := (heap_alloc w3 (.cells #[.int .u64 0, .int .u64 0, .int .u64 0] 191)).1
          rw [← hc4] at ha4
          have s4 := six_grew ((Grew.refl w3).alloc (.cells #[.int .u64 0, .int .u64 0, .int .u64 0] 191)) s3
          have g4 := g3.alloc (.cells #[.int .u64 0, .int .u64 0, .int .u64 0] 191)
          have h5_4 := ((Upd.refl [] w3).alloc (.cells #[.int .u64 0, .int .u64 0, .int .u64 0] 191)).at ha3 (by simp)
          have lt4 : wB.heap.size ≤ c4 := by have := g3.upd.size; omega
          have ne4 : c4 ≠ c3 := by have := lt_of_block ha3; omega
          generalize hW4 : w3.alloc (.cells #[.int .u64 0, .int .u64 0, .int .u64 0] 191) = w4 at *
          clear hW4 hc4
          refine hK.out _ _ s4 (fun hHeld => ?_)
          clear hK K hHeld
          try simp only [Act.put]
          refine wpAnyH_ready (rs := [6]) (by kernel_rfl) (by simp) ?_
          refine AllReadyH.cons rfl (fun K hK => ?_) AllReadyH.nil
          simp only [List.getElem_toArray, List.getElem_cons_succ, List.getElem_cons_zero]
          refine step_storeWhole (a := ⟨_, []⟩) rfl (.tmp 5) (.tmp 8) rfl [.int .u64 xa, .int .u64 xb, .int .u64 xc] sizeA (b := c3) h5_4 rfl (by intro v hv; simp at hv; rcases hv with rfl | rfl | rfl <;> rfl) (by simp [Act.eval]) (by simp [Act.eval]) ?_
          intro w5 hb5 hu5 hd5
          have s5 := six_upd hu5 (by omega) s4
          have g5 := grew_upd g4 hu5 (by omega) hd5
          clear hd5
          have h6_5 := hu5.at ha4 (by simpa using ne4)
          refine hK.out _ _ s5 (fun hHeld => ?_)
          clear hK K hHeld
          try simp only [Act.put]
          refine wpAnyH_ready (rs := [7]) (by kernel_rfl) (by simp) ?_
          refine AllReadyH.cons rfl (fun K hK => ?_) AllReadyH.nil
          simp only [List.getElem_toArray, List.getElem_cons_succ, List.getElem_cons_zero]
          refine step_storeWhole (a := ⟨_, []⟩) rfl (.tmp 6) (.tmp 10) rfl [.int .u64 ya, .int .u64 yb, .int .u64 yc] sizeA (b := c4) h6_5 rfl (by intro v hv; simp at hv; rcases hv with rfl | rfl | rfl <;> rfl) (by simp [Act.eval]) (by simp [Act.eval]) ?_
          intro w6 hb6 hu6 hd6
          have s6 := six_upd hu6 (by omega) s5
          have g6 := grew_upd g5 hu6 (by omega) hd6
          clear hd6
          have h5_6 := hu6.at hb5 (by simpa using ne4.symm)
          refine hK.out _ _ s6 (fun hHeld => ?_)
          clear hK K hHeld
          try simp only [Act.put]
          refine wpAnyH_done (by kernel_rfl) ?_ _
          refine NoPanic.normal ?_
          go_wp2_with fail
          go_meet
          exact ⟨_, _, rfl, rfl, rd3 h5_6, rd3 hb6, HU.out.trans g6⟩
        refine AllReadyH.cons rfl (fun K hK => ?_) AllReadyH.nil
        simp only [List.getElem_toArray, List.getElem_cons_succ, List.getElem_cons_zero]
        go_simp
        obtain ⟨c7, hc7⟩ : ∃ b, b = w2.heap.size := ⟨_, rfl⟩
        rw [← hc7]
        have ha7 := (heap_alloc w2 (.cells #[.int .u64 0, .int .u64 0, .int .u64 0] 191)).1
        rw [← hc7] at ha7
        have s7 := six_grew ((Grew.refl w2).alloc (.cells #[.int .u64 0, .int .u64 0, .int .u64 0] 191)) s2
        have g7 := g2.alloc (.cells #[.int .u64 0, .int .u64 0, .int .u64 0] 191)
        have lt7 : wB.heap.size ≤ c7 := by have := g2.upd.size; omega
        generalize hW7 : w2.alloc (.cells #[.int .u64 0, .int .u64 0, .int .u64 0] 191) = w7 at *
        clear hW7 hc7
        refine hK.out _ _ s7 (fun hHeld => ?_)
        clear hK K hHeld
        try simp only [Act.put]
        refine wpAnyH_ready (rs := [4]) (by kernel_rfl) (by simp) ?_
        refine AllReadyH.cons rfl (fun K hK => ?_) AllReadyH.nil
        simp only [List.getElem_toArray, List.getElem_cons_succ, List.getElem_cons_zero]
        go_simp
        obtain ⟨c8, hc8⟩ : ∃ b, b = w7.heap.size := ⟨_, rfl⟩
        rw [← hc8]
        have ha8 := (heap_alloc w7 (.cells #[.int .u64 0, .int .u64 0, .int .u64 0] 191)).1
        rw [← hc8] at ha8
        have s8 := six_grew ((Grew.refl w7).alloc (.cells #[.int .u64 0, .int .u64 0, .int .u64 0] 191)) s7
        have g8 := g7.alloc (.cells #[.int .u64 0, .int .u64 0, .int .u64 0] 191)
        have h6_8 := ((Upd.refl [] w7).alloc (.cells #[.int .u64 0, .int .u64 0, .int .u64 0] 191)).at ha7 (by simp)
        have lt8 : wB.heap.size ≤ c8 := by have := g7.upd.size; omega
        have ne8 : c8 ≠ c7 := by have := lt_of_block ha7; omega
        generalize hW8 : w7.alloc (.cells #[.int .u64 0, .int .u64 0, .int .u64 0] 191) = w8 at *
        clear hW8 hc8
        refine hK.out _ _ s8 (fun hHeld => ?_)
        clear hK K hHeld
        try simp only [Act.put]
        refine wpAnyH_ready (rs := [6]) (by kernel_rfl) (by simp) ?_
        refine AllReadyH.cons rfl (fun K hK => ?_) AllReadyH.nil
        simp only [List.getElem_toArray, List.getElem_cons_succ, List.getElem_cons_zero]
        refine step_storeWhole (a := ⟨_, []⟩) rfl (.tmp 5) (.tmp 8) rfl [.int .u64 xa, .int .u64 xb, .int .u64 xc] sizeA (b := c8) ha8 rfl (by intro v hv; simp at hv; rcases hv with rfl | rfl | rfl <;> rfl) (by simp [Act.eval]) (by simp [Act.eval]) ?_
        intro w9 hb9 hu9 hd9
        have s9 := six_upd hu9 (by omega) s8
        have g9 := grew_upd g8 hu9 (by omega) hd9
        clear hd9
        have h6_9 := hu9.at h6_8 (by simpa using ne8.symm)
        refine hK.out _ _ s9 (fun hHeld => ?_)
        clear hK K hHeld
        try simp only [Act.put]
        refine wpAnyH_ready (rs := [7]) (by kernel_rfl) (by simp) ?_
        refine AllReadyH.cons rfl (fun K hK => ?_) AllReadyH.nil
        simp only [List.getElem_toArray, List.getElem_cons_succ, List.getElem_cons_zero]
        refine step_storeWhole (a := ⟨_, []⟩) rfl (.tmp 6) (.tmp 10) rfl [.int .u64 ya, .int .u64 yb, .int .u64 yc] sizeA (b := c7) h6_9 rfl (by intro v hv; simp at hv; rcases hv with rfl | rfl | rfl <;> rfl) (by simp [Act.eval]) (by simp [Act.eval]) ?_
        intro w10 hb10 hu10 hd10
        have s10 := six_upd hu10 (by omega) s9
        have g10 := grew_upd g9 hu10 (by omega) hd10
        clear hd10
        have h5_10 := hu10.at hb9 (by simpa using ne8)
        refine hK.out _ _ s10 (fun hHeld => ?_)
        clear hK K hHeld
        try simp only [Act.put]
        refine wpAnyH_done (by kernel_rfl) ?_ _
        refine NoPanic.normal ?_
        go_wp2_with fail
        go_meet
        exact ⟨_, _, rfl, rfl, rd3 h5_10, rd3 hb10, HU.out.trans g10⟩
      refine AllReadyH.cons rfl (fun K hK => ?_) ?_
      · -- 4
        simp only [List.getElem_toArray, List.getElem_cons_succ, List.getElem_cons_zero]
        go_simp
        obtain ⟨c11, hc11⟩ : ∃ b, b = w1.heap.size := ⟨_, rfl⟩
        rw [← hc11]
        have ha11 := (heap_alloc w1 (.cells #[.int .u64 0, .int .u64 0, .int .u64 0] 191)).1
        rw [← hc11] at ha11
        have s11 := six_grew ((Grew.refl w1).alloc (.cells #[.int .u64 0, .int .u64 0, .int .u64 0] 191)) s1
        have g11 := g1.alloc (.cells #[.int .u64 0, .int .u64 0, .int .u64 0] 191)
        have lt11 : wB.heap.size ≤ c11 := by have := g1.upd.size; omega
        generalize hW11 : w1.alloc (.cells #[.int .u64 0, .int .u64 0, .int .u64 0] 191) = w11 at *
        clear hW11 hc11
        refine hK.out _ _ s11 (fun hHeld => ?_)
        clear hK K hHeld
        try simp only [Act.put]
        refine wpAnyH_ready (rs := [3, 5]) (by kernel_rfl) (by simp) ?_
        refine AllReadyH.cons rfl (fun K hK => ?_) ?_
        · -- 3
          simp only [List.getElem_toArray, List.getElem_cons_succ, List.getElem_cons_zero]
          go_simp
          go_at_call 132
          refine (hy.out _).mono ?_
          rintro e w12 ⟨rfl, hg12⟩
          have s12 := six_grew hg12 s11
          have g12 := g11.trans hg12
          have h5_12 := hg12.upd.at ha11 (by simp)
          go_simp
          refine hK.out _ _ s12 (fun hHeld => ?_)
          clear hK K hHeld
          try simp only [Act.put]
          refine wpAnyH_ready (rs := [5]) (by kernel_rfl) (by simp) ?_
          refine AllReadyH.cons rfl (fun K hK => ?_) AllReadyH.nil
          simp only [List.getElem_toArray, List.getElem_cons_succ, List.getElem_cons_zero]
          go_simp
          obtain ⟨c13, hc13⟩ : ∃ b, b = w12.heap.size := ⟨_, rfl⟩
          rw [← hc13]
          have ha13 := (heap_alloc w12 (.cells #[.int .u64 0, .int .u64 0, .int .u64 0] 191)).1
          rw [← hc13] at ha13
          have s13 := six_grew ((Grew.refl w12).alloc (.cells #[.int .u64 0, .int .u64 0, .int .u64 0] 191)) s12
          have g13 := g12.alloc (.cells #[.int .u64 0, .int .u64 0, .int .u64 0] 191)
          have h5_13 := ((Upd.refl [] w12).alloc (.cells #[.int .u64 0, .int .u64 0, .int .u64 0] 191)).at h5_12 (by simp)
          have lt13 : wB.heap.size ≤ c13 := by have := g12.upd.size; omega
          have ne13 : c13 ≠ c11 := by have := lt_of_block h5_12; omega
          generalize hW13 : w12.alloc (.cells #[.int .u64 0, .int .u64 0, .int .u64 0] 191) = w13 at *
          clear hW13 hc13
          refine hK.out _ _ s13 (fun hHeld => ?_)
          clear hK K hHeld
          try simp only [Act.put]
          refine wpAnyH_ready (rs := [6]) (by kernel_rfl) (by simp) ?_
          refine AllReadyH.cons rfl (fun K hK => ?_) AllReadyH.nil
          simp only [List.getElem_toArray, List.getElem_cons_succ, List.getElem_cons_zero]
          refine step_storeWhole (a := ⟨_, []⟩) rfl (.tmp 5) (.tmp 8) rfl [.int .u64 xa, .int .u64 xb, .int .u64 xc] sizeA (b := c11) h5_13 rfl (by intro v hv; simp at hv; rcases hv with rfl | rfl | rfl <;> rfl) (by simp [Act.eval]) (by simp [Act.eval]) ?_
          intro w14 hb14 hu14 hd14
          have s14 := six_upd hu14 (by omega) s13
          have g14 := grew_upd g13 hu14 (by omega) hd14
          clear hd14
          have h6_14 := hu14.at ha13 (by simpa using ne13)
          refine hK.out _ _ s14 (fun hHeld => ?_)
          clear hK K hHeld
          try simp only [Act.put]
          refine wpAnyH_ready (rs := [7]) (by kernel_rfl) (by simp) ?_
          refine AllReadyH.cons rfl (fun K hK => ?_) AllReadyH.nil
          simp only [List.getElem_toArray, List.getElem_cons_succ, List.getElem_cons_zero]
          refine step_storeWhole (a := ⟨_, []⟩) rfl (.tmp 6) (.tmp 10) rfl [.int .u64 ya, .int .u64 yb, .int .u64 yc] sizeA (b := c13) h6_14 rfl (by intro v hv; simp at hv; rcases hv with rfl | rfl | rfl <;> rfl) (by simp [Act.eval]) (by simp [Act.eval]) ?_
          intro w15 hb15 hu15 hd15
          have s15 := six_upd hu15 (by omega) s14
          have g15 := grew_upd g14 hu15 (by omega) hd15
          clear hd15
          have h5_15 := hu15.at hb14 (by simpa using ne13.symm)
          refine hK.out _ _ s15 (fun hHeld => ?_)
          clear hK K hHeld
          try simp only [Act.put]
          refine wpAnyH_done (by kernel_rfl) ?_ _
          refine NoPanic.normal ?_
          go_wp2_with fail
          go_meet
          exact ⟨_, _, rfl, rfl, rd3 h5_15, rd3 hb15, HU.out.trans g15⟩
        refine AllReadyH.cons rfl (fun K hK => ?_) AllReadyH.nil
        simp only [List.getElem_toArray, List.getElem_cons_succ, List.getElem_cons_zero]
        go_simp
        obtain ⟨c16, hc16⟩ : ∃ b, b = w11.heap.size := ⟨_, rfl⟩
        rw [← hc16]
        have ha16 := (heap_alloc w11 (.cells #[.int .u64 0, .int .u64 0, .int .u64 0] 191)).1
        rw [← hc16] at ha16
        have s16 := six_grew ((Grew.refl w11).alloc (.cells #[.int .u64 0, .int .u64 0, .int .u64 0] 191)) s11
        have g16 := g11.alloc (.cells #[.int .u64 0, .int .u64 0, .int .u64 0] 191)
        have h5_16 := ((Upd.refl [] w11).alloc (.cells #[.int .u64 0, .int .u64 0, .int .u64 0] 191)).at ha11 (by simp)
        have lt16 : wB.heap.size ≤ c16 := by have := g11.upd.size; omega
        have ne16 : c16 ≠ c11 := by have := lt_of_block ha11; omega
        generalize hW16 : w11.alloc (.cells #[.int .u64 0, .int .u64 0, .int .u64 0] 191) = w16 at *
        clear hW16 hc16
        refine hK.out _ _ s16 (fun hHeld => ?_)
        clear hK K hHeld
        try simp only [Act.put]
        refine wpAnyH_ready (rs := [3]) (by kernel_rfl) (by simp) ?_
        refine AllReadyH.cons rfl (fun K hK => ?_) AllReadyH.nil
        simp only [List.getElem_toArray, List.getElem_cons_succ, List.getElem_cons_zero]
        go_simp
        go_at_call 132
        refine (hy.out _).mono ?_
        rintro e w17 ⟨rfl, hg17⟩
        have s17 := six_grew hg17 s16
        have g17 := g16.trans hg17
        have h5_17 := hg17.upd.at h5_16 (by simp)
        have h6_17 := hg17.upd.at ha16 (by simp)
        go_simp
        refine hK.out _ _ s17 (fun hHeld => ?_)
        clear hK K hHeld
        try simp only [Act.put]
        refine wpAnyH_ready (rs := [6]) (by kernel_rfl) (by simp) ?_
        refine AllReadyH.cons rfl (fun K hK => ?_) AllReadyH.nil
        simp only [List.getElem_toArray, List.getElem_cons_succ, List.getElem_cons_zero]
        refine step_storeWhole (a := ⟨_, []⟩) rfl (.tmp 5) (.tmp 8) rfl [.int .u64 xa, .int .u64 xb, .int .u64 xc] sizeA (b := c11) h5_17 rfl (by intro v hv; simp at hv; rcases hv with rfl | rfl | rfl <;> rfl) (by simp [Act.eval]) (by simp [Act.eval]) ?_
        intro w18 hb18 hu18 hd18
        have s18 := six_upd hu18 (by omega) s17
        have g18 := grew_upd g17 hu18 (by omega) hd18
        clear hd18
        have h6_18 := hu18.at h6_17 (by simpa using ne16)
        refine hK.out _ _ s18 (fun hHeld => ?_)
        clear hK K hHeld
        try simp only [Act.put]
        refine wpAnyH_ready (rs := [7]) (by kernel_rfl) (by simp) ?_
        refine AllReadyH.cons rfl (fun K hK => ?_) AllReadyH.nil
        simp only [List.getElem_toArray, List.getElem_cons_succ, List.getElem_cons_zero]
        refine step_storeWhole (a := ⟨_, []⟩) rfl (.tmp 6) (.tmp 10) rfl [.int .u64 ya, .int .u64 yb, .int .u64 yc] sizeA (b := c16) h6_18 rfl (by intro v hv; simp at hv; rcases hv with rfl | rfl | rfl <;> rfl) (by simp [Act.eval]) (by simp [Act.eval]) ?_
        intro w19 hb19 hu19 hd19
        have s19 := six_upd hu19 (by omega) s18
        have g19 := grew_upd g18 hu19 (by omega) hd19
        clear hd19
        have h5_19 := hu19.at hb18 (by simpa using ne16.symm)
        refine hK.out _ _ s19 (fun hHeld => ?_)
        clear hK K hHeld
        try simp only [Act.put]
        refine wpAnyH_done (by kernel_rfl) ?_ _
        refine NoPanic.normal ?_
        go_wp2_with fail
        go_meet
        exact ⟨_, _, rfl, rfl, rd3 h5_19, rd3 hb19, HU.out.trans g19⟩
      refine AllReadyH.cons rfl (fun K hK => ?_) AllReadyH.nil
      simp only [List.getElem_toArray, List.getElem_cons_succ, List.getElem_cons_zero]
      go_simp
      obtain ⟨c20, hc20⟩ : ∃ b, b = w1.heap.size := ⟨_, rfl⟩
      rw [← hc20]
      have ha20 := (heap_alloc w1 (.cells #[.int .u64 0, .int .u64 0, .int .u64 0] 191)).1
      rw [← hc20] at ha20
      have s20 := six_grew ((Grew.refl w1).alloc (.cells #[.int .u64 0, .int .u64 0, .int .u64 0] 191)) s1
      have g20 := g1.alloc (.cells #[.int .u64 0, .int .u64 0, .int .u64 0] 191)
      have lt20 : wB.heap.size ≤ c20 := by have := g1.upd.size; omega
      generalize hW20 : w1.alloc (.cells #[.int .u64 0, .int .u64 0, .int .u64 0] 191) = w20 at *
      clear hW20 hc20
      refine hK.out _ _ s20 (fun hHeld => ?_)
      clear hK K hHeld
      try simp only [Act.put]
      refine wpAnyH_ready (rs := [3, 4]) (by kernel_rfl) (by simp) ?_
      refine AllReadyH.cons rfl (fun K hK => ?_) ?_
      · -- 3
        simp only [List.getElem_toArray, List.getElem_cons_succ, List.getElem_cons_zero]
        go_simp
        go_at_call 132
        refine (hy.out _).mono ?_
        rintro e w21 ⟨rfl, hg21⟩
        have s21 := six_grew hg21 s20
        have g21 := g20.trans hg21
        have h6_21 := hg21.upd.at ha20 (by simp)
        go_simp
        refine hK.out _ _ s21 (fun hHeld => ?_)
        clear hK K hHeld
        try simp only [Act.put]
        refine wpAnyH_ready (rs := [4]) (by kernel_rfl) (by simp) ?_
        refine AllReadyH.cons rfl (fun K hK => ?_) AllReadyH.nil
        simp only [List.getElem_toArray, List.getElem_cons_succ, List.getElem_cons_zero]
        go_simp
        obtain ⟨c22, hc22⟩ : ∃ b, b = w21.heap.size := ⟨_, rfl⟩
        rw [← hc22]
        have ha22 := (heap_alloc w21 (.cells #[.int .u64 0, .int .u64 0, .int .u64 0] 191)).1
        rw [← hc22] at ha22
        have s22 := six_grew ((Grew.refl w21).alloc (.cells #[.int .u64 0, .int .u64 0, .int .u64 0] 191)) s21
        have g22 := g21.alloc (.cells #[.int .u64 0, .int .u64 0, .int .u64 0] 191)
        have h6_22 := ((Upd.refl [] w21).alloc (.cells #[.int .u64 0, .int .u64 0, .int .u64 0] 191)).at h6_21 (by simp)
        have lt22 : wB.heap.size ≤ c22 := by have := g21.upd.size; omega
        have ne22 : c22 ≠ c20 := by have := lt_of_block h6_21; omega
        generalize hW22 : w21.alloc (.cells #[.int .u64 0, .int .u64 0, .int .u64 0] 191) = w22 at *
        clear hW22 hc22
        refine hK.out _ _ s22 (fun hHeld => ?_)
        clear hK K hHeld
        try simp only [Act.put]
        refine wpAnyH_ready (rs := [6]) (by kernel_rfl) (by simp) ?_
        refine AllReadyH.cons rfl (fun K hK => ?_) AllReadyH.nil
        simp only [List.getElem_toArray, List.getElem_cons_succ, List.getElem_cons_zero]
        refine step_storeWhole (a := ⟨_, []⟩) rfl (.tmp 5) (.tmp 8) rfl [.int .u64 xa, .int .u64 xb, .int .u64 xc] sizeA (b := c22) ha22 rfl (by intro v hv; simp at hv; rcases hv with rfl | rfl | rfl <;> rfl) (by simp [Act.eval]) (by simp [Act.eval]) ?_
        intro w23 hb23 hu23 hd23
        have s23 := six_upd hu23 (by omega) s22
        have g23 := grew_upd g22 hu23 (by omega) hd23
        clear hd23
        have h6_23 := hu23.at h6_22 (by simpa using ne22.symm)
        refine hK.out _ _ s23 (fun hHeld => ?_)
        clear hK K hHeld
        try simp only [Act.put]
        refine wpAnyH_ready (rs := [7]) (by kernel_rfl) (by simp) ?_
        refine AllReadyH.cons rfl (fun K hK => ?_) AllReadyH.nil
        simp only [List.getElem_toArray, List.getElem_cons_succ, List.getElem_cons_zero]
        refine step_storeWhole (a := ⟨_, []⟩) rfl (.tmp 6) (.tmp 10) rfl [.int .u64 ya, .int .u64 yb, .int .u64 yc] sizeA (b := c20) h6_23 rfl (by intro v hv; simp at hv; rcases hv with rfl | rfl | rfl <;> rfl) (by simp [Act.eval]) (by simp [Act.eval]) ?_
        intro w24 hb24 hu24 hd24
        have s24 := six_upd hu24 (by omega) s23
        have g24 := grew_upd g23 hu24 (by omega) hd24
        clear hd24
        have h5_24 := hu24.at hb23 (by simpa using ne22)
        refine hK.out _ _ s24 (fun hHeld => ?_)
        clear hK K hHeld
        try simp only [Act.put]
        refine wpAnyH_done (by kernel_rfl) ?_ _
        refine NoPanic.normal ?_
        go_wp2_with fail
        go_meet
        exact ⟨_, _, rfl, rfl, rd3 h5_24, rd3 hb24, HU.out.trans g24⟩
      refine AllReadyH.cons rfl (fun K hK => ?_) AllReadyH.nil
      simp only [List.getElem_toArray, List.getElem_cons_succ, List.getElem_cons_zero]
      go_simp
      obtain ⟨c25, hc25⟩ : ∃ b, b = w20.heap.size := ⟨_, rfl⟩
      rw [← hc25]
      have ha25 := (heap_alloc w20 (.cells #[.int .u64 0, .int .u64 0, .int .u64 0] 191)).1
      rw [← hc25] at ha25
      have s25 := six_grew ((Grew.refl w20).alloc (.cells #[.int .u64 0, .int .u64 0, .int .u64 0] 191)) s20
      have g25 := g20.alloc (.cells #[.int .u64 0, .int .u64 0, .int .u64 0] 191)
      have h6_25 := ((Upd.refl [] w20).alloc (.cells #[.int .u64 0, .int .u64 0, .int .u64 0] 191)).at ha20 (by simp)
      have lt25 : wB.heap.size ≤ c25 := by have := g20.upd.size; omega
      have ne25 : c25 ≠ c20 := by have := lt_of_block ha20; omega
      generalize hW25 : w20.alloc (.cells #[.int .u64 0, .int .u64 0, .int .u64 0] 191) = w25 at *
      clear hW25 hc25
      refine hK.out _ _ s25 (fun hHeld => ?_)
      clear hK K hHeld
      try simp only [Act.put]
      refine wpAnyH_ready (rs := [3]) (by kernel_rfl) (by simp) ?_
      refine AllReadyH.cons rfl (fun K hK => ?_) AllReadyH.nil
      simp only [List.getElem_toArray, List.getElem_cons_succ, List.getElem_cons_zero]
      go_simp
      go_at_call 132
      refine (hy.out _).mono ?_
      rintro e w26 ⟨rfl, hg26⟩
      have s26 := six_grew hg26 s25
      have g26 := g25.trans hg26
      have h5_26 := hg26.upd.at ha25 (by simp)
      have h6_26 := hg26.upd.at h6_25 (by simp)
      go_simp
      refine hK.out _ _ s26 (fun hHeld => ?_)
      clear hK K hHeld
      try simp only [Act.put]
      refine wpAnyH_ready (rs := [6]) (by kernel_rfl) (by simp) ?_
      refine AllReadyH.cons rfl (fun K hK => ?_) AllReadyH.nil
      simp only [List.getElem_toArray, List.getElem_cons_succ, List.getElem_cons_zero]
      refine step_storeWhole (a := ⟨_, []⟩) rfl (.tmp 5) (.tmp 8) rfl [.int .u64 xa, .int .u64 xb, .int .u64 xc] sizeA (b := c25) h5_26 rfl (by intro v hv; simp at hv; rcases hv with rfl | rfl | rfl <;> rfl) (by simp [Act.eval]) (by simp [Act.eval]) ?_
      intro w27 hb27 hu27 hd27
      have s27 := six_upd hu27 (by omega) s26
      have g27 := grew_upd g26 hu27 (by omega) hd27
      clear hd27
      have h6_27 := hu27.at h6_26 (by simpa using ne25.symm)
      refine hK.out _ _ s27 (fun hHeld => ?_)
      clear hK K hHeld
      try simp only [Act.put]
      refine wpAnyH_ready (rs := [7]) (by kernel_rfl) (by simp) ?_
      refine AllReadyH.cons rfl (fun K hK => ?_) AllReadyH.nil
      simp only [List.getElem_toArray, List.getElem_cons_succ, List.getElem_cons_zero]
      refine step_storeWhole (a := ⟨_, []⟩) rfl (.tmp 6) (.tmp 10) rfl [.int .u64 ya, .int .u64 yb, .int .u64 yc] sizeA (b := c20) h6_27 rfl (by intro v hv; simp at hv; rcases hv with rfl | rfl | rfl <;> rfl) (by simp [Act.eval]) (by simp [Act.eval]) ?_
      intro w28 hb28 hu28 hd28
      have s28 := six_upd hu28 (by omega) s27
      have g28 := grew_upd g27 hu28 (by omega) hd28
      clear hd28
      have h5_28 := hu28.at hb27 (by simpa using ne25)
      refine hK.out _ _ s28 (fun hHeld => ?_)
      clear hK K hHeld
      try simp only [Act.put]
      refine wpAnyH_done (by kernel_rfl) ?_ _
      refine NoPanic.normal ?_
      go_wp2_with fail
      go_meet
      exact ⟨_, _, rfl, rfl, rd3 h5_28, rd3 hb28, HU.out.trans g28⟩
    refine AllReadyH.cons rfl (fun K hK => ?_) ?_
    · -- 4
      simp only [List.getElem_toArray, List.getElem_cons_succ, List.getElem_cons_zero]
      go_simp
      obtain ⟨c29, hc29⟩ : ∃ b, b = w0.heap.size := ⟨_, rfl⟩
      rw [← hc29]
      have ha29 := (heap_alloc w0 (.cells #[.int .u64 0, .int .u64 0, .int .u64 0] 191)).1
      rw [← hc29] at ha29
      have s29 := six_grew ((Grew.refl w0).alloc (.cells #[.int .u64 0, .int .u64 0, .int .u64 0] 191)) s0
      have g29 := g0.alloc (.cells #[.int .u64 0, .int .u64 0, .int .u64 0] 191)
      have lt29 : wB.heap.size ≤ c29 := by have := g0.upd.size; omega
      generalize hW29 : w0.alloc (.cells #[.int .u64 0, .int .u64 0, .int .u64 0] 191) = w29 at *
      clear hW29 hc29
      refine hK.out _ _ s29 (fun hHeld => ?_)
      clear hK K hHeld
      try simp only [Act.put]
      refine wpAnyH_ready (rs := [1, 5]) (by kernel_rfl) (by simp) ?_
      refine AllReadyH.cons rfl (fun K hK => ?_) ?_
      · -- 1
        simp only [List.getElem_toArray, List.getElem_cons_succ, List.getElem_cons_zero]
        go_simp
        go_at_call 132
        refine (hx.out _).mono ?_
        rintro e w30 ⟨rfl, hg30⟩
        have s30 := six_grew hg30 s29
        have g30 := g29.trans hg30
        have h5_30 := hg30.upd.at ha29 (by simp)
        go_simp
        refine hK.out _ _ s30 (fun hHeld => ?_)
        clear hK K hHeld
        try simp only [Act.put]
        refine wpAnyH_ready (rs := [3, 5]) (by kernel_rfl) (by simp) ?_
        refine AllReadyH.cons rfl (fun K hK => ?_) ?_
        · -- 3
          simp only [List.getElem_toArray, List.getElem_cons_succ, List.getElem_cons_zero]
          go_simp
          go_at_call 132
          refine (hy.out _).mono ?_
          rintro e w31 ⟨rfl, hg31⟩
          have s31 := six_grew hg31 s30
          have g31 := g30.trans hg31
          have h5_31 := hg31.upd.at h5_30 (by simp)
          go_simp
          refine hK.out _ _ s31 (fun hHeld => ?_)
          clear hK K hHeld
          try simp only [Act.put]
          refine wpAnyH_ready (rs := [5]) (by kernel_rfl) (by simp) ?_
          refine AllReadyH.cons rfl (fun K hK => ?_) AllReadyH.nil
          simp only [List.getElem_toArray, List.getElem_cons_succ, List.getElem_cons_zero]
          go_simp
          obtain ⟨c32, hc32⟩ : ∃ b, b = w31.heap.size := ⟨_, rfl⟩
          rw [← hc32]
          have ha32 := (heap_alloc w31 (.cells #[.int .u64 0, .int .u64 0, .int .u64 0] 191)).1
          rw [← hc32] at ha32
          have s32 := six_grew ((Grew.refl w31).alloc (.cells #[.int .u64 0, .int .u64 0, .int .u64 0] 191)) s31
          have g32 := g31.alloc (.cells #[.int .u64 0, .int .u64 0, .int .u64 0] 191)
          have h5_32 := ((Upd.refl [] w31).alloc (.cells #[.int .u64 0, .int .u64 0, .int .u64 0] 191)).at h5_31 (by simp)
          have lt32 : wB.heap.size ≤ c32 := by have := g31.upd.size; omega
          have ne32 : c32 ≠ c29 := by have := lt_of_block h5_31; omega
          generalize hW32 : w31.alloc (.cells #[.int .u64 0, .int .u64 0, .int .u64 0] 191) = w32 at *
          clear hW32 hc32
          refine hK.out _ _ s32 (fun hHeld => ?_)
          clear hK K hHeld
          try simp only [Act.put]
          refine wpAnyH_ready (rs := [6]) (by kernel_rfl) (by simp) ?_
          refine AllReadyH.cons rfl (fun K hK => ?_) AllReadyH.nil
          simp only [List.getElem_toArray, List.getElem_cons_succ, List.getElem_cons_zero]
          refine step_storeWhole (a := ⟨_, []⟩) rfl (.tmp 5) (.tmp 8) rfl [.int .u64 xa, .int .u64 xb, .int .u64 xc] sizeA (b := c29) h5_32 rfl (by intro v hv; simp at hv; rcases hv with rfl | rfl | rfl <;> rfl) (by simp [Act.eval]) (by simp [Act.eval]) ?_
          intro w33 hb33 hu33 hd33
          have s33 := six_upd hu33 (by omega) s32
          have g33 := grew_upd g32 hu33 (by omega) hd33
          clear hd33
          have h6_33 := hu33.at ha32 (by simpa using ne32)
          refine hK.out _ _ s33 (fun hHeld => ?_)
          clear hK K hHeld
          try simp only [Act.put]
          refine wpAnyH_ready (rs := [7]) (by kernel_rfl) (by simp) ?_
          refine AllReadyH.cons rfl (fun K hK => ?_) AllReadyH.nil
          simp only [List.getElem_toArray, List.getElem_cons_succ, List.getElem_cons_zero]
          refine step_storeWhole (a := ⟨_, []⟩) rfl (.tmp 6) (.tmp 10) rfl [.int .u64 ya, .int .u64 yb, .int .u64 yc] sizeA (b := c32) h6_33 rfl (by intro v hv; simp at hv; rcases hv with rfl | rfl | rfl <;> rfl) (by simp [Act.eval]) (by simp [Act.eval]) ?_
          intro w34 hb34 hu34 hd34
          have s34 := six_upd hu34 (by omega) s33
          have g34 := grew_upd g33 hu34 (by omega) hd34
          clear hd34
          have h5_34 := hu34.at hb33 (by simpa using ne32.symm)
          refine hK.out _ _ s34 (fun hHeld => ?_)
          clear hK K hHeld
          try simp only [Act.put]
          refine wpAnyH_done (by kernel_rfl) ?_ _
          refine NoPanic.normal ?_
          go_wp2_with fail
          go_meet
          exact ⟨_, _, rfl, rfl, rd3 h5_34, rd3 hb34, HU.out.trans g34⟩
        refine AllReadyH.cons rfl (fun K hK => ?_) AllReadyH.nil
        simp only [List.getElem_toArray, List.getElem_cons_succ, List.getElem_cons_zero]
        go_simp
        obtain ⟨c35, hc35⟩ : ∃ b, b = w30.heap.size := ⟨_, rfl⟩
        rw [← hc35]
        have ha35 := (heap_alloc w30 (.cells #[.int .u64 0, .int .u64 0, .int .u64 0] 191)).1
        rw [← hc35] at ha35
        have s35 := six_grew ((Grew.refl w30).alloc (.cells #[.int .u64 0, .int .u64 0, .int .u64 0] 191)) s30
        have g35 := g30.alloc (.cells #[.int .u64 0, .int .u64 0, .int .u64 0] 191)
        have h5_35 := ((Upd.refl [] w30).alloc (.cells #[.int .u64 0, .int .u64 0, .int .u64 0] 191)).at h5_30 (by simp)
        have lt35 : wB.heap.size ≤ c35 := by have := g30.upd.size; omega
        have ne35 : c35 ≠ c29 := by have := lt_of_block h5_30; omega
        generalize hW35 : w30.alloc (.cells #[.int .u64 0, .int .u64 0, .int .u64 0] 191) = w35 at *
        clear hW35 hc35
        refine hK.out _ _ s35 (fun hHeld => ?_)
        clear hK K hHeld
        try simp only [Act.put]
        refine wpAnyH_ready (rs := [3]) (by kernel_rfl) (by simp) ?_
        refine AllReadyH.cons rfl (fun K hK => ?_) AllReadyH.nil
        simp only [List.getElem_toArray, List.getElem_cons_succ, List.getElem_cons_zero]
        go_simp
        go_at_call 132
        refine (hy.out _).mono ?_
        rintro e w36 ⟨rfl, hg36⟩
        have s36 := six_grew hg36 s35
        have g36 := g35.trans hg36
        have h5_36 := hg36.upd.at h5_35 (by simp)
        have h6_36 := hg36.upd.at ha35 (by simp)
        go_simp
        refine hK.out _ _ s36 (fun hHeld => ?_)
        clear hK K hHeld
        try simp only [Act.put]
        refine wpAnyH_ready (rs := [6]) (by kernel_rfl) (by simp) ?_
        refine AllReadyH.cons rfl (fun K hK => ?_) AllReadyH.nil
        simp only [List.getElem_toArray, List.getElem_cons_succ, List.getElem_cons_zero]
        refine step_storeWhole (a := ⟨_, []⟩) rfl (.tmp 5) (.tmp 8) rfl [.int .u64 xa, .int .u64 xb, .int .u64 xc] sizeA (b := c29) h5_36 rfl (by intro v hv; simp at hv; rcases hv with rfl | rfl | rfl <;> rfl) (by simp [Act.eval]) (by simp [Act.eval]) ?_
        intro w37 hb37 hu37 hd37
        have s37 := six_upd hu37 (by omega) s36
        have g37 := grew_upd g36 hu37 (by omega) hd37
        clear hd37
        have h6_37 := hu37.at h6_36 (by simpa using ne35)
        refine hK.out _ _ s37 (fun hHeld => ?_)
        clear hK K hHeld
        try simp only [Act.put]
        refine wpAnyH_ready (rs := [7]) (by kernel_rfl) (by simp) ?_
        refine AllReadyH.cons rfl (fun K hK => ?_) AllReadyH.nil
        simp only [List.getElem_toArray, List.getElem_cons_succ, List.getElem_cons_zero]
        refine step_storeWhole (a := ⟨_, []⟩) rfl (.tmp 6) (.tmp 10) rfl [.int .u64 ya, .int .u64 yb, .int .u64 yc] sizeA (b := c35) h6_37 rfl (by intro v hv; simp at hv; rcases hv with rfl | rfl | rfl <;> rfl) (by simp [Act.eval]) (by simp [Act.eval]) ?_
        intro w38 hb38 hu38 hd38
        have s38 := six_upd hu38 (by omega) s37
        have g38 := grew_upd g37 hu38 (by omega) hd38
        clear hd38
        have h5_38 := hu38.at hb37 (by simpa using ne35.symm)
        refine hK.out _ _ s38 (fun hHeld => ?_)
        clear hK K hHeld
        try simp only [Act.put]
        refine wpAnyH_done (by kernel_rfl) ?_ _
        refine NoPanic.normal ?_
        go_wp2_with fail
        go_meet
        exact ⟨_, _, rfl, rfl, rd3 h5_38, rd3 hb38, HU.out.trans g38⟩
      refine AllReadyH.cons rfl (fun K hK => ?_) AllReadyH.nil
      simp only [List.getElem_toArray, List.getElem_cons_succ, List.getElem_cons_zero]
      go_simp
      obtain ⟨c39, hc39⟩ : ∃ b, b = w29.heap.size := ⟨_, rfl⟩
      rw [← hc39]
      have ha39 := (heap_alloc w29 (.cells #[.int .u64 0, .int .u64 0, .int .u64 0] 191)).1
      rw [← hc39] at ha39
      have s39 := six_grew ((Grew.refl w29).alloc (.cells #[.int .u64 0, .int .u64 0, .int .u64 0] 191)) s29
      have g39 := g29.alloc (.cells #[.int .u64 0, .int .u64 0, .int .u64 0] 191)
      have h5_39 := ((Upd.refl [] w29).alloc (.cells #[.int .u64 0, .int .u64 0, .int .u64 0] 191)).at ha29 (by simp)
      have lt39 : wB.heap.size ≤ c39 := by have := g29.upd.size; omega
      have ne39 : c39 ≠ c29 := by have := lt_of_block ha29; omega
      generalize hW39 : w29.alloc (.cells #[.int .u64 0, .int .u64 0, .int .u64 0] 191) = w39 at *
      clear hW39 hc39
      refine hK.out _ _ s39 (fun hHeld => ?_)
      clear hK K hHeld
      try simp only [Act.put]
      refine wpAnyH_ready (rs := [1]) (by kernel_rfl) (by simp) ?_
      refine AllReadyH.cons rfl (fun K hK => ?_) AllReadyH.nil
      simp only [List.getElem_toArray, List.getElem_cons_succ, List.getElem_cons_zero]
      go_simp
      go_at_call 132
      refine (hx.out _).mono ?_
      rintro e w40 ⟨rfl, hg40⟩
      have s40 := six_grew hg40 s39
      have g40 := g39.trans hg40
      have h5_40 := hg40.upd.at h5_39 (by simp)
      have h6_40 := hg40.upd.at ha39 (by simp)
      go_simp
      refine hK.out _ _ s40 (fun hHeld => ?_)
      clear hK K hHeld
      try simp only [Act.put]
      refine wpAnyH_ready (rs := [3]) (by kernel_rfl) (by simp) ?_
      refine AllReadyH.cons rfl (fun K hK => ?_) AllReadyH.nil
      simp only [List.getElem_toArray, List.getElem_cons_succ, List.getElem_cons_zero]
      go_simp
      go_at_call 132
      refine (hy.out _).mono ?_
      rintro e w41 ⟨rfl, hg41⟩
      have s41 := six_grew hg41 s40
      have g41 := g40.trans hg41
      have h5_41 := hg41.upd.at h5_40 (by simp)
      have h6_41 := hg41.upd.at h6_40 (by simp)
      go_simp
      refine hK.out _ _ s41 (fun hHeld => ?_)
      clear hK K hHeld
      try simp only [Act.put]
      refine wpAnyH_ready (rs := [6]) (by kernel_rfl) (by simp) ?_
      refine AllReadyH.cons rfl (fun K hK => ?_) AllReadyH.nil
      simp only [List.getElem_toArray, List.getElem_cons_succ, List.getElem_cons_zero]
      refine step_storeWhole (a := ⟨_, []⟩) rfl (.tmp 5) (.tmp 8) rfl [.int .u64 xa, .int .u64 xb, .int .u64 xc] sizeA (b := c29) h5_41 rfl (by intro v hv; simp at hv; rcases hv with rfl | rfl | rfl <;> rfl) (by simp [Act.eval]) (by simp [Act.eval]) ?_
      intro w42 hb42 hu42 hd42
      have s42 := six_upd hu42 (by omega) s41
      have g42 := grew_upd g41 hu42 (by omega) hd42
      clear hd42
      have h6_42 := hu42.at h6_41 (by simpa using ne39)
      refine hK.out _ _ s42 (fun hHeld => ?_)
      clear hK K hHeld
      try simp only [Act.put]
      refine wpAnyH_ready (rs := [7]) (by kernel_rfl) (by simp) ?_
      refine AllReadyH.cons rfl (fun K hK => ?_) AllReadyH.nil
      simp only [List.getElem_toArray, List.getElem_cons_succ, List.getElem_cons_zero]
      refine step_storeWhole (a := ⟨_, []⟩) rfl (.tmp 6) (.tmp 10) rfl [.int .u64 ya, .int .u64 yb, .int .u64 yc] sizeA (b := c39) h6_42 rfl (by intro v hv; simp at hv; rcases hv with rfl | rfl | rfl <;> rfl) (by simp [Act.eval]) (by simp [Act.eval]) ?_
      intro w43 hb43 hu43 hd43
      have s43 := six_upd hu43 (by omega) s42
      have g43 := grew_upd g42 hu43 (by omega) hd43
      clear hd43
      have h5_43 := hu43.at hb42 (by simpa using ne39.symm)
      refine hK.out _ _ s43 (fun hHeld => ?_)
      clear hK K hHeld
      try simp only [Act.put]
      refine wpAnyH_done (by kernel_rfl) ?_ _
      refine NoPanic.normal ?_
      go_wp2_with fail
      go_meet
      exact ⟨_, _, rfl, rfl, rd3 h5_43, rd3 hb43, HU.out.trans g43⟩
    refine AllReadyH.cons rfl (fun K hK => ?_) AllReadyH.nil
    simp only [List.getElem_toArray, List.getElem_cons_succ, List.getElem_cons_zero]
    go_simp
    obtain ⟨c44, hc44⟩ : ∃ b, b = w0.heap.size := ⟨_, rfl⟩
    rw [← hc44]
    have ha44 := (heap_alloc w0 (.cells #[.int .u64 0, .int .u64 0, .int .u64 0] 191)).1
    rw [← hc44] at ha44
    have s44 := six_grew ((Grew.refl w0).alloc (.cells #[.int .u64 0, .int .u64 0, .int .u64 0] 191)) s0
    have g44 := g0.alloc (.cells #[.int .u64 0, .int .u64 0, .int .u64 0] 191)
    have lt44 : wB.heap.size ≤ c44 := by have := g0.upd.size; omega
    generalize hW44 : w0.alloc (.cells #[.int .u64 0, .int .u64 0, .int .u64 0] 191) = w44 at *
    clear hW44 hc44
    refine hK.out _ _ s44 (fun hHeld => ?_)
    clear hK K hHeld
    try simp only [Act.put]
    refine wpAnyH_ready (rs := [1, 4]) (by kernel_rfl) (by simp) ?_
    refine AllReadyH.cons rfl (fun K hK => ?_) ?_
    · -- 1
      simp only [List.getElem_toArray, List.getElem_cons_succ, List.getElem_cons_zero]
      go_simp
      go_at_call 132
      refine (hx.out _).mono ?_
      rintro e w45 ⟨rfl, hg45⟩
      have s45 := six_grew hg45 s44
      have g45 := g44.trans hg45
      have h6_45 := hg45.upd.at ha44 (by simp)
      go_simp
      refine hK.out _ _ s45 (fun hHeld => ?_)
      clear hK K hHeld
      try simp only [Act.put]
      refine wpAnyH_ready (rs := [3, 4]) (by kernel_rfl) (by simp) ?_
      refine AllReadyH.cons rfl (fun K hK => ?_) ?_
      · -- 3
        simp only [List.getElem_toArray, List.getElem_cons_succ, List.getElem_cons_zero]
        go_simp
        go_at_call 132
        refine (hy.out _).mono ?_
        rintro e w46 ⟨rfl, hg46⟩
        have s46 := six_grew hg46 s45
        have g46 := g45.trans hg46
        have h6_46 := hg46.upd.at h6_45 (by simp)
        go_simp
        refine hK.out _ _ s46 (fun hHeld => ?_)
        clear hK K hHeld
        try simp only [Act.put]
        refine wpAnyH_ready (rs := [4]) (by kernel_rfl) (by simp) ?_
        refine AllReadyH.cons rfl (fun K hK => ?_) AllReadyH.nil
        simp only [List.getElem_toArray, List.getElem_cons_succ, List.getElem_cons_zero]
        go_simp
        obtain ⟨c47, hc47⟩ : ∃ b, b = w46.heap.size := ⟨_, rfl⟩
        rw [← hc47]
        have ha47 := (heap_alloc w46 (.cells #[.int .u64 0, .int .u64 0, .int .u64 0] 191)).1
        rw [← hc47] at ha47
        have s47 := six_grew ((Grew.refl w46).alloc (.cells #[.int .u64 0, .int .u64 0, .int .u64 0] 191)) s46
        have g47 := g46.alloc (.cells #[.int .u64 0, .int .u64 0, .int .u64 0] 191)
        have h6_47 := ((Upd.refl [] w46).alloc (.cells #[.int .u64 0, .int .u64 0, .int .u64 0] 191)).at h6_46 (by simp)
        have lt47 : wB.heap.size ≤ c47 := by have := g46.upd.size; omega
        have ne47 : c47 ≠ c44 := by have := lt_of_block h6_46; omega
        generalize hW47 : w46.alloc (.cells #[.int .u64 0, .int .u64 0, .int .u64 0] 191) = w47 at *
        clear hW47 hc47
        refine hK.out _ _ s47 (fun hHeld => ?_)
        clear hK K hHeld
        try simp only [Act.put]
        refine wpAnyH_ready (rs := [6]) (by kernel_rfl) (by simp) ?_
        refine AllReadyH.cons rfl (fun K hK => ?_) AllReadyH.nil
        simp only [List.getElem_toArray, List.getElem_cons_succ, List.getElem_cons_zero]
        refine step_storeWhole (a := ⟨_, []⟩) rfl (.tmp 5) (.tmp 8) rfl [.int .u64 xa, .int .u64 xb, .int .u64 xc] sizeA (b := c47) ha47 rfl (by intro v hv; simp at hv; rcases hv with rfl | rfl | rfl <;> rfl) (by simp [Act.eval]) (by simp [Act.eval]) ?_
        intro w48 hb48 hu48 hd48
        have s48 := six_upd hu48 (by omega) s47
        have g48 := grew_upd g47 hu48 (by omega) hd48
        clear hd48
        have h6_48 := hu48.at h6_47 (by simpa using ne47.symm)
        refine hK.out _ _ s48 (fun hHeld => ?_)
        clear hK K hHeld
        try simp only [Act.put]
        refine wpAnyH_ready (rs := [7]) (by kernel_rfl) (by simp) ?_
        refine AllReadyH.cons rfl (fun K hK => ?_) AllReadyH.nil
        simp only [List.getElem_toArray, List.getElem_cons_succ, List.getElem_cons_zero]
        refine step_storeWhole (a := ⟨_, []⟩) rfl (.tmp 6) (.tmp 10) rfl [.int .u64 ya, .int .u64 yb, .int .u64 yc] sizeA (b := c44) h6_48 rfl (by intro v hv; simp at hv; rcases hv with rfl | rfl | rfl <;> rfl) (by simp [Act.eval]) (by simp [Act.eval]) ?_
        intro w49 hb49 hu49 hd49
        have s49 := six_upd hu49 (by omega) s48
        have g49 := grew_upd g48 hu49 (by omega) hd49
        clear hd49
        have h5_49 := hu49.at hb48 (by simpa using ne47)
        refine hK.out _ _ s49 (fun hHeld => ?_)
        clear hK K hHeld
        try simp only [Act.put]
        refine wpAnyH_done (by kernel_rfl) ?_ _
        refine NoPanic.normal ?_
        go_wp2_with fail
        go_meet
        exact ⟨_, _, rfl, rfl, rd3 h5_49, rd3 hb49, HU.out.trans g49⟩
      refine AllReadyH.cons rfl (fun K hK => ?_) AllReadyH.nil
      simp only [List.getElem_toArray, List.getElem_cons_succ, List.getElem_cons_zero]
      go_simp
      obtain ⟨c50, hc50⟩ : ∃ b, b = w45.heap.size := ⟨_, rfl⟩
      rw [← hc50]
      have ha50 := (heap_alloc w45 (.cells #[.int .u64 0, .int .u64 0, .int .u64 0] 191)).1
      rw [← hc50] at ha50
      have s50 := six_grew ((Grew.refl w45).alloc (.cells #[.int .u64 0, .int .u64 0, .int .u64 0] 191)) s45
      have g50 := g45.alloc (.cells #[.int .u64 0, .int .u64 0, .int .u64 0] 191)
      have h6_50 := ((Upd.refl [] w45).alloc (.cells #[.int .u64 0, .int .u64 0, .int .u64 0] 191)).at h6_45 (by simp)
      have lt50 : wB.heap.size ≤ c50 := by have := g45.upd.size; omega
      have ne50 : c50 ≠ c44 := by have := lt_of_block h6_45; omega
      generalize hW50 : w45.alloc (.cells #[.int .u64 0, .int .u64 0, .int .u64 0] 191) = w50 at *
      clear hW50 hc50
      refine hK.out _ _ s50 (fun hHeld => ?_)
      clear hK K hHeld
      try simp only [Act.put]
      refine wpAnyH_ready (rs := [3]) (by kernel_rfl) (by simp) ?_
      refine AllReadyH.cons rfl (fun K hK => ?_) AllReadyH.nil
      simp only [List.getElem_toArray, List.getElem_cons_succ, List.getElem_cons_zero]
      go_simp
      go_at_call 132
      refine (hy.out _).mono ?_
      rintro e w51 ⟨rfl, hg51⟩
      have s51 := six_grew hg51 s50
      have g51 := g50.trans hg51
      have h5_51 := hg51.upd.at ha50 (by simp)
      have h6_51 := hg51.upd.at h6_50 (by simp)
      go_simp
      refine hK.out _ _ s51 (fun hHeld => ?_)
      clear hK K hHeld
      try simp only [Act.put]
      refine wpAnyH_ready (rs := [6]) (by kernel_rfl) (by simp) ?_
      refine AllReadyH.cons rfl (fun K hK => ?_) AllReadyH.nil
      simp only [List.getElem_toArray, List.getElem_cons_succ, List.getElem_cons_zero]
      refine step_storeWhole (a := ⟨_, []⟩) rfl (.tmp 5) (.tmp 8) rfl [.int .u64 xa, .int .u64 xb, .int .u64 xc] sizeA (b := c50) h5_51 rfl (by intro v hv; simp at hv; rcases hv with rfl | rfl | rfl <;> rfl) (by simp [Act.eval]) (by simp [Act.eval]) ?_
      intro w52 hb52 hu52 hd52
      have s52 := six_upd hu52 (by omega) s51
      have g52 := grew_upd g51 hu52 (by omega) hd52
      clear hd52
      have h6_52 := hu52.at h6_51 (by simpa using ne50.symm)
      refine hK.out _ _ s52 (fun hHeld => ?_)
      clear hK K hHeld
      try simp only [Act.put]
      refine wpAnyH_ready (rs := [7]) (by kernel_rfl) (by simp) ?_
      refine AllReadyH.cons rfl (fun K hK => ?_) AllReadyH.nil
      simp only [List.getElem_toArray, List.getElem_cons_succ, List.getElem_cons_zero]
      refine step_storeWhole (a := ⟨_, []⟩) rfl (.tmp 6) (.tmp 10) rfl [.int .u64 ya, .int .u64 yb, .int .u64 yc] sizeA (b := c44) h6_52 rfl (by intro v hv; simp at hv; rcases hv with rfl | rfl | rfl <;> rfl) (by simp [Act.eval]) (by simp [Act.eval]) ?_
      intro w53 hb53 hu53 hd53
      have s53 := six_upd hu53 (by omega) s52
      have g53 := grew_upd g52 hu53 (by omega) hd53
      clear hd53
      have h5_53 := hu53.at hb52 (by simpa using ne50)
      refine hK.out _ _ s53 (fun hHeld => ?_)
      clear hK K hHeld
      try simp only [Act.put]
      refine wpAnyH_done (by kernel_rfl) ?_ _
      refine NoPanic.normal ?_
      go_wp2_with fail
      go_meet
      exact ⟨_, _, rfl, rfl, rd3 h5_53, rd3 hb53, HU.out.trans g53⟩
    refine AllReadyH.cons rfl (fun K hK => ?_) AllReadyH.nil
    simp only [List.getElem_toArray, List.getElem_cons_succ, List.getElem_cons_zero]
    go_simp
    obtain ⟨c54, hc54⟩ : ∃ b, b = w44.heap.size := ⟨_, rfl⟩
    rw [← hc54]
    have ha54 := (heap_alloc w44 (.cells #[.int .u64 0, .int .u64 0, .int .u64 0] 191)).1
    rw [← hc54] at ha54
    have s54 := six_grew ((Grew.refl w44).alloc (.cells #[.int .u64 0, .int .u64 0, .int .u64 0] 191)) s44
    have g54 := g44.alloc (.cells #[.int .u64 0, .int .u64 0, .int .u64 0] 191)
    have h6_54 := ((Upd.refl [] w44).alloc (.cells #[.int .u64 0, .int .u64 0, .int .u64 0] 191)).at ha44 (by simp)
    have lt54 : wB.heap.size ≤ c54 := by have := g44.upd.size; omega
    have ne54 : c54 ≠ c44 := by have := lt_of_block ha44; omega
    generalize hW54 : w44.alloc (.cells #[.int .u64 0, .int .u64 0, .int .u64 0] 191) = w54 at *
    clear hW54 hc54
    refine hK.out _ _ s54 (fun hHeld => ?_)
    clear hK K hHeld
    try simp only [Act.put]
    refine wpAnyH_ready (rs := [1]) (by kernel_rfl) (by simp) ?_
    refine AllReadyH.cons rfl (fun K hK => ?_) AllReadyH.nil
    simp only [List.getElem_toArray, List.getElem_cons_succ, List.getElem_cons_zero]
    go_simp
    go_at_call 132
    refine (hx.out _).mono ?_
    rintro e w55 ⟨rfl, hg55⟩
    have s55 := six_grew hg55 s54
    have g55 := g54.trans hg55
    have h5_55 := hg55.upd.at ha54 (by simp)
    have h6_55 := hg55.upd.at h6_54 (by simp)
    go_simp
    refine hK.out _ _ s55 (fun hHeld => ?_)
    clear hK K hHeld
    try simp only [Act.put]
    refine wpAnyH_ready (rs := [3]) (by kernel_rfl) (by simp) ?_
    refine AllReadyH.cons rfl (fun K hK => ?_) AllReadyH.nil
    simp only [List.getElem_toArray, List.getElem_cons_succ, List.getElem_cons_zero]
    go_simp
    go_at_call 132
    refine (hy.out _).mono ?_
    rintro e w56 ⟨rfl, hg56⟩
    have s56 := six_grew hg56 s55
    have g56 := g55.trans hg56
    have h5_56 := hg56.upd.at h5_55 (by simp)
    have h6_56 := hg56.upd.at h6_55 (by simp)
    go_simp
    refine hK.out _ _ s56 (fun hHeld => ?_)
    clear hK K hHeld
    try simp only [Act.put]
    refine wpAnyH_ready (rs := [6]) (by kernel_rfl) (by simp) ?_
    refine AllReadyH.cons rfl (fun K hK => ?_) AllReadyH.nil
    simp only [List.getElem_toArray, List.getElem_cons_succ, List.getElem_cons_zero]
    refine step_storeWhole (a := ⟨_, []⟩) rfl (.tmp 5) (.tmp 8) rfl [.int .u64 xa, .int .u64 xb, .int .u64 xc] sizeA (b := c54) h5_56 rfl (by intro v hv; simp at hv; rcases hv with rfl | rfl | rfl <;> rfl) (by simp [Act.eval]) (by simp [Act.eval]) ?_
    intro w57 hb57 hu57 hd57
    have s57 := six_upd hu57 (by omega) s56
    have g57 := grew_upd g56 hu57 (by omega) hd57
    clear hd57
    have h6_57 := hu57.at h6_56 (by simpa using ne54.symm)
    refine hK.out _ _ s57 (fun hHeld => ?_)
    clear hK K hHeld
    try simp only [Act.put]
    refine wpAnyH_ready (rs := [7]) (by kernel_rfl) (by simp) ?_
    refine AllReadyH.cons rfl (fun K hK => ?_) AllReadyH.nil
    simp only [List.getElem_toArray, List.getElem_cons_succ, List.getElem_cons_zero]
    refine step_storeWhole (a := ⟨_, []⟩) rfl (.tmp 6) (.tmp 10) rfl [.int .u64 ya, .int .u64 yb, .int .u64 yc] sizeA (b := c44) h6_57 rfl (by intro v hv; simp at hv; rcases hv with rfl | rfl | rfl <;> rfl) (by simp [Act.eval]) (by simp [Act.eval]) ?_
    intro w58 hb58 hu58 hd58
    have s58 := six_upd hu58 (by omega) s57
    have g58 := grew_upd g57 hu58 (by omega) hd58
    clear hd58
    have h5_58 := hu58.at hb57 (by simpa using ne54)
    refine hK.out _ _ s58 (fun hHeld => ?_)
    clear hK K hHeld
    try simp only [Act.put]
    refine wpAnyH_done (by kernel_rfl) ?_ _
    refine NoPanic.normal ?_
    go_wp2_with fail
    go_meet
    exact ⟨_, _, rfl, rfl, rd3 h5_58, rd3 hb58, HU.out.trans g58⟩
  case rest =>
    obtain ⟨bx, b2, rfl, rfl, hrx, hry, hg⟩ := hcut
    have hc := Lib.hid (fun W hW1 hW2 => sliceCmp_any W (some ⟨bx, 0, none⟩) (some ⟨b2, 0, none⟩) 3 3 [xa, xb, xc] [ya, yb, yc] rfl (by simp) hW1 hW2)
    have HX := Lib.hid hrx
    have HY := Lib.hid hry
    have HG := Lib.hid hg
    clear hrx hry hg hx hy
    go_upto_region 2 with fail
    go_quiet (exact Calls.quiet_of_same ((hc.out _ (show Rd 1 eeU (wc.drewN _) _ _ from HX.out) (show Rd 1 eeU (wc.drewN _) _ _ from HY.out)).mono fun e w' h => ⟨h.1, h.2.symm⟩))
    go_wp2_with fail
    go_ret
    exact ⟨rfl, HG.out.drewN _⟩
end Go.Proofs.Ytcdmdpgfadopcaa
