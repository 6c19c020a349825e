/-
  multi: chains of times, as Multi uses them: New, List, Clear, Covers.
-/
import Derived.Test.YtcdmdpgfadopcaaTimeKeys
import Derived.Test.YtcdmdpgfadopcaaAhead
import Derived.Test.YtcdmdpgfadopcaaMapEntry
import Derived.Test.YtcdmdpgfadopcaaBag
import Derived.Laws.Cover3
namespace Go.Proofs.Ytcdmdpgfadopcaa
open Go.Slu Go.MapKept Go.RowKit Go.Sort

abbrev fAhead : Value := .func (.func 107) #[] #[]
abbrev fTold : Value := .func (.func 108) #[] #[]
set_option maxRecDepth 20000 in
theorem told_any (x y : TimeK) (w : World) : Calls Try.prog 108 #[ekT x, ekT y] w fun e w' => e = .returned (.bool (decide (cmpT x y < 0))) ∧ Upd [] w w' := by
  have hc := Lib.hid (fun W => stampCompare_any x y W)
  have hu := ((Upd.refl [] w).alloc (.cells #[.int .u64 x.a, .int .u64 x.b, .int .u64 x.c] 50)).alloc (.cells #[.int .u64 y.a, .int .u64 y.b, .int .u64 y.c] 50)
  have hs : (w.alloc (.cells #[.int .u64 x.a, .int .u64 x.b, .int .u64 x.c] 50)).heap.size = w.heap.size + 1 := by simp
  have hk := fun (p : Addr) v (h : (w.alloc (.cells #[.int .u64 x.a, .int .u64 x.b, .int .u64 x.c] 50)).cell? p = some v) => ((Upd.refl [] (w.alloc (.cells #[.int .u64 x.a, .int .u64 x.b, .int .u64 x.c] 50))).alloc (.cells #[.int .u64 y.a, .int .u64 y.b, .int .u64 y.c] 50)).cellS h (by simp)
  have x0 := cell_new w #[.int .u64 x.a, .int .u64 x.b, .int .u64 x.c] 50 0 (v := .int .u64 x.a) rfl
  have x1 := cell_new w #[.int .u64 x.a, .int .u64 x.b, .int .u64 x.c] 50 1 (v := .int .u64 x.b) rfl
  have x2 := cell_new w #[.int .u64 x.a, .int .u64 x.b, .int .u64 x.c] 50 2 (v := .int .u64 x.c) rfl
  replace x0 := hk _ _ x0
  replace x1 := hk _ _ x1
  replace x2 := hk _ _ x2
  have y0 := cell_new (w.alloc (.cells #[.int .u64 x.a, .int .u64 x.b, .int .u64 x.c] 50)) #[.int .u64 y.a, .int .u64 y.b, .int .u64 y.c] 50 0 (v := .int .u64 y.a) rfl
  have y1 := cell_new (w.alloc (.cells #[.int .u64 x.a, .int .u64 x.b, .int .u64 x.c] 50)) #[.int .u64 y.a, .int .u64 y.b, .int .u64 y.c] 50 1 (v := .int .u64 y.b) rfl
  have y2 := cell_new (w.alloc (.cells #[.int .u64 x.a, .int .u64 x.b, .int .u64 x.c] 50)) #[.int .u64 y.a, .int .u64 y.b, .int .u64 y.c] 50 2 (v := .int .u64 y.c) rfl
  rw [hs] at y0 y1 y2
  clear hs hk
  have HU := Lib.hid hu
  clear hu
  generalize cmpT x y = r at hc ⊢
  go_enter Try.func108, Try.ntmps108
  go_upto_region 1 with fail
  generalize (w.alloc (.cells #[.int .u64 x.a, .int .u64 x.b, .int .u64 x.c] 50)).alloc (.cells #[.int .u64 y.a, .int .u64 y.b, .int .u64 y.c] 50) = w2 at *
  go_wp2_with (go_at_call 105; refine (hc.out _).mono ?_; rintro e w3 ⟨rfl, hg⟩; have HG := Lib.hid hg; clear hg)
  go_ret
  exact ⟨rfl, HU.out.trans HG.out.upd⟩

/-- BLOCK cb IS A CHAIN of times: the list l. -/
structure ChainAt (w : World) (cb : Nat) (a : Option Addr) (c : Nat) (l : List TimeK) : Prop where
  blk : w.heap[cb]? = some (.cells #[fAhead, fTold, .slice a l.length c] 196 (0, 0))
  own : OwnAt 50 3 eeT w a c l
section
variable {w w' : World} {cb : Nat} {a : Option Addr} {c : Nat} {l : List TimeK}
theorem ChainAt.c0 (h : ChainAt w cb a c l) : w.cell? ⟨cb, 0, none⟩ = some fAhead := by simp [World.cell?, h.blk]
theorem ChainAt.c1 (h : ChainAt w cb a c l) : w.cell? ⟨cb, 1, none⟩ = some fTold := by simp [World.cell?, h.blk]
theorem ChainAt.c2 (h : ChainAt w cb a c l) : w.cell? ⟨cb, 2, none⟩ = some (.slice a l.length c) := by simp [World.cell?, h.blk]
theorem ChainAt.keep {X : List Nat} (h : ChainAt w cb a c l) (hu : Upd X w w') (h1 : cb ∉ X) (h2 : ∀ b ∈ ablk a, b ∉ X) : ChainAt w' cb a c l := ⟨hu.at h.blk h1, h.own.keep hu h2⟩
theorem ChainAt.far (h : ChainAt w cb a c l) : ∀ b ∈ ablk a, b ≠ cb := fun b hb e => by
  rcases h.own.cases with ⟨h1, _, _⟩ | ⟨g, h1, _⟩
  · rw [h1] at hb; simp [ablk] at hb
  · have ho := h.own
    rw [h1] at ho hb
    obtain ⟨cur, hc, _⟩ := ho.block
    simp [ablk] at hb
    have := h.blk
    rw [← e, hb, hc] at this
    cases this
/-- behind 'chain.New' -/
def MadeC (w : World) (e : Ending) (w' : World) : Prop := e = .returned (.pointer (some ⟨w.heap.size, 0, none⟩)) ∧ ChainAt w' w.heap.size none 0 [] ∧ Upd [] w w'
theorem newC (w : World) : Calls Try.prog 106 #[fAhead, fTold] w (MadeC w) := by
  go_enter Try.func106, Try.ntmps106
  go_wp2_with fail
  go_ret
  exact ⟨rfl, ⟨(heap_alloc w _).1, OwnAt.nil _ _ _ _⟩, (Upd.refl [] w).alloc _⟩
/-- a list told in new memory -/
def ToldT (l : List TimeK) (w : World) (e : Ending) (w' : World) : Prop :=
  ∃ a c, e = .returned (.slice a l.length c) ∧ OwnAt 50 3 eeT w' a c l ∧ (∀ b ∈ ablk a, w.heap.size ≤ b) ∧ Upd [] w w'
theorem eqNilT (a : Option Addr) (l c : Nat) (W : World) : (binOp .eql 111 (.slice a l c) (.slice none 0 0)).run Try.prog W = .ok (.bool a.isNone) W := by
  simp only [binOp]
  simp [run_equal_slice_nil W _ _ a l c Try.underlying111]
set_option maxRecDepth 20000 in
theorem cloneT (h : OwnAt 50 3 eeT w a c l) (hl : l.length ≤ 1000000000) : Calls Try.prog 140 #[.slice a l.length c] w (ToldT l w) := by
  rcases h.cases with ⟨rfl, rfl, rfl⟩ | ⟨g, rfl, _⟩
  · have hnil := eqNilT none 0 0
    go_enter Try.func140, Try.ntmps140
    go_wp2_with fail
    go_ret
    exact ⟨none, 0, rfl, OwnAt.nil _ _ _ _, by simp [ablk], Upd.refl _ _⟩
  · have H := Lib.hid ((h.keep ((Upd.refl [] w).alloc (.cells #[] 50)) (by simp)).rd elemTi.len)
    have hlit := Lib.hid (OwnAt.lit (e := 50) elemTi.len w [] (by simp [maxLen]) #[] rfl)
    have hnil := eqNilT (some ⟨g, 0, none⟩) l.length c
    clear h
    go_enter Try.func140, Try.ntmps140
    go_wp2_with (at_builtin; refine wpList_append_rep rfl _ _ 111 rfl elemTi (xs := []) (ys := l) (aa := some ⟨w.heap.size, 0, none⟩) (c := 0) (c2 := c) hlit.out H.out (by simp [Act.eval]) (by simp [Act.eval]) (by simp [maxLen]; omega) (by simp; omega) ?_; intro a' c' w4 ho hu hor _; have HO := Lib.hid ho; have HU := Lib.hid hu; have HOR := Lib.hid hor; clear ho hu hor)
    go_ret
    refine ⟨a', c', rfl, HO.out, fun b hb => ?_, ((Upd.refl [] w).alloc _).then HU.out (fun b hb hl => by simp [ablk] at hb; omega)⟩
    rcases HOR.out with e | e
    · rw [e] at hb; simp [ablk] at hb; omega
    · rw [e] at hb; simp [ablk] at hb; omega
set_option maxRecDepth 20000 in
theorem listC (h : ChainAt w cb a c l) (hl : l.length ≤ 1000000000) : Calls Try.prog 115 #[.pointer (some ⟨cb, 0, none⟩)] w (ToldT l w) := by
  have c2 := h.c2
  have hc := Lib.hid (cloneT h.own hl)
  clear h
  go_enter Try.func115, Try.ntmps115
  go_wp2_with (go_at_call 140; refine hc.out.mono ?_; rintro e w2 ⟨a2, c2', rfl, h2⟩; have H2 := Lib.hid h2; clear h2)
  go_ret
  exact ⟨a2, c2', rfl, H2.out⟩
theorem sizeTs (W : World) : (Go.sizeOf 111).run Try.prog W = .ok 1 W := size1 _ (by kernel_rfl) W
theorem clearC (h : ChainAt w cb a c l) : Calls Try.prog 116 #[.pointer (some ⟨cb, 0, none⟩)] w fun e w' => e = .returned (.tuple #[]) ∧ ChainAt w' cb none 0 [] ∧ Upd [cb] w w' := by
  have hb := h.blk
  clear h
  go_enter Try.func116, Try.ntmps116
  go_wp2_with (refine wpList_store1 (by rfl) _ _ (by rfl) sizeTs hb (i := 2) (by simp) (by simp [Act.eval, Act.put]) (by simp [Act.eval, Act.put]; rfl) (by rfl) ?_; intro w6 hb6 hu6)
  go_end0
  exact ⟨rfl, ⟨by simpa using hb6, OwnAt.nil _ _ _ _⟩, hu6⟩
end
end Go.Proofs.Ytcdmdpgfadopcaa
