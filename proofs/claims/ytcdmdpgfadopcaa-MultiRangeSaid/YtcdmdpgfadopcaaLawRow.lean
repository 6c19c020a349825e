/-
  sluicelaw04: what the rows share: a step as data.
-/
import Derived.Test.YtcdmdpgfadopcaaLawTally8
import Derived.Test.YtcdmdpgfadopcaaRows
import Derived.JoinedOf
namespace Go.Proofs.Ytcdmdpgfadopcaa
open Go.Slu Go.MapKept Go.RowKit Go.ChangeShapes Go.WideShapes Go.ChangeAt

theorem ownKn : ownKnob Try.prog.godebug = none := by kernel_rfl
theorem laidOutP : laidOutB Try.prog = true := by kernel_rfl

theorem i64_of_wf {n : Int} (h : (Lit.int .i64 n).wf = true) : -9223372036854775808 ≤ n ∧ n ≤ 9223372036854775807 := by
  simpa [Lit.wf, IntKind.min, IntKind.max, IntKind.signed, IntKind.bits] using h
theorem list5 {α : Type} {l : List α} (h : l.length = 5) : ∃ a b c d e, l = [a, b, c, d, e] := by
  match l, h with
  | [a, b, c, d, e], _ => exact ⟨a, b, c, d, e, rfl⟩
theorem cellsOp : Try.prog.cellsOf 34 = 5 := by kernel_rfl
theorem cells3 : Try.prog.cellsOf 3 = 1 := by kernel_rfl
theorem cells9 : Try.prog.cellsOf 9 = 1 := by kernel_rfl
theorem cells2 : Try.prog.cellsOf 2 = 1 := by kernel_rfl

set_option maxRecDepth 100000 in
theorem dec_op {H : Type} {enc : TypeId × Value → H} {w : World} {base : Nat} {sp : Nat → Bool} {hd : Bool} (n : Nat) (cs : List Value) (x : DataW H × List MemPlace) (h : DataW.trod enc Try.prog w base sp hd n 34 cs = some x) : ∃ y : OpS, cs = eeO y := by
  obtain ⟨xs, m, _, _, hl, hxl, hf⟩ := DataW.trod_struct Try.underlying34 h
  rw [cellsOp] at hl
  obtain ⟨c0, c1, c2, c3, c4, rfl⟩ := list5 hl
  obtain ⟨x0, x1, x2, x3, x4, rfl⟩ := list5 (show xs.length = 5 from hxl)
  have h0 := hf 0 _ rfl
  have h1 := hf 1 _ rfl
  have h2 := hf 2 _ rfl
  have h3 := hf 3 _ rfl
  have h4 := hf 4 _ rfl
  obtain ⟨n0, e0, _, w0⟩ := DataW.trod_int Try.underlying3 h0
  obtain ⟨n1, e1, _, w1⟩ := DataW.trod_int Try.underlying3 h1
  obtain ⟨n2, e2, _, w2⟩ := DataW.trod_int Try.underlying3 h2
  obtain ⟨s3, e3, _, w3⟩ := DataW.trod_string Try.underlying9 h3
  obtain ⟨n4, e4, _, w4⟩ := DataW.trod_int Try.underlying2 h4
  cases e0; cases e1; cases e2; cases e3; cases e4
  exact ⟨⟨n0, n1, n2, ⟨s3, w3⟩, n4, i64_of_wf w1, i64_of_wf w2, i64_of_wf w4⟩, rfl⟩

theorem UpdB.below {w w' : World} (h : UpdB w.heap.size w w') : Below w.heap.size w w' := by
  obtain ⟨X, hX, hu⟩ := h
  exact ⟨hu.os, hu.tape, hu.output, hu.size, fun k hk => hu.block k hk (fun hx => by have := hX k hx; omega)⟩

end Go.Proofs.Ytcdmdpgfadopcaa
