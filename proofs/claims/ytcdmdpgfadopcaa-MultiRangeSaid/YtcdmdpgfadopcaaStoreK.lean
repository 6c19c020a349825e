/-
  Own base, program-free: a whole struct stored into a list, where the order is drawn; copy of nothing.
-/
import Derived.Test.YtcdmdpgfadopcaaBag
namespace Go.Slu
open Go.MapKept Go.RowKit
section
variable {P : Program} {ops : Array Oper} {Q : Exit → Act → World → Prop} {KK : Act → World → Prop} {E0 : Prop} {rest : List Oper} {o : Oper} {a : Act} {w : World}
variable {t e tsl : TypeId} {k bytes : Nat} {α : Type} {ee : α → List Value}
theorem step_storeK (hg : o.guard = none) (p x : Operand) (hop : o.op = .store t p x) (E : Elem P tsl e k bytes ee) (hsz : ∀ W, (Go.sizeOf t).run P W = .ok k W) {g c i : Nat} {xs : List α} (h : OwnAt e k ee w (some ⟨g, 0, none⟩) c xs) (x0 : α) (hi : i < xs.length)
    (hp : a.eval p = .pointer (some ⟨g, i * k, none⟩)) (hx : a.eval x = .agg (ee x0).toArray)
    (hK : ∀ w', OwnAt e k ee w' (some ⟨g, 0, none⟩) c (xs.set i x0) → Upd [g] w w' → KK (a.put o.dst undef) w') : if Region.wanted o (yielded ops a.tmps) = true then Oper.wp P o a w KK Q else E0 := by
  obtain ⟨w', h1, h2, h3⟩ := h.setK (t := t) E x0 hi hsz
  exact step_run_skip hg (by simp [execOp, hop, hp, hx, h1, Result.andThen]) (hK _ h2 h3)
theorem wpList_storeK2 (hg : o.guard = none) (p x : Operand) (hop : o.op = .store t p x) (E : Elem P tsl e k bytes ee) (hsz : ∀ W, (Go.sizeOf t).run P W = .ok k W) {g c i : Nat} {xs : List α} (h : OwnAt e k ee w (some ⟨g, 0, none⟩) c xs) (x0 : α) (hi : i < xs.length)
    (hp : a.eval p = .pointer (some ⟨g, i * k, none⟩)) (hx : a.eval x = .agg (ee x0).toArray)
    (hK : ∀ w', OwnAt e k ee w' (some ⟨g, 0, none⟩) c (xs.set i x0) → Upd [g] w w' → wpList P ops Q rest (a.put o.dst undef) w') : wpList P ops Q (o :: rest) a w := by
  obtain ⟨w', h1, h2, h3⟩ := h.setK (t := t) E x0 hi hsz
  exact wpList_run_skip hg (by simp [execOp, hop, hp, hx, h1, Result.andThen]) (hK _ h2 h3)
/-- 'copy' into nothing -/
theorem run_copy_zero (El : Elem P t e k bytes ee) (ty : TypeId) (d s : Option Addr) (dc sl sc : Nat) (W : World) : (Builtin.copy_ #[t, t] ty #[.slice d 0 dc, .slice s sl sc]).run P W = .ok (.int .i64 0) W := by
  obtain ⟨i, z, hi, hz, hz0, hz1, hz2⟩ := El.info
  have h4 := El.ht
  simp [Builtin.copy_, run_underlying h4, Result.andThen, sizeOf, typeInfo, hi, Builtin.lenOf, Builtin.firstCells, go_sem]
  cases d <;> cases s <;> simp [go_sem, loadCells, storeCells, goInt, Result.andThen]
end
end Go.Slu
