/-
  Own base, program-free: the laws of the maps and slices of BaseMaps, BaseSlices at the operation, for the walk.
-/
import Derived.Test.YtcdmdpgfadopcaaBaseSlices
import Derived.Deep.RegionHeld3
import Derived.Deep.QuietTactic
import Derived.BigQuiet
import Derived.StillTailTactics
import Derived.Deep.LoopGhost
import Derived.Lib.Hide
import Derived.Maps.RangeWalk
namespace Go.Slu
open Go.MapKept Go.RowKit

section
variable {P : Program} {w : World} {ops : Array Oper} {rest : List Oper} {o : Oper} {a : Act} {Q : Exit → Act → World → Prop}

/-- An operation whose run is known. -/
theorem wpList_run {v : Value} {w' : World} (hg : o.guard = none) (hrun : (execOp a.eval o).run P w = .ok (.value v) w') (h : wpList P ops Q rest (a.put o.dst v) w') : wpList P ops Q (o :: rest) a w :=
  wpList_plain hg fun K hK => by
    unfold Oper.wp
    rw [hrun, Oper.upon_value]
    exact hK _ _ h

theorem wpList_run_skip {w' : World} (hg : o.guard = none) (hrun : (execOp a.eval o).run P w = .ok .skip w') (h : wpList P ops Q rest (a.put o.dst undef) w') : wpList P ops Q (o :: rest) a w :=
  wpList_plain hg fun K hK => by
    unfold Oper.wp
    rw [hrun, Oper.upon_skip]
    exact hK _ _ h

variable {kt : TypeId} {κ ν : Type} [DecidableEq κ] {ek : κ → Value} {ev : ν → Value} {b : Nat} {M : List (κ × ν)}

theorem wpList_lookup_rep (hg : o.guard = none) (m x : Operand) (t et : TypeId) (c : Bool) (hop : o.op = .lookup t m x c) (K : KeyOps P kt ek) (ht : P.underlying t = some (.map kt et)) {z : Value} (hz : ∀ w, (zeroValue et).run P w = .ok z w)
    (h : MapRep ek ev w b M) (y : κ) (hm : a.eval m = .map (some b)) (hx : a.eval x = ek y)
    (hK : wpList P ops Q rest (a.put o.dst (if c then .tuple #[((lk M y).map ev).getD z, .bool (lk M y).isSome] else ((lk M y).map ev).getD z)) w) : wpList P ops Q (o :: rest) a w :=
  wpList_run hg (by simp [execOp, hop, hm, hx, h.lookup_any K ht hz y c, Result.andThen]) hK

/-- the number at a key, 0 if there is none -/
def cnt (M : List (κ × Int)) (x : κ) : Int := (lk M x).getD 0
/-- a look-up in a map of int64 -/
theorem wpList_lookup_cnt {M : List (κ × Int)} (hg : o.guard = none) (m x : Operand) (t et : TypeId) (hop : o.op = .lookup t m x false) (K : KeyOps P kt ek) (ht : P.underlying t = some (.map kt et)) (hz : ∀ w, (zeroValue et).run P w = .ok (.int .i64 0) w)
    (h : MapRep ek (Value.int .i64) w b M) (y : κ) (hm : a.eval m = .map (some b)) (hx : a.eval x = ek y) (hK : wpList P ops Q rest (a.put o.dst (.int .i64 (cnt M y))) w) : wpList P ops Q (o :: rest) a w :=
  wpList_run hg (by
    have hv : ((lk M y).map (Value.int .i64)).getD (.int .i64 0) = .int .i64 (cnt M y) := by unfold cnt; cases lk M y <;> rfl
    simp [execOp, hop, hm, hx, h.lookup K ht hz y, hv, Result.andThen]) hK

theorem wpList_mapUpdate_rep (hg : o.guard = none) (m x v : Operand) (t et : TypeId) (hop : o.op = .mapUpdate t m x v) (K : KeyOps P kt ek) (ht : P.underlying t = some (.map kt et))
    (h : MapRep ek ev w b M) (y : κ) (u : ν) (hm : a.eval m = .map (some b)) (hx : a.eval x = ek y) (hv : a.eval v = ev u)
    (hK : ∀ w', MapRep ek ev w' b (put M y u) → Upd [b] w w' → wpList P ops Q rest (a.put o.dst undef) w') : wpList P ops Q (o :: rest) a w := by
  obtain ⟨w', hrun, h1, h2⟩ := h.update K ht y u
  exact wpList_run_skip hg (by simp [execOp, hop, hm, hx, hv, hrun, Result.andThen]) (hK w' h1 h2)

theorem wpList_delete_rep (hg : o.guard = none) (m x : Operand) (t et : TypeId) (hop : o.op = .call { callee := .builtin .delete, args := #[m, x], argTypes := #[t, kt] }) (K : KeyOps P kt ek) (ht : P.underlying t = some (.map kt et))
    (h : MapRep ek ev w b M) (y : κ) (hm : a.eval m = .map (some b)) (hx : a.eval x = ek y)
    (hK : ∀ w', MapRep ek ev w' b (del M y) → Upd [b] w w' → wpList P ops Q rest (a.put o.dst (.tuple #[])) w') : wpList P ops Q (o :: rest) a w := by
  obtain ⟨w', hrun, h1, h2⟩ := h.delete (ty := o.type) K ht y
  exact wpList_run hg (by simp [execOp, hop, resolve, invoke, builtin, hm, hx, hrun, Result.andThen]) (hK w' h1 h2)

omit [DecidableEq κ] in
theorem wpList_len_rep (hg : o.guard = none) (m : Operand) (t et : TypeId) (hop : o.op = .call { callee := .builtin .len, args := #[m], argTypes := #[t] }) (ht : P.underlying t = some (.map kt et))
    (h : MapRep ek ev w b M) (hm : a.eval m = .map (some b)) (hK : wpList P ops Q rest (a.put o.dst (.int .i64 M.length)) w) : wpList P ops Q (o :: rest) a w :=
  wpList_run hg (by simp [execOp, hop, resolve, invoke, builtin, hm, h.len (ty := o.type) ht, Result.andThen]) hK

omit [DecidableEq κ] in
theorem wpList_clear_rep (hg : o.guard = none) (m : Operand) (t et : TypeId) (hop : o.op = .call { callee := .builtin .clear, args := #[m], argTypes := #[t] }) (ht : P.underlying t = some (.map kt et))
    (h : MapRep ek ev w b M) (hm : a.eval m = .map (some b))
    (hK : ∀ w', MapRep ek ev w' b ([] : List (κ × ν)) → Upd [b] w w' → wpList P ops Q rest (a.put o.dst (.tuple #[])) w') : wpList P ops Q (o :: rest) a w := by
  obtain ⟨w', hrun, h1, h2⟩ := h.clear (ty := o.type) ht
  exact wpList_run hg (by simp [execOp, hop, resolve, invoke, builtin, hm, hrun, Result.andThen]) (hK w' h1 h2)

omit [DecidableEq κ] in
theorem wpList_range_rep (hg : o.guard = none) (m : Operand) (t et : TypeId) (hop : o.op = .range t m) (ht : P.underlying t = some (.map kt et))
    (h : MapRep ek ev w b M) (hm : a.eval m = .map (some b))
    (hK : ∀ w', Iter ek ev w' w.heap.size b M → Upd [] w w' → wpList P ops Q rest (a.put o.dst (.pointer (some ⟨w.heap.size, 0, none⟩))) w') : wpList P ops Q (o :: rest) a w := by
  obtain ⟨w', hrun, h1, h2, _⟩ := h.range (P := P) ht
  exact wpList_run hg (by simp [execOp, hop, hm, hrun, Result.andThen]) (hK w' h1 h2)

omit [DecidableEq κ] in
theorem wpList_next_rep (hg : o.guard = none) (m : Operand) (hop : o.op = .next m false) {r : Nat} {left : List (κ × ν)}
    (h : Iter ek ev w r b left) (hm : a.eval m = .pointer (some ⟨r, 0, none⟩))
    (hN : left = [] → wpList P ops Q rest (a.put o.dst (.tuple #[.bool false])) w)
    (hK : ∀ (x : κ) (v : ν) l1 l2 w', left = l1 ++ (x, v) :: l2 → Iter ek ev w' r b (l1 ++ l2) → IterAt ek ev w' r b (x, v) → Upd [r] w w' → wpList P ops Q rest (a.put o.dst (.tuple #[.bool true, ek x, ev v])) w') : wpList P ops Q (o :: rest) a w := by
  rcases h.next (P := P) o.type with ⟨h0, hrun⟩ | ⟨p, l1, l2, w', h0, hrun, h1, h2, h3, _⟩
  · exact wpList_run hg (by simp [execOp, hop, hm, hrun, Result.andThen]) (hN h0)
  · exact wpList_run hg (by simp [execOp, hop, hm, hrun, Result.andThen]) (hK p.1 p.2 l1 l2 w' h0 h1 h2 h3)

omit [DecidableEq κ] in
theorem wpList_entry_rep (hg : o.guard = none) (m : Operand) (hop : o.op = .entry m) {r : Nat} {x : κ} {v : ν} (h : IterAt ek ev w r b (x, v)) (hm : a.eval m = .pointer (some ⟨r, 0, none⟩))
    (hK : wpList P ops Q rest (a.put o.dst (.tuple #[ek x, ev v])) w) : wpList P ops Q (o :: rest) a w :=
  wpList_run hg (by simp [execOp, hop, hm, h.entry, Result.andThen]) hK
end

section
variable {P : Program} {w : World} {ops : Array Oper} {rest : List Oper} {o : Oper} {a : Act} {Q : Exit → Act → World → Prop}
variable {t e : TypeId} {k bytes : Nat} {α : Type} {ee : α → List Value}

theorem wpList_append_rep (hg : o.guard = none) (s x : Operand) (t : TypeId) (hop : o.op = .call { callee := .builtin .append, args := #[s, x], argTypes := #[t, t] }) (E : Elem P t e k bytes ee)
    {aa a2 : Option Addr} {c c2 : Nat} {xs ys : List α} (h : OwnAt e k ee w aa c xs) (hs : Rd k ee w a2 ys) (he : a.eval s = .slice aa xs.length c) (hx : a.eval x = .slice a2 ys.length c2)
    (hm : xs.length + ys.length ≤ maxLen) (hb : (xs.length + ys.length) * bytes ≤ 140737488355328)
    (hK : ∀ a' c' w', OwnAt e k ee w' a' c' (xs ++ ys) → Upd (ablk aa) w w' → (a' = aa ∨ a' = some ⟨w.heap.size, 0, none⟩) → (a' = none → ys = [] ∧ xs = []) → wpList P ops Q rest (a.put o.dst (.slice a' (xs ++ ys).length c')) w') : wpList P ops Q (o :: rest) a w := by
  obtain ⟨a', c', w', hrun, h1, h2, h3, h4⟩ := h.append E (c2 := c2) o.type hs hm hb
  exact wpList_run hg (by simp [execOp, hop, resolve, invoke, builtin, he, hx, hrun, Result.andThen]) (hK a' c' w' h1 h2 h3 h4)
end
end Go.Slu
