/-
  Own base, program-free: stores into blocks that are known whole; arms for regions that draw their order.
-/
import Derived.Test.YtcdmdpgfadopcaaBaseSort
namespace Go.Slu
open Go.MapKept Go.RowKit

theorem cell_new (w : World) (cs : Array Value) (t : TypeId) (i : Nat) {v : Value} (h : cs[i]? = some v) : (w.alloc (.cells cs t)).cell? ⟨w.heap.size, i, none⟩ = some v := by
  have := (heap_alloc w (.cells cs t)).1
  simp only [World.cell?, this]
  simpa using h

theorem setCell_block {w : World} {b : Nat} {cs : Array Value} {t : TypeId} {fr : Nat × Nat} (h : w.heap[b]? = some (.cells cs t fr)) (i : Nat) (v : Value) : (w.setCell ⟨b, i, none⟩ v).heap[b]? = some (.cells (cs.setIfInBounds i v) t fr) := by
  simp only [World.setCell, Array.getElem?_modify, if_true, h]
  rfl

section
variable {P : Program} {w : World} {ops : Array Oper} {rest : List Oper} {o : Oper} {a : Act} {Q : Exit → Act → World → Prop} {K : Act → World → Prop} {E : Prop}

theorem step_run {v : Value} {w' : World} (hg : o.guard = none) (hrun : (execOp a.eval o).run P w = .ok (.value v) w') (h : K (a.put o.dst v) w') :
    if Region.wanted o (yielded ops a.tmps) = true then Oper.wp P o a w K Q else E := by
  have hw : Region.wanted o (yielded ops a.tmps) = true := by simp [Region.wanted, hg]
  rw [if_pos hw]
  unfold Oper.wp
  rw [hrun, Oper.upon_value]
  exact h
theorem step_run_skip {w' : World} (hg : o.guard = none) (hrun : (execOp a.eval o).run P w = .ok .skip w') (h : K (a.put o.dst undef) w') :
    if Region.wanted o (yielded ops a.tmps) = true then Oper.wp P o a w K Q else E := by
  have hw : Region.wanted o (yielded ops a.tmps) = true := by simp [Region.wanted, hg]
  rw [if_pos hw]
  unfold Oper.wp
  rw [hrun, Oper.upon_skip]
  exact h

variable {t e : TypeId} {k bytes : Nat} {α : Type} {ee : α → List Value}

theorem step_append_rep (hg : o.guard = none) (s x : Operand) (t : TypeId) (hop : o.op = .call { callee := .builtin .append, args := #[s, x], argTypes := #[t, t] }) (El : Elem P t e k bytes ee)
    {aa a2 : Option Addr} {c c2 : Nat} {xs ys : List α} (h : OwnAt e k ee w aa c xs) (hs : Rd k ee w a2 ys) (he : a.eval s = .slice aa xs.length c) (hx : a.eval x = .slice a2 ys.length c2)
    (hm : xs.length + ys.length ≤ maxLen) (hb : (xs.length + ys.length) * bytes ≤ 140737488355328)
    (hK : ∀ a' c' w', OwnAt e k ee w' a' c' (xs ++ ys) → Upd (ablk aa) w w' → (a' = aa ∨ a' = some ⟨w.heap.size, 0, none⟩) → (a' = none → ys = [] ∧ xs = []) → K (a.put o.dst (.slice a' (xs ++ ys).length c')) w') :
    if Region.wanted o (yielded ops a.tmps) = true then Oper.wp P o a w K Q else E := by
  obtain ⟨a', c', w', hrun, h1, h2, h3, h4⟩ := h.append El (c2 := c2) o.type hs hm hb
  exact step_run hg (by simp [execOp, hop, resolve, invoke, builtin, he, hx, hrun, Result.andThen]) (hK a' c' w' h1 h2 h3 h4)

/-- the run of a store of one cell into a block that is known whole and not frozen -/
theorem run_store1 {b i : Nat} {cs : Array Value} {te : TypeId} {v : Value} (hb : w.heap[b]? = some (.cells cs te (0, 0))) (hi : i < cs.size) (hv : v.oneCell' = true) (hsz : ∀ W, (Go.sizeOf t).run P W = .ok 1 W) :
    (Instr.storeAt t (.pointer (some ⟨b, i, none⟩)) v).run P w = .ok () (w.setCell ⟨b, i, none⟩ v) ∧ (w.setCell ⟨b, i, none⟩ v).heap[b]? = some (.cells (cs.setIfInBounds i v) te (0, 0)) ∧ Upd [b] w (w.setCell ⟨b, i, none⟩ v) := by
  have hc : w.cell? ⟨b, i, none⟩ = some cs[i] := by simp [World.cell?, hb, hi]
  have hf : w.frozen? ⟨b, i, none⟩ = false := by simp [World.frozen?, hb]
  refine ⟨?_, ?_, (Upd.refl [b] w).setCell _ _ (fun _ => by simp)⟩
  · cases v with
    | agg cs => cases hv
    | _ => simp [Instr.storeAt, Instr.sureAddr, storeVar, hsz, go_sem, storeCells, hc, hf, Result.andThen, Addr.add, run_store _ _ _ _ _ hv, stored]
  · have hlt := lt_of_block hb
    simp only [World.setCell, Array.getElem?_modify, if_true, hb]
    rfl

theorem wpList_store1 (hg : o.guard = none) (p x : Operand) (hop : o.op = .store t p x) (hsz : ∀ W, (Go.sizeOf t).run P W = .ok 1 W) {b i : Nat} {cs : Array Value} {te : TypeId} {v : Value} (hb : w.heap[b]? = some (.cells cs te (0, 0))) (hi : i < cs.size)
    (hp : a.eval p = .pointer (some ⟨b, i, none⟩)) (hx : a.eval x = v) (hv : v.oneCell' = true)
    (hK : ∀ w', w'.heap[b]? = some (.cells (cs.setIfInBounds i v) te (0, 0)) → Upd [b] w w' → wpList P ops Q rest (a.put o.dst undef) w') : wpList P ops Q (o :: rest) a w := by
  obtain ⟨h1, h2, h3⟩ := run_store1 (P := P) (t := t) hb hi hv hsz
  exact wpList_run_skip hg (by simp [execOp, hop, hp, hx, h1, Result.andThen]) (hK _ h2 h3)
theorem step_store1 (hg : o.guard = none) (p x : Operand) (hop : o.op = .store t p x) (hsz : ∀ W, (Go.sizeOf t).run P W = .ok 1 W) {b i : Nat} {cs : Array Value} {te : TypeId} {v : Value} (hb : w.heap[b]? = some (.cells cs te (0, 0))) (hi : i < cs.size)
    (hp : a.eval p = .pointer (some ⟨b, i, none⟩)) (hx : a.eval x = v) (hv : v.oneCell' = true)
    (hK : ∀ w', w'.heap[b]? = some (.cells (cs.setIfInBounds i v) te (0, 0)) → Upd [b] w w' → K (a.put o.dst undef) w') :
    if Region.wanted o (yielded ops a.tmps) = true then Oper.wp P o a w K Q else E := by
  obtain ⟨h1, h2, h3⟩ := run_store1 (P := P) (t := t) hb hi hv hsz
  exact step_run_skip hg (by simp [execOp, hop, hp, hx, h1, Result.andThen]) (hK _ h2 h3)

theorem elem_eq (El : Elem P t e k bytes ee) : P.elem t = e := by simp [Program.elem, El.ht]
theorem elem_size (El : Elem P t e k bytes ee) (W : World) : (Go.sizeOf (P.elem t)).run P W = .ok k W := by
  rw [elem_eq El]
  obtain ⟨i, z, hi, hz, hz0, hz1, hz2⟩ := El.info
  simp [Go.sizeOf, typeInfo, go_sem, Result.andThen, hi, hz0]
theorem add_zero' (p : Addr) : p.add 0 = p := by cases p; simp [Addr.add]

/-- 's[:j]' -/
theorem wpList_slice_to (hg : o.guard = none) (s h : Operand) (t : TypeId) (hop : o.op = .slice t s none (some h) none) (El : Elem P t e k bytes ee) {aa : Option Addr} {n c j : Nat} {kh : IntKind} (he : a.eval s = .slice aa n c) (hh : a.eval h = .int kh (j : Int)) (hj : j ≤ c)
    (hK : wpList P ops Q rest (a.put o.dst (.slice aa j c)) w) : wpList P ops Q (o :: rest) a w := by
  have ht : P.underlying t = some (.slice (P.elem t)) := by rw [elem_eq El]; exact El.ht
  have e1 : (Instr.sliceAt t (.slice aa n c) none (some (.int kh (j : Int))) none).run P w = .ok (.slice aa j c) w := by
    rw [run_sliceAt_slice _ _ _ _ _ _ ht, run_slice_h _ t aa n c ht kh j (by omega) (by omega), elem_size El]
    simp [Result.andThen, sliced]
    intro _
    cases aa with
    | none => rfl
    | some p => simp [add_zero']
  exact wpList_run hg (by simp [execOp, hop, he, hh, e1, Result.andThen]) hK
/-- 's[j:]' -/
theorem wpList_slice_from (hg : o.guard = none) (s h : Operand) (t : TypeId) (hop : o.op = .slice t s (some h) none none) (El : Elem P t e k bytes ee) {aa : Option Addr} {c j : Nat} {xs : List α} {kh : IntKind} (hrd : Rd k ee w aa xs) (he : a.eval s = .slice aa xs.length c) (hh : a.eval h = .int kh (j : Int)) (hj : j ≤ xs.length) (hcx : xs.length ≤ c)
    (hK : ∀ aa', Rd k ee w aa' (xs.drop j) → (∀ b ∈ ablk aa', b ∈ ablk aa) → wpList P ops Q rest (a.put o.dst (.slice aa' (xs.drop j).length (c - j))) w) : wpList P ops Q (o :: rest) a w := by
  have ht : P.underlying t = some (.slice (P.elem t)) := by rw [elem_eq El]; exact El.ht
  have e1 : (Instr.sliceAt t (.slice aa xs.length c) (some (.int kh (j : Int))) none none).run P w = .ok (sliced aa j xs.length c k) w := by
    rw [run_sliceAt_slice _ _ _ _ _ _ ht, run_slice_l _ t aa xs.length c ht kh j (by omega) (by omega), elem_size El]
    simp [Result.andThen]
  refine wpList_run hg (v := .slice (if c = j then aa else aa.map (·.add (j * k))) (xs.drop j).length (c - j)) (by simp [execOp, hop, he, hh, e1, Result.andThen, sliced]) (hK _ ?_ ?_)
  · by_cases hx : xs.drop j = []
    · rw [hx]; exact Rd.nil _ _ _ _
    · have hlt : j < xs.length := by
        rcases Nat.lt_or_ge j xs.length with h | h
        · exact h
        · exact absurd (List.drop_eq_nil_of_le h) hx
      obtain ⟨b, off, rfl, _⟩ := hrd j _ (List.getElem?_eq_getElem hlt)
      split
      · rename_i hcj
        omega
      · simp only [Option.map_some, addr_add]
        exact Rd.drop hrd
  · intro b hb
    split at hb
    · exact hb
    · cases aa with
      | none => simp [ablk] at hb
      | some p =>
        simp only [Option.map_some, ablk, List.mem_singleton] at hb ⊢
        rw [hb]; simp [Addr.add]; split <;> rfl

/-- a slice's element of one cell is set -/
theorem OwnAt.setAt {g c i : Nat} {xs : List α} {cs : Array Value} {te : TypeId} {v : Value} {x : α} {w' : World} (hk : ∀ x, (ee x).length = 1) (h : OwnAt e 1 ee w (some ⟨g, 0, none⟩) c xs) (hv : ee x = [v]) (hi : i < xs.length)
    (hb : w.heap[g]? = some (.cells cs te (0, 0))) (hb' : w'.heap[g]? = some (.cells (cs.setIfInBounds i v) te (0, 0))) : OwnAt e 1 ee w' (some ⟨g, 0, none⟩) c (xs.set i x) := by
  obtain ⟨cur, h1, h2, h3, h4, h5⟩ := h.block
  rw [hb] at h1
  cases h1
  refine OwnAt.of_block hk hb' (by simpa using h2) h3 (by simpa using h4) ?_
  have e1 : ∀ l : List α, l.flatMap ee = l.map fun y => (ee y).headD undef := fun l => by
    induction l with
    | nil => rfl
    | cons y r ih =>
      obtain ⟨u, hu⟩ := List.length_eq_one_iff.1 (hk y)
      simp [hu, ih]
  rw [e1] at h5 ⊢
  have e2 : (xs.set i x).map (fun y => (ee y).headD undef) = (xs.map fun y => (ee y).headD undef).set i v := by rw [List.map_set]; simp [hv]
  rw [e2, ← h5, Array.toList_setIfInBounds, List.length_set, List.take_set]
end
end Go.Slu
