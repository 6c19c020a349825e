/-
  Own base, program-free: comparing two structs, at the operation.
-/
import Derived.Test.YtcdmdpgfadopcaaBaseMem
import Derived.DeepKeys
import Derived.Laws.StructEq
namespace Go.Slu
open Go.MapKept Go.RowKit

/-- WHAT COMPARING NEEDS OF A STRUCT's TYPE t: 'ek' writes an element as a value. -/
structure EqLaw (P : Program) (t : TypeId) {κ : Type} [DecidableEq κ] (ek : κ → Value) : Prop where
  eq : ∀ (x y : κ) (W : World), (Op.equal t (ek x) (ek y)).run P W = .ok (decide (x = y)) W
  guard : P.eqGuardType P.depth t = false
  agg : ∀ x, ∃ cs, ek x = .agg cs

theorem EqLaw.of_deep {P : Program} {t : TypeId} {κ : Type} [DecidableEq κ] {ek : κ → Value} {m : Nat} (hm : m ≤ 10000) (hk : P.keyTypeAt m t = true) (hwide : (match P.underlying t with | some (.array _ _) | some (.struct _) => true | _ => false) = true) (K : WideMaps.KeyLaw P t)
    (hinj : ∀ x y, ek x = ek y → x = y) (hl : ∀ x, ∃ l, keyOf P t (ek x) = some l) (hg : P.eqGuardType P.depth t = false) (ha : ∀ x, ∃ cs, ek x = .agg cs) : EqLaw P t ek where
  eq x y W := by
    obtain ⟨lx, hx⟩ := hl x
    obtain ⟨ly, hy⟩ := hl y
    obtain ⟨r, hr, hi⟩ := run_equal_deep W hm hk hwide hx hy
    rw [hr]
    congr 1
    by_cases h : x = y
    · subst h
      rw [hx] at hy
      cases hy
      simpa using hi
    · have : lx ≠ ly := fun e => h (hinj x y (K.inj hx (e ▸ hy)))
      simp only [h, decide_false]
      cases r
      · rfl
      · exact absurd (hi.1 rfl) this
  guard := hg
  agg := ha

section
variable {P : Program} {t : TypeId} {κ : Type} [DecidableEq κ] {ek : κ → Value} {w : World} {ops : Array Oper} {rest : List Oper} {o : Oper} {a : Act} {Q : Exit → Act → World → Prop} {K : Act → World → Prop} {E : Prop}
theorem EqLaw.run_eql (L : EqLaw P t ek) (p q : Operand) (t2 : TypeId) (hop : o.op = .binOp .eql t p q t2) {x y : κ} (hp : a.eval p = ek x) (hq : a.eval q = ek y) : (execOp a.eval o).run P w = .ok (.value (.bool (decide (x = y)))) w := by
  have e := L.eq x y w
  obtain ⟨xs, hx⟩ := L.agg x
  obtain ⟨ys, hy⟩ := L.agg y
  rw [hx, hy] at e
  simp [execOp, hop, hp, hq, hx, hy, run_eqGuard_agg _ _ _ _ _ _ _ L.guard, binOp, e, Result.andThen]
theorem EqLaw.run_neq (L : EqLaw P t ek) (p q : Operand) (t2 : TypeId) (hop : o.op = .binOp .neq t p q t2) {x y : κ} (hp : a.eval p = ek x) (hq : a.eval q = ek y) : (execOp a.eval o).run P w = .ok (.value (.bool (!decide (x = y)))) w := by
  have e := L.eq x y w
  obtain ⟨xs, hx⟩ := L.agg x
  obtain ⟨ys, hy⟩ := L.agg y
  rw [hx, hy] at e
  simp [execOp, hop, hp, hq, hx, hy, run_eqGuard_agg _ _ _ _ _ _ _ L.guard, binOp, e, Result.andThen]
theorem wpList_eql (L : EqLaw P t ek) (hg : o.guard = none) (p q : Operand) (t2 : TypeId) (hop : o.op = .binOp .eql t p q t2) {x y : κ} (hp : a.eval p = ek x) (hq : a.eval q = ek y)
    (hK : wpList P ops Q rest (a.put o.dst (.bool (decide (x = y)))) w) : wpList P ops Q (o :: rest) a w := wpList_run hg (L.run_eql p q t2 hop hp hq) hK
theorem wpList_neq (L : EqLaw P t ek) (hg : o.guard = none) (p q : Operand) (t2 : TypeId) (hop : o.op = .binOp .neq t p q t2) {x y : κ} (hp : a.eval p = ek x) (hq : a.eval q = ek y)
    (hK : wpList P ops Q rest (a.put o.dst (.bool (!decide (x = y)))) w) : wpList P ops Q (o :: rest) a w := wpList_run hg (L.run_neq p q t2 hop hp hq) hK
theorem step_eql (L : EqLaw P t ek) (hg : o.guard = none) (p q : Operand) (t2 : TypeId) (hop : o.op = .binOp .eql t p q t2) {x y : κ} (hp : a.eval p = ek x) (hq : a.eval q = ek y)
    (hK : K (a.put o.dst (.bool (decide (x = y)))) w) : if Region.wanted o (yielded ops a.tmps) = true then Oper.wp P o a w K Q else E := step_run hg (L.run_eql p q t2 hop hp hq) hK
theorem step_neq (L : EqLaw P t ek) (hg : o.guard = none) (p q : Operand) (t2 : TypeId) (hop : o.op = .binOp .neq t p q t2) {x y : κ} (hp : a.eval p = ek x) (hq : a.eval q = ek y)
    (hK : K (a.put o.dst (.bool (!decide (x = y)))) w) : if Region.wanted o (yielded ops a.tmps) = true then Oper.wp P o a w K Q else E := step_run hg (L.run_neq p q t2 hop hp hq) hK
theorem wpList_run_w {v : Value} {w' : World} (hw : Region.wanted o (yielded ops a.tmps) = true) (hrun : (execOp a.eval o).run P w = .ok (.value v) w') (h : wpList P ops Q rest (a.put o.dst v) w') : wpList P ops Q (o :: rest) a w :=
  wpList_step fun K hK => by
    rw [if_pos hw]
    unfold Oper.wp
    rw [hrun, Oper.upon_value]
    exact hK _ _ h
theorem wpList_eql_w (L : EqLaw P t ek) (hw : Region.wanted o (yielded ops a.tmps) = true) (p q : Operand) (t2 : TypeId) (hop : o.op = .binOp .eql t p q t2) {x y : κ} (hp : a.eval p = ek x) (hq : a.eval q = ek y)
    (hK : wpList P ops Q rest (a.put o.dst (.bool (decide (x = y)))) w) : wpList P ops Q (o :: rest) a w := wpList_run_w hw (L.run_eql p q t2 hop hp hq) hK
theorem wpList_neq_w (L : EqLaw P t ek) (hw : Region.wanted o (yielded ops a.tmps) = true) (p q : Operand) (t2 : TypeId) (hop : o.op = .binOp .neq t p q t2) {x y : κ} (hp : a.eval p = ek x) (hq : a.eval q = ek y)
    (hK : wpList P ops Q rest (a.put o.dst (.bool (!decide (x = y)))) w) : wpList P ops Q (o :: rest) a w := wpList_run_w hw (L.run_neq p q t2 hop hp hq) hK
end
section
variable {P : Program} {w : World} {ops : Array Oper} {rest : List Oper} {o : Oper} {a : Act} {Q : Exit → Act → World → Prop} {K : Act → World → Prop} {E : Prop}
variable {t e : TypeId} {k bytes : Nat} {α : Type} {ee : α → List Value}
/-- what the walk itself makes of 's[j:]' -/
theorem Rd.sliced {aa : Option Addr} {c j : Nat} {xs : List α} (hrd : Rd k ee w aa xs) (hj : j ≤ xs.length) (hcx : xs.length ≤ c) : Rd k ee w (if c = j then aa else aa.map (·.add (j * k))) (xs.drop j) := by
  by_cases hx : xs.drop j = []
  · rw [hx]; exact Rd.nil _ _ _ _
  · have hlt : j < xs.length := by
      rcases Nat.lt_or_ge j xs.length with h | h
      · exact h
      · exact absurd (List.drop_eq_nil_of_le h) hx
    obtain ⟨b, off, rfl, _⟩ := hrd j _ (List.getElem?_eq_getElem hlt)
    split
    · omega
    · simp only [Option.map_some, addr_add]
      exact Rd.drop hrd
/-- 's[j:]' -/
theorem run_slice_from (s h : Operand) (t : TypeId) (hop : o.op = .slice t s (some h) none none) (El : Elem P t e k bytes ee) {aa : Option Addr} {c j : Nat} {xs : List α} {kh : IntKind} (hrd : Rd k ee w aa xs) (he : a.eval s = .slice aa xs.length c) (hh : a.eval h = .int kh (j : Int)) (hj : j ≤ xs.length) (hcx : xs.length ≤ c) :
    ∃ aa', Rd k ee w aa' (xs.drop j) ∧ (∀ b ∈ ablk aa', b ∈ ablk aa) ∧ (execOp a.eval o).run P w = .ok (.value (.slice aa' (xs.drop j).length (c - j))) w := by
  have ht : P.underlying t = some (.slice (P.elem t)) := by rw [elem_eq El]; exact El.ht
  have e1 : (Instr.sliceAt t (.slice aa xs.length c) (some (.int kh (j : Int))) none none).run P w = .ok (sliced aa j xs.length c k) w := by
    rw [run_sliceAt_slice _ _ _ _ _ _ ht, run_slice_l _ t aa xs.length c ht kh j (by omega) (by omega), elem_size El]
    simp [Result.andThen]
  refine ⟨if c = j then aa else aa.map (·.add (j * k)), ?_, ?_, by simp [execOp, hop, he, hh, e1, Result.andThen, sliced]⟩
  · by_cases hx : xs.drop j = []
    · rw [hx]; exact Rd.nil _ _ _ _
    · have hlt : j < xs.length := by
        rcases Nat.lt_or_ge j xs.length with h | h
        · exact h
        · exact absurd (List.drop_eq_nil_of_le h) hx
      obtain ⟨b, off, rfl, _⟩ := hrd j _ (List.getElem?_eq_getElem hlt)
      split
      · rename_i hcj
        omega
      · simp only [Option.map_some, addr_add]
        exact Rd.drop hrd
  · intro b hb
    split at hb
    · exact hb
    · cases aa with
      | none => simp [ablk] at hb
      | some p =>
        simp only [Option.map_some, ablk, List.mem_singleton] at hb ⊢
        rw [hb]; simp [Addr.add]; split <;> rfl
theorem step_slice_from (hg : o.guard = none) (s h : Operand) (t : TypeId) (hop : o.op = .slice t s (some h) none none) (El : Elem P t e k bytes ee) {aa : Option Addr} {c j : Nat} {xs : List α} {kh : IntKind} (hrd : Rd k ee w aa xs) (he : a.eval s = .slice aa xs.length c) (hh : a.eval h = .int kh (j : Int)) (hj : j ≤ xs.length) (hcx : xs.length ≤ c)
    (hK : ∀ aa', Rd k ee w aa' (xs.drop j) → (∀ b ∈ ablk aa', b ∈ ablk aa) → K (a.put o.dst (.slice aa' (xs.drop j).length (c - j))) w) : if Region.wanted o (yielded ops a.tmps) = true then Oper.wp P o a w K Q else E := by
  obtain ⟨aa', h1, h2, h3⟩ := run_slice_from s h t hop El hrd he hh hj hcx
  exact step_run hg h3 (hK aa' h1 h2)
/-- 's[:j]' -/
theorem step_slice_to (hg : o.guard = none) (s h : Operand) (t : TypeId) (hop : o.op = .slice t s none (some h) none) (El : Elem P t e k bytes ee) {aa : Option Addr} {n c j : Nat} {kh : IntKind} (he : a.eval s = .slice aa n c) (hh : a.eval h = .int kh (j : Int)) (hj : j ≤ c)
    (hK : K (a.put o.dst (.slice aa j c)) w) : if Region.wanted o (yielded ops a.tmps) = true then Oper.wp P o a w K Q else E := by
  have ht : P.underlying t = some (.slice (P.elem t)) := by rw [elem_eq El]; exact El.ht
  have e1 : (Instr.sliceAt t (.slice aa n c) none (some (.int kh (j : Int))) none).run P w = .ok (.slice aa j c) w := by
    rw [run_sliceAt_slice _ _ _ _ _ _ ht, run_slice_h _ t aa n c ht kh j (by omega) (by omega), elem_size El]
    simp [Result.andThen, sliced]
    intro _
    cases aa with
    | none => rfl
    | some p => simp [add_zero']
  exact step_run hg (by simp [execOp, hop, he, hh, e1, Result.andThen]) hK
end
end Go.Slu
