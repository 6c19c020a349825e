/-
  Own base, program-free: append, sharper: either there was room, and the list lies where it lay, or it is new memory and nothing old has turned.
-/
import Derived.Test.YtcdmdpgfadopcaaBaseMem
namespace Go.Slu
open Go.MapKept Go.RowKit
section
variable {P : Program} {t e : TypeId} {k bytes : Nat} {α : Type} {ee : α → List Value} {w : World} {a a2 : Option Addr} {c : Nat} {xs ys : List α}
theorem OwnAt.append2 (E : Elem P t e k bytes ee) {c2 : Nat} (ty : TypeId) (h : OwnAt e k ee w a c xs) (hs : Rd k ee w a2 ys) (hm : xs.length + ys.length ≤ maxLen) (hb : (xs.length + ys.length) * bytes ≤ 140737488355328) (hy : ys ≠ []) :
    ∃ a' c' w', (Builtin.append_ #[t, t] ty #[.slice a xs.length c, .slice a2 ys.length c2]).run P w = .ok (.slice a' (xs ++ ys).length c') w' ∧ OwnAt e k ee w' a' c' (xs ++ ys) ∧
      ((a' = a ∧ Upd (ablk a) w w') ∨ (a' = some ⟨w.heap.size, 0, none⟩ ∧ Upd [] w w')) := by
  obtain ⟨a', c', w', hrun, hown, hu, _, _⟩ := h.append E (c2 := c2) ty hs hm hb
  refine ⟨a', c', w', hrun, hown, ?_⟩
  obtain ⟨i, z, hi, hz, hz0, hz1, hz2⟩ := E.info
  obtain ⟨y, r, rfl⟩ := List.exists_cons_of_ne_nil hy
  obtain ⟨b, off, rfl, _⟩ := hs 0 y rfl
  have hnews : ∀ j u, ((y :: r).flatMap ee)[j]? = some u → w.cell? ((⟨b, off, none⟩ : Addr).add j) = some u := fun j u hj => by
    obtain ⟨i, x, j', h1, h2, rfl⟩ := flat_back E.len _ _ _ hj
    obtain ⟨b', off', hb', hc⟩ := hs i x h1
    cases hb'
    rw [addr_add, ← Nat.add_assoc]
    exact hc j' u h2
  have hl : ((y :: r).flatMap ee).length = (y :: r).length * i.size := by rw [hz0]; exact flat_length E.len _
  have hsmall : xs.length + (y :: r).length ≤ 9223372036854775807 := by simp only [maxLen] at hm; omega
  rcases h.cases with ⟨rfl, rfl, rfl⟩ | ⟨g, rfl, _⟩
  · have hr := run_append_nil (P := P) w t ty e i z E.ht hi hz ⟨b, off, none⟩ (y :: r).length c2 ((y :: r).flatMap ee) hl hnews (by simp) (by simp at hsmall ⊢; omega) (by have hb := hb; simp only [List.length_nil, Nat.zero_add] at hb; rw [hz1]; omega)
    simp only [List.length_nil] at hrun
    rw [hr] at hrun
    simp only [Result.ok.injEq, Value.slice.injEq] at hrun
    obtain ⟨⟨rfl, _, _⟩, rfl⟩ := hrun
    exact .inr ⟨rfl, (Upd.refl [] w).drew.alloc _⟩
  · obtain ⟨cur, hg, hnc, hcm, hcs, htake⟩ := h.block
    by_cases hroom : xs.length + (y :: r).length ≤ c
    · have hr := run_append_room (P := P) w t ty e i E.ht hi g xs.length c cur hg ⟨b, off, none⟩ (y :: r).length c2 ((y :: r).flatMap ee) hl hnews (flat_one E.one _) hroom (by
        rw [hl, hz0, hcs, ← Nat.add_mul]; exact Nat.mul_le_mul_right _ hroom)
      rw [hr] at hrun
      simp only [Result.ok.injEq, Value.slice.injEq] at hrun
      obtain ⟨⟨rfl, _, _⟩, _⟩ := hrun
      exact .inl ⟨rfl, hu⟩
    · have holds : ∀ j u, (xs.flatMap ee)[j]? = some u → w.cell? ((⟨g, 0, none⟩ : Addr).add j) = some u := fun j u hj => by
        obtain ⟨i, x, j', h1, h2, rfl⟩ := flat_back E.len _ _ _ hj
        obtain ⟨b', off', hb', hc⟩ := h.rd E.len i x h1
        cases hb'
        rw [addr_add, ← Nat.add_assoc]
        exact hc j' u h2
      have hr := run_append_grow (P := P) w t ty e i z E.ht hi hz ⟨g, 0, none⟩ xs.length c (xs.flatMap ee) (by rw [hz0]; exact flat_length E.len _) holds ⟨b, off, none⟩ (y :: r).length c2 ((y :: r).flatMap ee) hl hnews (by omega) (by omega) (by rw [hz1]; exact growslice_fits (by omega) hb)
      rw [hr] at hrun
      simp only [Result.ok.injEq, Value.slice.injEq] at hrun
      obtain ⟨⟨rfl, _, _⟩, rfl⟩ := hrun
      exact .inr ⟨rfl, (Upd.refl [] w).drew.alloc _⟩
end
section
variable {P : Program} {ops : Array Oper} {Q : Exit → Act → World → Prop} {rest : List Oper} {o : Oper} {a : Act} {w : World}
variable {t e : TypeId} {k bytes : Nat} {α : Type} {ee : α → List Value}
theorem wpList_append_rep2 (hg : o.guard = none) (s x : Operand) (t : TypeId) (hop : o.op = .call { callee := .builtin .append, args := #[s, x], argTypes := #[t, t] }) (E : Elem P t e k bytes ee)
    {aa a2 : Option Addr} {c c2 : Nat} {xs ys : List α} (h : OwnAt e k ee w aa c xs) (hs : Rd k ee w a2 ys) (he : a.eval s = .slice aa xs.length c) (hx : a.eval x = .slice a2 ys.length c2)
    (hm : xs.length + ys.length ≤ maxLen) (hb : (xs.length + ys.length) * bytes ≤ 140737488355328) (hy : ys ≠ [])
    (hK : ∀ a' c' w', OwnAt e k ee w' a' c' (xs ++ ys) → ((a' = aa ∧ Upd (ablk aa) w w') ∨ (a' = some ⟨w.heap.size, 0, none⟩ ∧ Upd [] w w')) → wpList P ops Q rest (a.put o.dst (.slice a' (xs ++ ys).length c')) w') : wpList P ops Q (o :: rest) a w := by
  obtain ⟨a', c', w', hrun, h1, h2⟩ := h.append2 E (c2 := c2) o.type hs hm hb hy
  exact wpList_run hg (by simp [execOp, hop, resolve, invoke, builtin, he, hx, hrun, Result.andThen]) (hK a' c' w' h1 h2)
end
end Go.Slu
