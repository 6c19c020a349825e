/-
  Own base, program-free: slices in memory, as lists of elements of k cells each: what can be read ('Rd'), what the call owns ('OwnAt'), append.
-/
import Derived.Test.YtcdmdpgfadopcaaBaseMaps
import Derived.Maps.AppendAt
import Derived.Deep.AppendSrc
namespace Go.Slu
open Go.MapKept Go.RowKit

/-- WHAT THE OPERATIONS ON A SLICE NEED OF ITS TYPE t AND ITS ELEMENTS' TYPE e: 'ee' writes an element as its k cells. -/
structure Elem (P : Program) (t e : TypeId) (k bytes : Nat) {α : Type} (ee : α → List Value) : Prop where
  ht : P.underlying t = some (.slice e)
  info : ∃ i z, P.info? e = some i ∧ i.zero = some z ∧ i.size = k ∧ i.bytes = bytes ∧ z.cells.size = k
  pos : 0 < k
  len : ∀ x, (ee x).length = k
  one : ∀ x, ∀ u ∈ ee x, u.oneCell' = true

/-- the block of an address, if there is one -/
def ablk : Option Addr → List Nat
  | some p => [p.block]
  | none => []

section
variable {P : Program} {t e : TypeId} {k bytes : Nat} {α : Type} {ee : α → List Value} {w w' : World} {a a2 : Option Addr} {c : Nat} {xs ys : List α}

/-- FROM a ON THE LIST xs CAN BE READ. -/
def Rd (k : Nat) (ee : α → List Value) (w : World) (a : Option Addr) (xs : List α) : Prop :=
  ∀ i x, xs[i]? = some x → ∃ b off, a = some ⟨b, off, none⟩ ∧ ∀ j u, (ee x)[j]? = some u → w.cell? ⟨b, off + i * k + j, none⟩ = some u

/-- THE CALL OWNS THE SLICE (a, c) AND IT HOLDS xs: nil and empty, or at the head of a block that is not frozen. -/
def OwnAt (e : TypeId) (k : Nat) (ee : α → List Value) (w : World) (a : Option Addr) (c : Nat) (xs : List α) : Prop :=
  w.ownsRow 0 e k (.slice a xs.length c) xs.length (xs.flatMap ee)

theorem Rd.nil (k : Nat) (ee : α → List Value) (w : World) (a : Option Addr) : Rd k ee w a [] := fun i x h => by simp at h
theorem Rd.keep {X : List Nat} (h : Rd k ee w a xs) (hu : Upd X w w') (hl : ∀ b ∈ ablk a, b < w.heap.size) (hx : ∀ b ∈ ablk a, b ∉ X) : Rd k ee w' a xs := fun i x hi => by
  obtain ⟨b, off, rfl, hc⟩ := h i x hi
  exact ⟨b, off, rfl, fun j u hj => (hu.cell (p := ⟨b, off + i * k + j, none⟩) (hl b (by simp [ablk])) (hx b (by simp [ablk]))).trans (hc j u hj)⟩
theorem cell_lt {b o : Nat} {u : Value} (h : w.cell? ⟨b, o, none⟩ = some u) : b < w.heap.size := by
  unfold World.cell? at h
  rcases Nat.lt_or_ge b w.heap.size with h' | h'
  · exact h'
  · simp [Array.getElem?_eq_none h'] at h
theorem Rd.keep' {X : List Nat} (E : Elem P t e k bytes ee) (h : Rd k ee w a xs) (hu : Upd X w w') (hx : ∀ b ∈ ablk a, b ∉ X) : Rd k ee w' a xs := fun i x hi => by
  obtain ⟨b, off, rfl, hc⟩ := h i x hi
  have h0 := hc 0 ((ee x)[0]'(by have := E.len x; have := E.pos; omega)) (by simp)
  exact ⟨b, off, rfl, fun j u hj => (hu.cell (p := ⟨b, off + i * k + j, none⟩) (cell_lt h0) (hx b (by simp [ablk]))).trans (hc j u hj)⟩
/-- a piece of it -/
theorem Rd.drop {b off : Nat} {cut : Nat} (h : Rd k ee w (some ⟨b, off, none⟩) xs) : Rd k ee w (some ⟨b, off + cut * k, none⟩) (xs.drop cut) := fun i x hi => by
  rw [List.getElem?_drop] at hi
  obtain ⟨b', off', hb, hc⟩ := h _ x hi
  cases hb
  refine ⟨b, _, rfl, fun j u hj => ?_⟩
  rw [← hc j u hj]
  congr 2
  rw [Nat.add_mul]
  omega
theorem Rd.take (n : Nat) (h : Rd k ee w a xs) : Rd k ee w a (xs.take n) := fun i x hi => by
  rw [List.getElem?_take] at hi
  split at hi
  · exact h i x hi
  · cases hi

theorem flat_at (hk : ∀ x, (ee x).length = k) : ∀ (xs : List α) (i : Nat) (x : α) (j : Nat) (u : Value), xs[i]? = some x → (ee x)[j]? = some u → (xs.flatMap ee)[i * k + j]? = some u
  | [], i, x, j, u, h, _ => by simp at h
  | y :: r, 0, x, j, u, h, hj => by
    simp at h; subst h
    simp only [List.flatMap_cons, Nat.zero_mul, Nat.zero_add]
    rw [List.getElem?_append_left (List.getElem?_eq_some_iff.1 hj).1]; exact hj
  | y :: r, i + 1, x, j, u, h, hj => by
    simp at h
    simp only [List.flatMap_cons]
    rw [List.getElem?_append_right (by rw [hk, Nat.add_mul]; omega), hk]
    have := flat_at hk r i x j u h hj
    rw [← this]; congr 1; rw [Nat.add_mul]; omega
theorem flat_length (hk : ∀ x, (ee x).length = k) (xs : List α) : (xs.flatMap ee).length = xs.length * k := by
  induction xs with
  | nil => simp
  | cons x r ih => simp only [List.flatMap_cons, List.length_append, hk, ih, List.length_cons, Nat.add_mul]; omega
theorem flat_one (h1 : ∀ x, ∀ u ∈ ee x, u.oneCell' = true) (xs : List α) : ∀ u ∈ xs.flatMap ee, u.oneCell' = true := fun u hu => by
  obtain ⟨x, _, hx⟩ := List.mem_flatMap.1 hu
  exact h1 x u hx
/-- a cell of the list, back to its element -/
theorem flat_back (hk : ∀ x, (ee x).length = k) : ∀ (xs : List α) (m : Nat) (u : Value), (xs.flatMap ee)[m]? = some u → ∃ i x j, xs[i]? = some x ∧ (ee x)[j]? = some u ∧ m = i * k + j
  | [], m, u, h => by simp at h
  | y :: r, m, u, h => by
    simp only [List.flatMap_cons] at h
    by_cases hm : m < (ee y).length
    · rw [List.getElem?_append_left hm] at h
      exact ⟨0, y, m, rfl, h, by simp⟩
    · rw [List.getElem?_append_right (by omega)] at h
      obtain ⟨i, x, j, h1, h2, h3⟩ := flat_back hk r _ u h
      exact ⟨i + 1, x, j, by simpa using h1, h2, by rw [hk] at h3; rw [hk] at hm; rw [Nat.add_mul]; omega⟩
theorem addr_add (b off j : Nat) : ((⟨b, off, none⟩ : Addr).add j) = ⟨b, off + j, none⟩ := by
  unfold Addr.add
  split
  · rename_i h; subst h; rfl
  · rfl

theorem OwnAt.nil (e : TypeId) (k : Nat) (ee : α → List Value) (w : World) : OwnAt e k ee w none 0 ([] : List α) := ⟨by simp, .inl ⟨rfl, rfl⟩⟩
theorem OwnAt.cases (h : OwnAt e k ee w a c xs) : (a = none ∧ c = 0 ∧ xs = []) ∨ ∃ g, a = some ⟨g, 0, none⟩ ∧ g < w.heap.size := by
  rcases h.2 with ⟨h1, h2⟩ | ⟨g, cap, cur, h1, _, h3, _⟩
  · simp only [Value.slice.injEq] at h1; exact .inl ⟨h1.1, h1.2.2, List.length_eq_zero_iff.1 h2⟩
  · simp only [Value.slice.injEq] at h1; exact .inr ⟨g, h1.1, lt_of_block h3⟩
theorem OwnAt.lt (h : OwnAt e k ee w a c xs) : ∀ b ∈ ablk a, b < w.heap.size := by
  rcases h.cases with ⟨rfl, _, _⟩ | ⟨g, rfl, hg⟩
  · simp [ablk]
  · simpa [ablk] using hg
theorem OwnAt.keep {X : List Nat} (h : OwnAt e k ee w a c xs) (hu : Upd X w w') (hx : ∀ b ∈ ablk a, b ∉ X) : OwnAt e k ee w' a c xs := by
  refine ⟨h.1, ?_⟩
  rcases h.2 with h1 | ⟨g, cap, cur, h1, h2, h3, h4⟩
  · exact .inl h1
  · have h5 := h1
    simp only [Value.slice.injEq] at h5
    exact .inr ⟨g, cap, cur, h1, h2, hu.at h3 (hx g (by simp [ablk, h5.1])), h4⟩
theorem OwnAt.rd (hk : ∀ x, (ee x).length = k) (h : OwnAt e k ee w a c xs) : Rd k ee w a xs := fun i x hi => by
  rcases h.2 with ⟨h1, h2⟩ | ⟨g, cap, cur, h1, h2, h3, h4, h5, h6, h7⟩
  · have := List.length_eq_zero_iff.1 h2; subst this; simp at hi
  · simp only [Value.slice.injEq, true_and] at h1
    obtain ⟨rfl, rfl⟩ := h1
    refine ⟨g, 0, rfl, fun j u hj => ?_⟩
    have hl : w.ownsRow 0 e k (.slice (some ⟨g, 0, none⟩) xs.length c) xs.length (xs.flatMap ee) := h
    have hil := (List.getElem?_eq_some_iff.1 hi).1
    have hjl := (List.getElem?_eq_some_iff.1 hj).1
    rw [hk] at hjl
    have hlt : i * k + j < xs.length * k := by
      have : (i + 1) * k ≤ xs.length * k := Nat.mul_le_mul_right k hil
      rw [Nat.add_mul] at this; omega
    rw [Nat.zero_add, hl.cellAt (i * k + j) hlt]
    exact flat_at hk xs i x j u hi hj
theorem OwnAt.cap_le (h : OwnAt e k ee w a c xs) : xs.length ≤ c ∧ c ≤ maxLen := by
  rcases h.2 with ⟨h1, h2⟩ | ⟨g, cap, cur, h1, h2, h3, h4, h5, h6, h7⟩
  · simp only [Value.slice.injEq] at h1; rw [h2, h1.2.2]; simp [maxLen]
  · simp only [Value.slice.injEq] at h1; rw [h1.2.2]; exact ⟨h4, h5⟩
/-- a slice that has just been written out -/
theorem OwnAt.lit (hk : ∀ x, (ee x).length = k) (w : World) (xs : List α) (hm : xs.length ≤ maxLen) (cs : Array Value) (hcs : cs.toList = xs.flatMap ee) :
    OwnAt e k ee (w.alloc (.cells cs e)) (some ⟨w.heap.size, 0, none⟩) xs.length xs := by
  have hl := flat_length hk xs
  refine ⟨hl, .inr ⟨w.heap.size, xs.length, cs, rfl, Nat.zero_le _, (heap_alloc w _).1, Nat.le_refl _, hm, ?_, ?_⟩⟩
  · rw [← Array.length_toList, hcs, hl]
  · rw [hcs, List.take_of_length_le (by omega)]

theorem OwnAt.form {v : Value} {n : Nat} (h : w.ownsRow 0 e k v n (xs.flatMap ee)) (hn : n = xs.length) : ∃ a c, v = .slice a xs.length c ∧ OwnAt e k ee w a c xs := by
  subst hn
  rcases h.2 with ⟨h1, h2⟩ | ⟨g, cap, cur, h1, r⟩
  · subst h1
    exact ⟨none, 0, by rw [h2], ⟨h.1, .inl ⟨by rw [h2], h2⟩⟩⟩
  · subst h1
    exact ⟨_, cap, rfl, h⟩
theorem ownBlock_ablk {a : Option Addr} {n c : Nat} (h : (a = none ∧ c = 0 ∧ n = 0) ∨ ∃ g, a = some ⟨g, 0, none⟩) : ∀ k, (Value.slice a n c).ownBlock = some k → k ∈ ablk a := fun k hk => by
  rcases h with ⟨rfl, _, _⟩ | ⟨g, rfl⟩
  · simp [Value.ownBlock] at hk
  · simp [Value.ownBlock] at hk; simp [ablk, hk]

/-- 'append(s, x..)': s the call's own, x whatever can be read. -/
theorem OwnAt.append (E : Elem P t e k bytes ee) {c2 : Nat} (ty : TypeId) (h : OwnAt e k ee w a c xs) (hs : Rd k ee w a2 ys) (hm : xs.length + ys.length ≤ maxLen) (hb : (xs.length + ys.length) * bytes ≤ 140737488355328) :
    ∃ a' c' w', (Builtin.append_ #[t, t] ty #[.slice a xs.length c, .slice a2 ys.length c2]).run P w = .ok (.slice a' (xs ++ ys).length c') w' ∧ OwnAt e k ee w' a' c' (xs ++ ys) ∧ Upd (ablk a) w w' ∧
      (a' = a ∨ a' = some ⟨w.heap.size, 0, none⟩) ∧ (a' = none → ys = [] ∧ xs = []) := by
  obtain ⟨i, z, hi, hz, hz0, hz1, hz2⟩ := E.info
  have hflat : (xs ++ ys).flatMap ee = xs.flatMap ee ++ ys.flatMap ee := by simp
  by_cases hy : ys = []
  · subst hy
    have hrun : (Builtin.append_ #[t, t] ty #[.slice a xs.length c, .slice a2 ([] : List α).length c2]).run P w = .ok (.slice a xs.length c) w := by
      cases a2 with
      | some ad =>
        obtain ⟨v', w', hrun, hown, hg, hnil, hloc⟩ := run_append_own_at (w := w) 0 t ty e i z k bytes E.ht hi hz hz0 hz1 hz2 E.pos (.slice a xs.length c) xs.length (xs.flatMap ee) h ad 0 c2 [] (by simp) (by simp) (by simp) (by simpa using hm) (by simpa using hb) (Nat.zero_le _)
        have hroom : xs.length + 0 ≤ c := h.cap_le.1
        have hrun2 := hrun
        simp only [List.length_nil]
        have h4 := E.ht
        simp [Builtin.append_, run_underlying h4, Result.andThen, sizeOf, typeInfo, hi, Builtin.lenOf, Builtin.firstCells, h.cap_le.1, loadCells, go_sem] 
        cases a <;> simp [go_sem]
      | none =>
        have h4 := E.ht
        simp [Builtin.append_, run_underlying h4, Result.andThen, sizeOf, typeInfo, hi, Builtin.lenOf, Builtin.firstCells, h.cap_le.1, go_sem]
        cases a <;> simp [go_sem]
    refine ⟨a, c, w, by simpa using hrun, by simpa using h, Upd.refl _ _, .inl rfl, fun hn => ⟨rfl, ?_⟩⟩
    rcases h.cases with ⟨_, _, h3⟩ | ⟨g, h3, _⟩
    · exact h3
    · rw [hn] at h3; cases h3
  · obtain ⟨y, r, rfl⟩ := List.exists_cons_of_ne_nil hy
    obtain ⟨b, off, rfl, _⟩ := hs 0 y rfl
    have hnews : ∀ j u, ((y :: r).flatMap ee)[j]? = some u → w.cell? ((⟨b, off, none⟩ : Addr).add j) = some u := fun j u hj => by
      obtain ⟨i, x, j', h1, h2, rfl⟩ := flat_back E.len _ _ _ hj
      obtain ⟨b', off', hb', hc⟩ := hs i x h1
      cases hb'
      rw [addr_add, ← Nat.add_assoc]
      exact hc j' u h2
    obtain ⟨v', w', hrun, hown, hg, hnil, hloc⟩ := run_append_own_at (w := w) 0 t ty e i z k bytes E.ht hi hz hz0 hz1 hz2 E.pos (.slice a xs.length c) xs.length (xs.flatMap ee) h ⟨b, off, none⟩ (y :: r).length c2 ((y :: r).flatMap ee) (flat_length E.len _) hnews (flat_one E.one _) hm hb (Nat.zero_le _)
    rw [← hflat] at hown
    obtain ⟨a', c', rfl, hown'⟩ := OwnAt.form hown (by simp)
    have hupd : Upd (ablk a) w w' := Upd.of_grown hg (fun k hk _ => ownBlock_ablk (by
      rcases h.cases with ⟨h1, h2, h3⟩ | ⟨g, h3, _⟩
      · exact .inl ⟨h1, h2, by simp [h3]⟩
      · exact .inr ⟨g, h3⟩) k hk)
    have hne : a' ≠ none := fun hn => by
      rcases hown'.cases with ⟨_, _, h3⟩ | ⟨g, h3, _⟩
      · simp at h3
      · rw [hn] at h3; cases h3
    refine ⟨a', c', w', hrun, hown', hupd, ?_, fun hn => absurd hn hne⟩
    rcases hown'.cases with ⟨h1, _, _⟩ | ⟨g, h3, _⟩
    · exact absurd h1 hne
    · subst h3
      rcases hloc with h5 | h5
      · left
        rcases h.cases with ⟨h6, _, _⟩ | ⟨g2, h6, _⟩
        · subst h6; simp [Value.ownBlock] at h5
        · subst h6; simp [Value.ownBlock] at h5; rw [h5]
      · right
        simp [Value.ownBlock] at h5; rw [h5]
end
end Go.Slu
