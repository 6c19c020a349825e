/-
  Own base, program-free: functions that only lay blocks and draw ('Grew'); slices.SortFunc over a slice of the call's own.
-/
import Derived.Test.YtcdmdpgfadopcaaBaseOps
import Derived.Shelf.SlSortCmp.NoneTotal
namespace Go.Slu
open Go.MapKept Go.RowKit Go.Sort Go.Proofs Go.Shelf

/-- Only new blocks and draws. -/
structure Grew (w w' : World) : Prop where
  upd : Upd [] w w'
  drawn : w.drawn ≤ w'.drawn

theorem Grew.refl (w : World) : Grew w w := ⟨Upd.refl _ _, Nat.le_refl _⟩
theorem Grew.trans {a b c : World} (h : Grew a b) (k : Grew b c) : Grew a c := ⟨h.upd.trans k.upd, Nat.le_trans h.drawn k.drawn⟩
theorem Grew.alloc {a w : World} (h : Grew a w) (o : Obj) : Grew a (w.alloc o) := ⟨h.upd.alloc o, h.drawn⟩
theorem Grew.drew {a w : World} (h : Grew a w) : Grew a w.drew := ⟨h.upd.drew, Nat.le_succ_of_le h.drawn⟩
theorem Grew.drewN {a w : World} (h : Grew a w) (n : Nat) : Grew a (w.drewN n) := ⟨h.upd.drewN n, Nat.le_trans h.drawn (Nat.le_add_right ..)⟩
theorem Grew.setCell {a w : World} (h : Grew a w) (p : Addr) (u : Value) (hp : a.heap.size ≤ p.block) : Grew a (w.setCell p u) :=
  ⟨h.upd.setCell p u (fun hl => absurd hl (by omega)), h.drawn⟩
theorem Grew.form {w w' : World} (h : Grew w w') : ∃ q os, w' = grow (w.drewN q) os := by
  refine ⟨w'.drawn - w.drawn, w'.heap.extract w.heap.size w'.heap.size, ?_⟩
  have hh : w'.heap = w.heap ++ w'.heap.extract w.heap.size w'.heap.size := by
    apply Array.ext_getElem?
    intro i
    rw [Array.getElem?_append]
    split
    · rename_i hi; exact h.upd.block i hi (by simp)
    · rename_i hi
      have hs := h.upd.size
      rw [Array.getElem?_extract]
      have : w.heap.size + (i - w.heap.size) = i := by omega
      rw [this]
      split
      · rfl
      · rename_i h2; rw [Array.getElem?_eq_none (by omega)]
  have h1 := h.upd.os
  have h2 := h.upd.tape
  have h3 := h.upd.output
  have h4 : w.drawn + (w'.drawn - w.drawn) = w'.drawn := by have := h.drawn; omega
  cases w'
  cases w
  simp only [grow, World.drewN] at *
  simp only [World.mk.injEq]
  exact ⟨hh, h2, h4.symm, h1, h3⟩

/-- WHAT A COMPARISON HANDED TO THE SORT PAYS: it answers 'cf' in whatever world, and only lays blocks and draws. -/
def Pays (P : Program) (g : Nat) {α : Type} (ev : α → Value) (cf : α → α → Int) : Prop :=
  ∀ (W : World) (x y : α), Calls P g #[ev x, ev y] W fun e w' => e = .returned (.int .i64 (cf x y)) ∧ Grew W w'

section
variable {P : Program} {t e : TypeId} {k bytes : Nat} {α : Type} {ee : α → List Value} {w : World} {c g : Nat} {xs ys : List α}

theorem OwnAt.block (h : OwnAt e k ee w (some ⟨g, 0, none⟩) c xs) : ∃ cur, w.heap[g]? = some (.cells cur e (0, 0)) ∧ xs.length ≤ c ∧ c ≤ maxLen ∧ cur.size = c * k ∧ cur.toList.take (xs.length * k) = xs.flatMap ee := by
  rcases h.2 with ⟨h1, _⟩ | ⟨g', cap, cur, h1, _, h3, h4, h5, h6, h7⟩
  · cases h1
  · simp only [Value.slice.injEq, Option.some.injEq, Addr.mk.injEq, and_true, true_and] at h1
    obtain ⟨rfl, rfl⟩ := h1
    exact ⟨cur, h3, h4, h5, h6, h7⟩
theorem OwnAt.of_block {cur : Array Value} (hk : ∀ x, (ee x).length = k) (h3 : w.heap[g]? = some (.cells cur e (0, 0))) (h4 : xs.length ≤ c) (h5 : c ≤ maxLen) (h6 : cur.size = c * k) (h7 : cur.toList.take (xs.length * k) = xs.flatMap ee) :
    OwnAt e k ee w (some ⟨g, 0, none⟩) c xs := ⟨flat_length hk xs, .inr ⟨g, c, cur, rfl, Nat.zero_le _, h3, h4, h5, h6, h7⟩⟩

theorem holds_flat (h : OwnAt e k ee w (some ⟨g, 0, none⟩) c xs) : Holds id w g 0 (xs.flatMap ee).toArray := by
  obtain ⟨cur, hb, _, _, _, h7⟩ := h.block
  have hl := h.1
  intro j hj
  have hj' : j < (xs.flatMap ee).length := by simpa using hj
  refine ⟨?_, by simp [World.frozen?, hb]⟩
  have h1 : (cur.toList.take (xs.length * k))[j]? = (xs.flatMap ee)[j]? := by rw [h7]
  rw [List.getElem?_take_of_lt (by rw [← hl]; exact hj')] at h1
  simp only [World.cell?, hb, Nat.zero_add, Option.isSome_none, Bool.false_eq_true, if_false]
  rw [← Array.getElem?_toList, h1, List.getElem?_eq_getElem hj']
  simp [List.getElem?_eq_getElem hj']

theorem put_flat (hk : ∀ x, (ee x).length = k) (h : OwnAt e k ee w (some ⟨g, 0, none⟩) c xs) (hl : ys.length = xs.length) (n : Nat) (os : Array Obj) :
    OwnAt e k ee (grow (putRow id (Sort.ahead w n) g 0 (ys.flatMap ee).toArray) os) (some ⟨g, 0, none⟩) c ys ∧ Upd [g] w (grow (putRow id (Sort.ahead w n) g 0 (ys.flatMap ee).toArray) os) := by
  obtain ⟨cur, hb, h4, h5, h6, h7⟩ := h.block
  have hg := lt_of_block hb
  have hfl := flat_length hk ys
  have hle : (ys.flatMap ee).length ≤ cur.size := by rw [hfl, hl, h6]; exact Nat.mul_le_mul_right k h4
  have hblk : (grow (putRow id (Sort.ahead w n) g 0 (ys.flatMap ee).toArray) os).heap[g]? = some (.cells (putCells id 0 (ys.flatMap ee).toArray cur) e (0, 0)) := by
    simp only [grow, putRow, mapBlock, Sort.ahead]
    rw [Array.getElem?_append_left (by simpa using hg), Array.getElem?_modify, if_pos rfl, hb]
    rfl
  refine ⟨OwnAt.of_block hk hblk (by omega) h5 (by simp [putCells, h6]) ?_, ⟨rfl, rfl, rfl, by simp [grow, putRow, mapBlock, Sort.ahead], fun i hi hx => ?_⟩⟩
  · apply List.ext_getElem?
    intro j
    by_cases hj : j < ys.length * k
    · have hjc : j < cur.size := by rw [← hfl] at hj; omega
      rw [List.getElem?_take_of_lt hj, Array.getElem?_toList, putCells, Array.getElem?_mapIdx, Array.getElem?_eq_getElem hjc]
      have : j < (ys.flatMap ee).length := by rw [hfl]; exact hj
      generalize ys.flatMap ee = F at this
      simp [this]
    · rw [List.getElem?_take_eq_none (by omega), List.getElem?_eq_none (by omega)]
  · simp only [grow, putRow, mapBlock, Sort.ahead]
    rw [Array.getElem?_append_left (by simpa using hi), Array.getElem?_modify, if_neg (by simpa [eq_comm] using hx)]

theorem putRow_one [Inhabited α] (ev : α → Value) (W : World) (blk : Nat) (d : List α) : putRow ev W blk 0 d.toArray = putRow id W blk 0 (d.flatMap fun x => [ev x]).toArray := by
  unfold putRow
  refine mapBlock_congr _ _ _ _ fun cs _ _ _ => ?_
  unfold putCells
  have e1 : (d.flatMap fun x => [ev x]) = d.map ev := by induction d <;> simp_all
  rw [e1]
  apply Array.ext_getElem?
  intro i
  simp only [Array.getElem?_mapIdx]
  congr 1
  funext x
  simp only [Nat.zero_le, true_and, Nat.zero_add, List.size_toArray, List.length_map, Nat.sub_zero, id]
  split
  · rename_i hi; simp [hi]
  · rfl
theorem flatK_eq [Inhabited α] (hk : ∀ x, (ee x).length = k) (hpos : 0 < k) (d : List α) : flatK ee k d.toArray = (d.flatMap ee).toArray := by
  have hl := flat_length hk d
  apply Array.ext_getElem?
  intro i
  by_cases hi : i < d.length * k
  · have h1 : i / k < d.length := (Nat.div_lt_iff_lt_mul hpos).2 hi
    have h2 : i % k < k := Nat.mod_lt _ hpos
    have hx : d[i / k]? = some d[i / k] := List.getElem?_eq_getElem h1
    have hj : (ee d[i / k])[i % k]? = some ((ee d[i / k])[i % k]'(by rw [hk]; exact h2)) := List.getElem?_eq_getElem _
    have h3 := flat_at hk d (i / k) d[i / k] (i % k) _ hx hj
    have e1 : i / k * k + i % k = i := by rw [Nat.mul_comm]; exact Nat.div_add_mod i k
    rw [e1] at h3
    rw [show (d.flatMap ee).toArray[i]? = (d.flatMap ee)[i]? from List.getElem?_toArray .., h3]
    have hi2 : i < (flatK ee k d.toArray).size := by simpa using hi
    rw [Array.getElem?_eq_getElem hi2]
    have := get_flatK ee k d.toArray i (by simpa using hi)
    rw [getElem!_pos _ i hi2] at this
    rw [this]
    simp [h1, hk, h2]
  · rw [Array.getElem?_eq_none (by simpa using hi), Array.getElem?_eq_none (by simpa [hl] using hi)]
end

theorem mergeSort_sorted {α : Type} {cf : α → α → Int} (hO : SWO (ltOf cf)) (hT : ∀ x y, (ltOf cf) x y = false → (ltOf cf) y x = false → x = y) (l : List α) :
    (l.mergeSort fun x y => !(ltOf cf) y x).Pairwise (fun x y => 0 ≤ cf y x) := by
  have := List.pairwise_mergeSort (le := fun x y => !(ltOf cf) y x) (fun a b c h1 h2 => by
    simp only [Bool.not_eq_true'] at h1 h2 ⊢
    exact hO.ntrans c b a h2 h1) (fun a b => by
    cases h : ltOf cf b a
    · simp
    · have h' : ltOf cf a b = false := by
        cases h2 : ltOf cf a b
        · rfl
        · have := hO.trans a b a h2 h; rw [hO.irrefl] at this; cases this
      simp [h']) l
  have _ := hT
  exact this.imp fun {a b} h => by simpa [ltOf] using h

section
variable {P : Program} {ρ : Ren} {α : Type} [Inhabited α] {w : World} {c : Nat} {xs : List α} {a : Option Addr}

/-- slices.SortFunc over a slice of the call's own, elements of one cell. -/
theorem sort_own1 {e : TypeId} (L : SlLaysF.n6 P ρ) (ev : α → Value) (h1 : OneCell ev) (cf : α → α → Int) (hO : SWO (ltOf cf)) (hT : ∀ x y, (ltOf cf) x y = false → (ltOf cf) y x = false → x = y) (g : Nat)
    (eg : ∀ args w, (callFunc g args).run P w = .ok (.enter g args) w) (hp : Pays P g ev cf) (h : OwnAt e 1 (fun x => [ev x]) w a c xs) (hsz : xs.length < 4611686018427387904) :
    Calls P (ρ.f 6) #[.slice a xs.length c, .func (.func g) #[] #[]] w fun e' w' => e' = .returned (.tuple #[]) ∧
      ∃ l, OwnAt e 1 (fun x => [ev x]) w' a c l ∧ l.Perm xs ∧ l.Pairwise (fun x y => 0 ≤ cf y x) ∧ Upd (ablk a) w w' := by
  rcases h.cases with ⟨rfl, rfl, rfl⟩ | ⟨b, rfl, hb⟩
  · refine (AnyF.slices_SortFunc_none (P := P) (ρ := ρ) { L with } none 0 _ w).mono fun e' w' ⟨he, hw⟩ => ?_
    subst hw
    exact ⟨he, [], h, .refl _, .nil, Upd.refl _ _⟩
  · have hk : ∀ x : α, ((fun x => [ev x]) x).length = 1 := fun _ => rfl
    have hH : Holds ev w b 0 xs.toArray := by
      have h2 := holds_flat h
      have e1 : (xs.flatMap fun x => [ev x]) = xs.map ev := by clear h h2 hsz; induction xs <;> simp_all
      rw [e1] at h2
      intro j hj
      have hj' : j < xs.length := by simpa using hj
      have h3 := h2 j (by simpa using hj')
      refine ⟨?_, h3.2⟩
      rw [h3.1]
      simp [hj']
    have hc := Any.slices_SortFunc_total L ev h1 cf hO g #[] b 0 c xs.toArray w eg (fun m os dk _ x y => (hp _ x y).mono fun e' w' ⟨he, hg⟩ => ⟨he, hg.form⟩) hH hb (by simpa using hsz) hT
    simp only [List.size_toArray] at hc
    refine hc.mono fun e' w' ⟨he, n, os, hw⟩ => ⟨he, xs.mergeSort fun x y => !(ltOf cf) y x, ?_⟩
    subst hw
    unfold sortWorld
    rw [putRow_one]
    have := put_flat hk h (ys := xs.mergeSort fun x y => !(ltOf cf) y x) (by simp) n os
    exact ⟨this.1, List.mergeSort_perm _ _, mergeSort_sorted hO hT _, this.2⟩

/-- .. elements of k cells (structs). -/
theorem sort_ownK {e : TypeId} {k : Nat} (L : SlLaysF0.n6 P ρ) (aE : ∀ w, (isAgg (ρ.t 24)).run P w = .ok true w) (zE : ∀ w, (Go.sizeOf (ρ.t 24)).run P w = .ok k w) (ee : α → List Value) (hk : ∀ x, (ee x).length = k) (hpos : 0 < k) (h1 : ∀ x, ∀ v ∈ ee x, v.oneCell' = true)
    (cf : α → α → Int) (hO : SWO (ltOf cf)) (hT : ∀ x y, (ltOf cf) x y = false → (ltOf cf) y x = false → x = y) (g : Nat) (cb : Array Value)
    (eg : ∀ args w, (callFunc g args).run P w = .ok (.enter g args) w) (hp : ∀ (W : World) (x y : α), Calls P g (#[.agg (ee x).toArray, .agg (ee y).toArray] ++ cb) W fun e w' => e = .returned (.int .i64 (cf x y)) ∧ Grew W w') (h : OwnAt e k ee w a c xs) (hsz : xs.length < 4611686018427387904) :
    Calls P (ρ.f 6) #[.slice a xs.length c, .func (.func g) #[] cb] w fun e' w' => e' = .returned (.tuple #[]) ∧
      ∃ l, OwnAt e k ee w' a c l ∧ l.Perm xs ∧ l.Pairwise (fun x y => 0 ≤ cf y x) ∧ Upd (ablk a) w w' := by
  rcases h.cases with ⟨rfl, rfl, rfl⟩ | ⟨b, rfl, hb⟩
  · refine (AnyF.slices_SortFunc_none (P := P) (ρ := ρ) L none 0 _ w).mono fun e' w' ⟨he, hw⟩ => ?_
    subst hw
    exact ⟨he, [], h, .refl _, .nil, Upd.refl _ _⟩
  · have hH : HoldsK ee k w b 0 xs.toArray := by
      unfold HoldsK
      rw [flatK_eq hk hpos]
      exact holds_flat h
    have hc := AnyQ.slices_SortFunc_total L k aE zE ee hk h1 cf hO g cb b 0 c xs.toArray w eg (fun m os dk _ x y => (hp _ x y).mono fun e' w' ⟨he, hg⟩ => ⟨he, hg.form⟩) hH hb (by simpa using hsz) hT
    simp only [List.size_toArray] at hc
    refine hc.mono fun e' w' ⟨he, n, os, hw⟩ => ⟨he, xs.mergeSort fun x y => !(ltOf cf) y x, ?_⟩
    subst hw
    unfold sortWorldK putRowK
    rw [flatK_eq hk hpos]
    have := put_flat hk h (ys := xs.mergeSort fun x y => !(ltOf cf) y x) (by simp) n os
    exact ⟨this.1, List.mergeSort_perm _ _, mergeSort_sorted hO hT _, this.2⟩
end
end Go.Slu
