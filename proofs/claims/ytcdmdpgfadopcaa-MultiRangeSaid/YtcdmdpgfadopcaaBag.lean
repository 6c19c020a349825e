/-
  Own base, program-free: what a law's call owns, as a bag of resources that don't meet.
-/
import Derived.Test.YtcdmdpgfadopcaaApart2
namespace Go.Slu
open Go.MapKept Go.RowKit

/-- A RESOURCE: some blocks, and what holds of them. -/
structure Res where
  foot : List Nat
  P : World → Prop
  keep : ∀ {X : List Nat} {w w' : World}, P w → Upd X w w' → (∀ b ∈ foot, b ∉ X) → P w'
  lt : ∀ {w : World}, P w → ∀ b ∈ foot, b < w.heap.size
/-- THE CALL THAT BEGAN AT w0 OWNS THESE RESOURCES NOW, AND HAS TURNED NO OLDER BLOCK. -/
structure Bag (w0 w : World) (rs : List Res) : Prop where
  hold : ∀ r ∈ rs, r.P w
  ge : ∀ r ∈ rs, ∀ b ∈ r.foot, w0.heap.size ≤ b
  sep : rs.Pairwise fun r s => ∀ b ∈ r.foot, b ∉ s.foot
  upd : ∃ X, (∀ b ∈ X, w0.heap.size ≤ b) ∧ Upd X w0 w

section
variable {w0 w w' : World} {rs rs' : List Res} {r r' : Res} {X : List Nat}
theorem Bag.start (w : World) : Bag w w [] := ⟨by simp, by simp, .nil, [], by simp, Upd.refl _ _⟩
theorem Bag.size (B : Bag w0 w rs) : w0.heap.size ≤ w.heap.size := by
  obtain ⟨X, _, hu⟩ := B.upd
  exact hu.size
theorem Bag.get (B : Bag w0 w rs) (i : Nat) (h : rs[i]? = some r) : r.P w := B.hold r (List.mem_of_getElem? h)
theorem Bag.lt (B : Bag w0 w rs) (h : r ∈ rs) : ∀ b ∈ r.foot, b < w.heap.size := r.lt (B.hold r h)
theorem Bag.below (B : Bag w0 w rs) : Below w0.heap.size w0 w := by
  obtain ⟨X, hX, hu⟩ := B.upd
  exact ⟨hu.os, hu.tape, hu.output, hu.size, fun k hk => hu.block k hk (fun hx => by have := hX k hx; omega)⟩
theorem Bag.cellS (B : Bag w0 w rs) {p : Addr} {v : Value} (hv : w0.cell? p = some v) : w.cell? p = some v := by
  obtain ⟨X, hX, hu⟩ := B.upd
  exact hu.cellS hv (fun hx => by have := hX _ hx; have := lt_of_cell hv; omega)
theorem Bag.rd {k : Nat} {α : Type} {ee : α → List Value} {a : Option Addr} {xs : List α} (B : Bag w0 w rs) (h : Rd k ee w0 a xs) : Rd k ee w a xs := fun i x hi => by
  obtain ⟨b, off, rfl, hc⟩ := h i x hi
  exact ⟨b, off, rfl, fun j u hj => B.cellS (hc j u hj)⟩
theorem Bag.grow (B : Bag w0 w rs) (hu : Upd X w w') (hX : ∀ b ∈ X, w0.heap.size ≤ b) : ∃ X, (∀ b ∈ X, w0.heap.size ≤ b) ∧ Upd X w0 w' := by
  obtain ⟨Y, hY, hv⟩ := B.upd
  exact ⟨Y ++ X, fun b hb => (List.mem_append.1 hb).elim (hY b) (hX b), (hv.mono (fun i _ h => List.mem_append_left _ h)).trans (hu.mono (fun i _ h => List.mem_append_right _ h))⟩
/-- a step that turns nothing old -/
theorem Bag.step0 (B : Bag w0 w rs) (hu : Upd [] w w') : Bag w0 w' rs :=
  ⟨fun r hr => r.keep (B.hold r hr) hu (by simp), B.ge, B.sep, B.grow hu (by simp)⟩
theorem Bag.perm (B : Bag w0 w rs) (h : rs.Perm rs') : Bag w0 w rs' :=
  ⟨fun r hr => B.hold r (h.mem_iff.2 hr), fun r hr => B.ge r (h.mem_iff.2 hr), (h.pairwise_iff (fun {x y} h b hb hx => h b hx hb)).1 B.sep, B.upd⟩
theorem Bag.sub (B : Bag w0 w rs) (h : rs'.Sublist rs) : Bag w0 w rs' :=
  ⟨fun r hr => B.hold r (h.subset hr), fun r hr => B.ge r (h.subset hr), B.sep.sublist h, B.upd⟩
theorem eraseIdx_perm : ∀ (l : List Res) (i : Nat) (r : Res), l[i]? = some r → l.Perm (r :: l.eraseIdx i)
  | [], _, _, h => by simp at h
  | x :: l, 0, r, h => by simp at h; subst h; exact .refl _
  | x :: l, i + 1, r, h => by
    simp at h
    exact ((eraseIdx_perm l i r h).cons x).trans (.swap r x _)
theorem Bag.pick (B : Bag w0 w rs) (i : Nat) (h : rs[i]? = some r) : Bag w0 w (r :: rs.eraseIdx i) := by
  exact B.perm (eraseIdx_perm rs i r h)
theorem filterMap_range (rs : List Res) : (List.range rs.length).filterMap (fun i => rs[i]?) = rs := by
  induction rs with
  | nil => rfl
  | cons x r ih =>
    have hf : ((fun i => (x :: r)[i]?) ∘ Nat.succ) = fun i => r[i]? := by funext i; simp
    rw [List.length_cons, List.range_succ_eq_map, List.filterMap_cons, List.filterMap_map, hf, ih]
    rfl
/-- the resources in another order -/
theorem Bag.order (B : Bag w0 w rs) (is : List Nat) (n : Nat) (h : is.Perm (List.range n)) (hn : rs.length = n) : Bag w0 w (is.filterMap fun i => rs[i]?) := by
  subst hn
  refine B.perm ?_
  have := (h.filterMap fun i => rs[i]?).symm
  rwa [filterMap_range] at this
/-- the resources in front are changed for others -/
theorem Bag.front {rs1 rs2 : List Res} (B : Bag w0 w (rs ++ rs2)) (hu : Upd X w w') (hX : ∀ b ∈ X, (∃ r ∈ rs, b ∈ r.foot) ∨ w.heap.size ≤ b) (hp : ∀ r ∈ rs1, r.P w')
    (hf : ∀ r ∈ rs1, ∀ b ∈ r.foot, (∃ r ∈ rs, b ∈ r.foot) ∨ w.heap.size ≤ b) (hs : rs1.Pairwise fun r s => ∀ b ∈ r.foot, b ∉ s.foot) : Bag w0 w' (rs1 ++ rs2) := by
  have hsep := List.pairwise_append.1 B.sep
  have hno : ∀ r ∈ rs2, ∀ b ∈ r.foot, ¬ ((∃ r ∈ rs, b ∈ r.foot) ∨ w.heap.size ≤ b) := fun r hr b hb hx => by
    rcases hx with ⟨s, hs, hb2⟩ | hx
    · exact hsep.2.2 s hs r hr b hb2 hb
    · have := B.lt (List.mem_append_right rs hr) b hb
      omega
  have hge : ∀ b, ((∃ r ∈ rs, b ∈ r.foot) ∨ w.heap.size ≤ b) → w0.heap.size ≤ b := fun b hx => by
    rcases hx with ⟨s, hs, hb2⟩ | hx
    · exact B.ge s (List.mem_append_left _ hs) b hb2
    · have := B.size
      omega
  refine ⟨fun r hr => ?_, fun r hr => ?_, List.pairwise_append.2 ⟨hs, hsep.2.1, fun r hr s hs b hb hb2 => hno s hs b hb2 (hf r hr b hb)⟩, B.grow hu (fun b hb => hge b (hX b hb))⟩
  · rcases List.mem_append.1 hr with h | h
    · exact hp r h
    · exact r.keep (B.hold r (List.mem_append_right _ h)) hu (fun b hb hx => hno r h b hb (hX b hx))
  · rcases List.mem_append.1 hr with h | h
    · exact fun b hb => hge b (hf r h b hb)
    · exact B.ge r (List.mem_append_right _ h)
/-- one more, in new memory -/
theorem Bag.push (B : Bag w0 w rs) (hu : Upd [] w w') (hp : r.P w') (hf : ∀ b ∈ r.foot, w.heap.size ≤ b) : Bag w0 w' (r :: rs) :=
  Bag.front (rs := []) (rs1 := [r]) B hu (by simp) (by simpa using hp) (fun s hs b hb => .inr (by simp at hs; subst hs; exact hf b hb)) (by simp)
/-- the first one is changed -/
theorem Bag.turn (B : Bag w0 w (r :: rs)) (hu : Upd X w w') (hX : ∀ b ∈ X, b ∈ r.foot ∨ w.heap.size ≤ b) (hp : r'.P w') (hf : ∀ b ∈ r'.foot, b ∈ r.foot ∨ w.heap.size ≤ b) : Bag w0 w' (r' :: rs) :=
  Bag.front (rs := [r]) (rs1 := [r']) B hu (fun b hb => (hX b hb).imp (fun h => ⟨r, by simp, h⟩) id) (by simpa using hp) (fun s hs b hb => by simp at hs; subst hs; exact (hf b hb).imp (fun h => ⟨r, by simp, h⟩) id) (by simp)
theorem set_perm : ∀ (l : List Res) (i : Nat) (r : Res), i < l.length → (l.set i r).Perm (r :: l.eraseIdx i)
  | [], _, _, h => by simp at h
  | x :: l, 0, r, _ => .refl _
  | x :: l, i + 1, r, h => ((set_perm l i r (by simpa using h)).cons x).trans (.swap r x _)
/-- the i-th one is changed -/
theorem Bag.turnAt (B : Bag w0 w rs) (i : Nat) (h : rs[i]? = some r) (hu : Upd X w w') (hX : ∀ b ∈ X, b ∈ r.foot ∨ w.heap.size ≤ b) (hp : r'.P w') (hf : ∀ b ∈ r'.foot, b ∈ r.foot ∨ w.heap.size ≤ b) : Bag w0 w' (rs.set i r') :=
  ((B.pick i h).turn hu hX hp hf).perm (set_perm rs i r' (List.getElem?_eq_some_iff.1 h).1).symm
/-- the first ones go -/
theorem Bag.lose {rs2 : List Res} (B : Bag w0 w (rs ++ rs2)) (hu : Upd X w w') (hX : ∀ b ∈ X, (∃ r ∈ rs, b ∈ r.foot) ∨ w.heap.size ≤ b) : Bag w0 w' rs2 :=
  Bag.front (rs1 := []) B hu hX (by simp) (by simp) .nil
theorem Bag.apart (B : Bag w0 w (r :: rs)) {s : Res} (hs : s ∈ rs) : ∀ b ∈ r.foot, b ∉ s.foot := (List.pairwise_cons.1 B.sep).1 s hs
theorem Bag.apart2 (B : Bag w0 w rs) {i j : Nat} {s : Res} (hr : rs[i]? = some r) (hs : rs[j]? = some s) (hij : i ≠ j) : ∀ b ∈ r.foot, b ∉ s.foot := by
  have h1 := (List.getElem?_eq_some_iff.1 hr)
  have h2 := (List.getElem?_eq_some_iff.1 hs)
  obtain ⟨l1, rfl⟩ := h1
  obtain ⟨l2, rfl⟩ := h2
  have hp := List.pairwise_iff_getElem.1 B.sep
  rcases Nat.lt_or_gt_of_ne hij with h | h
  · exact hp i j l1 l2 h
  · exact fun b hb hx => hp j i l2 l1 h b hx hb
end
section
variable {w0 w wA w' : World} {rs rs2 : List Res} {r : Res}
theorem Bag.off (B : Bag w0 w (rs ++ rs2)) (hr : r ∈ rs2) {b : Nat} (hb : b ∈ r.foot) : ¬ ∃ s ∈ rs, b ∈ s.foot := fun ⟨s, hs, hb2⟩ =>
  (List.pairwise_append.1 B.sep).2.2 s hs r hr b hb2 hb
theorem Bag.tail (B : Bag w0 w (rs ++ rs2)) : Bag w0 w rs2 := B.sub (List.sublist_append_right rs rs2)
end
/-- a slice of the call's own -/
def rOwn (e : TypeId) (k : Nat) {α : Type} (ee : α → List Value) (a : Option Addr) (c : Nat) (xs : List α) : Res :=
  ⟨ablk a, fun w => OwnAt e k ee w a c xs, fun h hu hx => h.keep hu hx, fun h => h.lt⟩
section
variable {w0 w wA w' : World} {rs : List Res} {e : TypeId} {k : Nat} {α : Type} {ee : α → List Value} {a a' : Option Addr} {c c' : Nat} {xs ys : List α}
/-- behind an append to the first one -/
theorem Bag.grown (B : Bag w0 w (rOwn e k ee a c xs :: rs)) (huA : Upd [] w wA) (ho : OwnAt e k ee w' a' c' ys) (hu : Upd (ablk a) wA w') (hor : a' = a ∨ a' = some ⟨wA.heap.size, 0, none⟩) : Bag w0 w' (rOwn e k ee a' c' ys :: rs) :=
  (B.step0 huA).turn (X := ablk a) hu (fun _ hb => .inl hb) ho (fun b hb => by
    rcases hor with h | h
    · rw [h] at hb; exact .inl hb
    · rw [h] at hb; simp [rOwn, ablk] at hb; exact .inr (by omega))
/-- behind an append to something new -/
theorem Bag.fresh (B : Bag w0 w rs) (huA : Upd [] w wA) (ha : ∀ b ∈ ablk a, w.heap.size ≤ b) (ho : OwnAt e k ee w' a' c' ys) (hu : Upd (ablk a) wA w') (hor : a' = a ∨ a' = some ⟨wA.heap.size, 0, none⟩) : Bag w0 w' (rOwn e k ee a' c' ys :: rs) := by
  have hs := huA.size
  refine B.push (huA.then hu (fun i hi hl => by have := ha i hi; omega)) ho (fun b hb => ?_)
  rcases hor with h | h
  · rw [h] at hb; exact ha b hb
  · rw [h] at hb; simp [rOwn, ablk] at hb; omega
end
/-- a block of cells -/
def rCells (b : Nat) (cs : Array Value) (t : TypeId) : Res :=
  ⟨[b], fun w => w.heap[b]? = some (.cells cs t (0, 0)), fun h hu hx => hu.at h (hx _ (by simp)), fun h b' hb => by simp at hb; subst hb; exact lt_of_block h⟩
section
variable {w0 w w' : World} {rs : List Res} {e : TypeId} {kc : Nat} {α : Type} {ee : α → List Value}
/-- the lists of the bag's front, for 'apart' -/
theorem Bag.lists {ss : List Sl} {Xs : List (List α)} {rs1 : List Res} (B : Bag w0 w rs1) (h1 : rs1 = List.zipWith (fun (s : Sl) X => rOwn e kc ee s.a s.c X) ss Xs ++ rs) (hl : ss.length = Xs.length) (hn : ∀ (j : Nat) (s : Sl) (X : List α), ss[j]? = some s → Xs[j]? = some X → X.length = s.n ∧ s.n ≤ 1000000) :
    Lists e kc ee ss w (fun j => Xs[j]?.getD []) := by
  subst h1
  have key : ∀ (j : Nat) (s : Sl), ss[j]? = some s → ∃ X, Xs[j]? = some X ∧ (List.zipWith (fun (s : Sl) X => rOwn e kc ee s.a s.c X) ss Xs ++ rs)[j]? = some (rOwn e kc ee s.a s.c X) := fun j s hs => by
    have l1 := (List.getElem?_eq_some_iff.1 hs).1
    refine ⟨Xs[j]'(by omega), List.getElem?_eq_getElem _, ?_⟩
    rw [List.getElem?_append_left (by rw [List.length_zipWith]; omega), List.getElem?_zipWith, hs, List.getElem?_eq_getElem (by omega)]
  refine ⟨fun j s hs => ?_, fun i j s t hij hs ht => ?_⟩
  · obtain ⟨X, hX, hr⟩ := key j s hs
    simp only [hX, Option.getD_some]
    exact ⟨B.get j hr, hn j s X hs hX⟩
  · obtain ⟨X, hX, hr⟩ := key i s hs
    obtain ⟨Y, hY, hq⟩ := key j t ht
    exact B.apart2 hr hq hij
theorem foot_mem {ss : List Sl} {Xs : List (List α)} (hl : ss.length = Xs.length) {b : Nat} (hb : b ∈ Go.Slu.foot ss) : ∃ r ∈ List.zipWith (fun (s : Sl) X => rOwn e kc ee s.a s.c X) ss Xs, b ∈ r.foot := by
  obtain ⟨j, s, hs, hb⟩ := mem_foot.1 hb
  have l1 := (List.getElem?_eq_some_iff.1 hs).1
  refine ⟨rOwn e kc ee s.a s.c (Xs[j]'(by omega)), List.mem_of_getElem? (i := j) ?_, hb⟩
  rw [List.getElem?_zipWith, hs, List.getElem?_eq_getElem (by omega)]
/-- two groups of lists in front, for 'apart' -/
theorem Bag.two {e2 : TypeId} {k2 : Nat} {β : Type} {ee2 : β → List Value} {ss st : List Sl} {Xs : List (List α)} {Ys : List (List β)} {rs0 : List Res} (B : Bag w0 w rs0)
    (h0 : rs0 = List.zipWith (fun (s : Sl) X => rOwn e kc ee s.a s.c X) ss Xs ++ (List.zipWith (fun (s : Sl) X => rOwn e2 k2 ee2 s.a s.c X) st Ys ++ rs)) (hl : ss.length = Xs.length) (hl2 : st.length = Ys.length)
    (hn : ∀ (j : Nat) (s : Sl) (X : List α), ss[j]? = some s → Xs[j]? = some X → X.length = s.n ∧ s.n ≤ 1000000) (hn2 : ∀ (j : Nat) (s : Sl) (X : List β), st[j]? = some s → Ys[j]? = some X → X.length = s.n ∧ s.n ≤ 1000000) :
    Lists e kc ee ss w (fun j => Xs[j]?.getD []) ∧ Lists e2 k2 ee2 st w (fun j => Ys[j]?.getD []) ∧ (∀ b ∈ Go.Slu.foot ss, b ∉ Go.Slu.foot st) ∧ (∀ r ∈ rs, ∀ b ∈ r.foot, b ∉ Go.Slu.foot ss ∧ b ∉ Go.Slu.foot st) ∧ (∀ w', Upd (Go.Slu.foot ss ++ Go.Slu.foot st) w w' → Bag w0 w' rs) := by
  subst h0
  refine ⟨B.lists rfl hl hn, B.tail.lists rfl hl2 hn2, fun b hb hb2 => ?_, fun r hr b hb => ⟨fun hx => ?_, fun hx => ?_⟩, fun w' hu => ?_⟩
  · obtain ⟨r, hr, hbr⟩ := foot_mem (e := e2) (kc := k2) (ee := ee2) hl2 hb2
    exact B.off (List.mem_append_left _ hr) hbr (foot_mem hl hb)
  · exact B.off (List.mem_append_right _ hr) hb (foot_mem hl hx)
  · exact B.tail.off hr hb (foot_mem hl2 hx)
  · have B' : Bag w0 w ((List.zipWith (fun (s : Sl) X => rOwn e kc ee s.a s.c X) ss Xs ++ List.zipWith (fun (s : Sl) X => rOwn e2 k2 ee2 s.a s.c X) st Ys) ++ rs) := by rw [List.append_assoc]; exact B
    refine B'.lose hu (fun b hb => .inl ?_)
    rcases List.mem_append.1 hb with h | h
    · obtain ⟨r, hr, hbr⟩ := foot_mem (e := e) (kc := kc) (ee := ee) hl h
      exact ⟨r, List.mem_append_left _ hr, hbr⟩
    · obtain ⟨r, hr, hbr⟩ := foot_mem (e := e2) (kc := k2) (ee := ee2) hl2 h
      exact ⟨r, List.mem_append_right _ hr, hbr⟩
end
end Go.Slu
