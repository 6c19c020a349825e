/-
  Own base, program-free: lists that don't meet are written full of marks, and one more is put behind each (the 'apart' of the laws): the plain part, whatever the elements are.
-/
import Derived.Test.YtcdmdpgfadopcaaBaseApp
namespace Go.Slu
open Go.MapKept Go.RowKit
/-- a list's three words -/
structure Sl where
  a : Option Addr
  n : Nat
  c : Nat
abbrev eeL (s : Sl) : List Value := [.slice s.a s.n s.c]
theorem Rd.left {k : Nat} {α : Type} {ee : α → List Value} {w : World} {a : Option Addr} {xs ys : List α} (h : Rd k ee w a (xs ++ ys)) : Rd k ee w a xs := by
  have := h.take xs.length
  rwa [List.take_left] at this
section
variable {α : Type} {ee : α → List Value} {k : Nat}
theorem flat_set (hk : ∀ x, (ee x).length = k) : ∀ (xs : List α) (i : Nat) (x : α), i < xs.length → (xs.set i x).flatMap ee = (xs.flatMap ee).take (i * k) ++ ee x ++ (xs.flatMap ee).drop (i * k + k)
  | [], _, _, h => by simp at h
  | y :: r, 0, x, _ => by simp [List.drop_left' (hk y)]
  | y :: r, i + 1, x, h => by
    have ih := flat_set hk r i x (by simpa using h)
    simp only [List.set_cons_succ, List.flatMap_cons, ih]
    have e1 : (i + 1) * k = (ee y).length + i * k := by rw [hk, Nat.add_mul]; omega
    rw [e1, List.take_length_add_append, Nat.add_assoc, List.drop_length_add_append]
    simp
variable {P : Program} {t e tsl : TypeId} {bytes : Nat}
/-- one element (a struct) of a list of the call's own is written over -/
theorem OwnAt.setK (E : Elem P tsl e k bytes ee) {w : World} {g c i : Nat} {xs : List α} (h : OwnAt e k ee w (some ⟨g, 0, none⟩) c xs) (x : α) (hi : i < xs.length) (hsz : ∀ W, (Go.sizeOf t).run P W = .ok k W) :
    ∃ w', (Instr.storeAt t (.pointer (some ⟨g, i * k, none⟩)) (.agg (ee x).toArray)).run P w = .ok () w' ∧ OwnAt e k ee w' (some ⟨g, 0, none⟩) c (xs.set i x) ∧ Upd [g] w w' := by
  obtain ⟨cur, hb, h4, h5, h6, h7⟩ := h.block
  have hlen : (ee x).length = k := E.len x
  have hle : i * k + k ≤ xs.length * k := by rw [← Nat.succ_mul]; exact Nat.mul_le_mul_right _ (by omega)
  have hle2 : xs.length * k ≤ c * k := Nat.mul_le_mul_right _ h4
  have hst := run_storeCells_at P g (i * k) e (ee x) 0 cur w hb (by omega) (E.one x)
  simp only [Nat.add_zero, hlen] at hst
  refine ⟨w.setRow g (cur.toList.take (i * k) ++ ee x ++ cur.toList.drop (i * k + k)).toArray, ?_, ?_, ⟨rfl, rfl, rfl, by simp [World.setRow], fun j _ hj => setRow_other w g j _ (fun q => hj (by simp [q]))⟩⟩
  · simp [Instr.storeAt, Instr.sureAddr, storeVar, hsz, go_sem, hlen, hst, Result.andThen]
  · refine OwnAt.of_block E.len (setRow_heap w g cur _ e _ hb) (by rw [List.length_set]; exact h4) h5 ?_ ?_
    · simp only [List.size_toArray, List.length_append, List.length_take, List.length_drop, Array.length_toList, hlen]
      omega
    · rw [List.length_set, flat_set E.len xs i x hi, ← h7]
      refine List.ext_getElem? fun m => ?_
      simp only [List.getElem?_take, List.getElem?_append, List.getElem?_drop, List.length_append, List.length_take, Array.length_toList, hlen]
      have e1 : min (i * k) cur.size = i * k := by omega
      have e2 : min (i * k) (min (xs.length * k) cur.size) = i * k := by omega
      simp only [e1, e2]
      by_cases q : m < i * k
      · simp only [q, if_true, show m < i * k + k by omega, show m < xs.length * k by omega]
      · by_cases q2 : m < i * k + k
        · simp only [q, if_false, q2, if_true, show m < xs.length * k by omega]
        · simp only [q2, if_false]
          by_cases q3 : m < xs.length * k
          · simp only [q3, if_true, show i * k + k + (m - (i * k + k)) < xs.length * k by omega]
          · simp only [q3, if_false, show ¬ i * k + k + (m - (i * k + k)) < xs.length * k by omega]
end
section
variable {α : Type} {ee : α → List Value} {kc : Nat} {P : Program} {e tl tsl : TypeId} {bytes : Nat} {mk tm : Nat → Nat → α}
/-- a list full of marks -/
def mks (mk : Nat → Nat → α) (j n : Nat) : List α := (List.range n).map (mk j)
theorem mks_at {mk : Nat → Nat → α} {j n k : Nat} (h : k < n) : (mks mk j n)[k]? = some (mk j k) := by simp [mks, h]
theorem mks_len (mk : Nat → Nat → α) (j n : Nat) : (mks mk j n).length = n := by simp [mks]

/-- what is asked of the lists -/
structure Lists (e : TypeId) (kc : Nat) (ee : α → List Value) (ss : List Sl) (w : World) (X : Nat → List α) : Prop where
  own : ∀ (j : Nat) (s : Sl), ss[j]? = some s → OwnAt e kc ee w s.a s.c (X j) ∧ (X j).length = s.n ∧ s.n ≤ 1000000
  dis : ∀ (i j : Nat) (s t : Sl), i ≠ j → ss[i]? = some s → ss[j]? = some t → ∀ b ∈ ablk s.a, b ∉ ablk t.a
theorem Lists.lt {ss : List Sl} {w : World} {X : Nat → List α} (h : Lists e kc ee ss w X) {j : Nat} {s : Sl} (hs : ss[j]? = some s) : ∀ b ∈ ablk s.a, b < w.heap.size := (h.own j s hs).1.lt
def foot (ss : List Sl) : List Nat := ss.flatMap fun s => ablk s.a
theorem mem_foot {ss : List Sl} {b : Nat} : b ∈ foot ss ↔ ∃ (j : Nat) (s : Sl), ss[j]? = some s ∧ b ∈ ablk s.a := by
  unfold foot
  rw [List.mem_flatMap]
  constructor
  · rintro ⟨s, hs, hb⟩
    obtain ⟨j, hj⟩ := List.getElem?_of_mem hs
    exact ⟨j, s, hj, hb⟩
  · rintro ⟨j, s, hj, hb⟩
    exact ⟨s, List.mem_of_getElem? hj, hb⟩

/-- the marks are written: of the lists ahead of the i-th all, of that one k -/
structure Ap (e : TypeId) (kc : Nat) (ee : α → List Value) (mk : Nat → Nat → α) (ss : List Sl) (w0 w : World) (i k : Nat) (Y : Nat → List α) : Prop where
  own : ∀ (j : Nat) (s : Sl), ss[j]? = some s → OwnAt e kc ee w s.a s.c (Y j) ∧ (Y j).length = s.n
  done : ∀ (j : Nat) (s : Sl), ss[j]? = some s → j < i → Y j = mks mk j s.n
  part : ∀ k', k' < k → (Y i)[k']? = some (mk i k')
  upd : Upd (foot ss) w0 w
theorem Ap.start {ss : List Sl} {w : World} {X : Nat → List α} (h : Lists e kc ee ss w X) : Ap e kc ee mk ss w w 0 0 X :=
  ⟨fun j s hs => ⟨(h.own j s hs).1, (h.own j s hs).2.1⟩, fun j s _ hj => by omega, fun k' h => by omega, Upd.refl _ _⟩
theorem Ap.next {ss : List Sl} {w0 w : World} {i : Nat} {Y : Nat → List α} {s : Sl} (h : Ap e kc ee mk ss w0 w i s.n Y) (hs : ss[i]? = some s) : Ap e kc ee mk ss w0 w (i + 1) 0 Y := by
  refine ⟨h.own, fun j t ht hj => ?_, fun k' h => by omega, h.upd⟩
  rcases Nat.lt_or_ge j i with h1 | h1
  · exact h.done j t ht h1
  · obtain rfl : j = i := by omega
    rw [hs] at ht
    cases ht
    refine List.ext_getElem? fun m => ?_
    rcases Nat.lt_or_ge m s.n with h2 | h2
    · rw [h.part m h2, mks_at h2]
    · rw [List.getElem?_eq_none (by rw [(h.own j s hs).2]; exact h2), List.getElem?_eq_none (by rw [mks_len]; exact h2)]
theorem Ap.set {ss : List Sl} {w0 w w2 : World} {i k : Nat} {Y X : Nat → List α} {s : Sl} (hL : Lists e kc ee ss w0 X) (h : Ap e kc ee mk ss w0 w i k Y) (hs : ss[i]? = some s) (hk : k < s.n)
    (ho : OwnAt e kc ee w2 s.a s.c ((Y i).set k (mk i k))) (hu : Upd (ablk s.a) w w2) :
    Ap e kc ee mk ss w0 w2 i (k + 1) (fun j => if j = i then (Y i).set k (mk i k) else Y j) := by
  have hlen := (h.own i s hs).2
  refine ⟨fun j t ht => ?_, fun j t ht hj => ?_, fun k' hk' => ?_, h.upd.then hu (fun b hb _ => mem_foot.2 ⟨i, s, hs, hb⟩)⟩
  · by_cases q : j = i
    · subst q
      rw [hs] at ht
      cases ht
      rw [if_pos rfl]
      exact ⟨ho, by rw [List.length_set]; exact hlen⟩
    · rw [if_neg q]
      have h2 := h.own j t ht
      exact ⟨h2.1.keep hu (fun x hx hx2 => hL.dis j i t s q ht hs _ hx hx2), h2.2⟩
  · rw [if_neg (by omega)]
    exact h.done j t ht hj
  · rw [if_pos rfl, List.getElem?_set]
    split
    · rename_i q; subst q; rw [if_pos (by omega)]
    · exact h.part k' (by omega)

/-- one more stands behind each of the first i -/
structure Aq (e : TypeId) (kc : Nat) (ee : α → List Value) (tl : TypeId) (mk tm : Nat → Nat → α) (ss : List Sl) (w0 w : World) (i : Nat) (am : Option Addr) (cm : Nat) (Z : List Sl) : Prop where
  len : Z.length = i
  own : ∀ (j : Nat) (s : Sl), ss[j]? = some s → i ≤ j → OwnAt e kc ee w s.a s.c (mks mk j s.n)
  rd : ∀ (j : Nat) (s : Sl), ss[j]? = some s → j < i → Rd kc ee w s.a (mks mk j s.n) ∧ ∃ z, Z[j]? = some z ∧ z.n = s.n + 1 ∧ Rd kc ee w z.a (mks mk j s.n ++ [tm j s.n]) ∧ ∀ b ∈ ablk z.a, b < w.heap.size ∧ (b ∈ ablk s.a ∨ (w0.heap.size ≤ b ∧ b ∉ ablk am))
  more : OwnAt tl 1 eeL w am cm Z
  fresh : ∀ b ∈ ablk am, w0.heap.size ≤ b
  upd : Upd (foot ss) w0 w
theorem Aq.start {ss : List Sl} {w0 w : World} {Y : Nat → List α} (h : Ap e kc ee mk ss w0 w ss.length 0 Y) : Aq e kc ee tl mk tm ss w0 w 0 none 0 [] :=
  ⟨rfl, fun j s hs _ => by
    have h1 := h.done j s hs (List.getElem?_eq_some_iff.1 hs).1
    rw [← h1]; exact (h.own j s hs).1, fun j s _ hj => by omega, OwnAt.nil _ _ _ _, by simp [ablk], h.upd⟩
theorem Aq.more3 {ss : List Sl} {w0 w wA w3 : World} {X : Nat → List α} {i : Nat} {am a' : Option Addr} {cm : Nat} {Z : List Sl} {s : Sl} (hL : Lists e kc ee ss w0 X) (h : Aq e kc ee tl mk tm ss w0 w i am cm Z) (hs : ss[i]? = some s)
    (huA : Upd [] w wA) (h3 : (a' = s.a ∧ Upd (ablk s.a) wA w3) ∨ (a' = some ⟨wA.heap.size, 0, none⟩ ∧ Upd [] wA w3)) : OwnAt tl 1 eeL w3 am cm Z := by
  have hu3 : Upd (ablk s.a) w w3 := by
    rcases h3 with ⟨_, h3⟩ | ⟨_, h3⟩
    · exact (huA.mono (by simp)).trans h3
    · exact (huA.mono (by simp)).trans (h3.mono (by simp))
  exact h.more.keep hu3 (fun b hb hx => by
    have := hL.lt hs b hx
    have := h.fresh b hb
    omega)
theorem Aq.step (E : Elem P tsl e kc bytes ee) {ss : List Sl} {w0 w wA w3 wB w4 : World} {X : Nat → List α} {i : Nat} {am am' a' : Option Addr} {cm cm' c' : Nat} {Z : List Sl} {s : Sl} (hL : Lists e kc ee ss w0 X) (h : Aq e kc ee tl mk tm ss w0 w i am cm Z) (hs : ss[i]? = some s)
    (huA : Upd [] w wA) (ho : OwnAt e kc ee w3 a' c' (mks mk i s.n ++ [tm i s.n])) (h3 : (a' = s.a ∧ Upd (ablk s.a) wA w3) ∨ (a' = some ⟨wA.heap.size, 0, none⟩ ∧ Upd [] wA w3)) (huB : Upd [] w3 wB)
    (hm : OwnAt tl 1 eeL w4 am' cm' (Z ++ [⟨a', s.n + 1, c'⟩])) (h4 : (am' = am ∧ Upd (ablk am) wB w4) ∨ (am' = some ⟨wB.heap.size, 0, none⟩ ∧ Upd [] wB w4)) :
    Aq e kc ee tl mk tm ss w0 w4 (i + 1) am' cm' (Z ++ [⟨a', s.n + 1, c'⟩]) := by
  have s0 := h.upd.size
  have sA := huA.size
  have hu3 : Upd (ablk s.a) w w3 := by
    rcases h3 with ⟨_, h3⟩ | ⟨_, h3⟩
    · exact (huA.mono (by simp)).trans h3
    · exact (huA.mono (by simp)).trans (h3.mono (by simp))
  have hu4 : Upd (ablk am) w3 w4 := by
    rcases h4 with ⟨_, h4⟩ | ⟨_, h4⟩
    · exact (huB.mono (by simp)).trans h4
    · exact (huB.mono (by simp)).trans (h4.mono (by simp))
  have s3 := hu3.size
  have s4 := hu4.size
  have sB := huB.size
  have hlts := hL.lt hs
  have hmlt := h.more.lt
  have hol := ho.lt
  -- what the old memory of a list is not
  have hold : ∀ {j : Nat} {t : Sl}, ss[j]? = some t → ∀ b ∈ ablk t.a, b ∉ ablk am := fun {j t} ht b hb hx => by
    have := hL.lt ht b hb
    have := h.fresh b hx
    omega
  have ham : ∀ b ∈ ablk am', (b ∈ ablk am ∨ w3.heap.size ≤ b) := fun b hb => by
    rcases h4 with ⟨e, _⟩ | ⟨e, _⟩
    · rw [e] at hb; exact .inl hb
    · rw [e] at hb; simp [ablk] at hb; right; omega
  refine ⟨by simp [h.len], fun j t ht hj => ?_, fun j t ht hj => ?_, hm, fun b hb => ?_, (h.upd.then hu3 (fun b hb _ => mem_foot.2 ⟨i, s, hs, hb⟩)).then hu4 (fun b hb hl => by have := h.fresh b hb; omega)⟩
  · have h1 := h.own j t ht (by omega)
    exact (h1.keep hu3 (fun b hb hx => hL.dis j i t s (by omega) ht hs b hb hx)).keep hu4 (hold ht)
  · rcases Nat.lt_or_ge j i with hji | hji
    · obtain ⟨r1, z, hz, hzn, r2, hzb⟩ := h.rd j t ht hji
      have hne : ∀ b ∈ ablk z.a, b ∉ ablk s.a := fun b hb hx => by
        rcases (hzb b hb).2 with h5 | ⟨h5, _⟩
        · exact hL.dis j i t s (by omega) ht hs b h5 hx
        · have := hlts b hx; omega
      have hne2 : ∀ b ∈ ablk z.a, b ∉ ablk am := fun b hb hx => by
        rcases (hzb b hb).2 with h5 | ⟨_, h5⟩
        · exact hold ht b h5 hx
        · exact h5 hx
      refine ⟨(r1.keep' E hu3 (fun b hb hx => hL.dis j i t s (by omega) ht hs b hb hx)).keep' E hu4 (hold ht), z, by rw [List.getElem?_append_left (by rw [h.len]; exact hji)]; exact hz, hzn, (r2.keep' E hu3 hne).keep' E hu4 hne2, fun b hb => ⟨by have := (hzb b hb).1; omega, ?_⟩⟩
      rcases (hzb b hb).2 with h5 | ⟨h5, h6⟩
      · exact .inl h5
      · refine .inr ⟨h5, fun hx => ?_⟩
        rcases ham b hx with h7 | h7
        · exact h6 h7
        · have := (hzb b hb).1; omega
    · obtain rfl : j = i := by omega
      rw [hs] at ht
      cases ht
      have hr3 : Rd kc ee w3 s.a (mks mk j s.n) := by
        rcases h3 with ⟨e, _⟩ | ⟨_, h3⟩
        · have := ho.rd E.len
          rw [e] at this
          exact this.left
        · exact ((h.own j s hs (Nat.le_refl _)).keep (huA.trans h3) (by simp)).rd E.len
      have hne : ∀ b ∈ ablk a', b ∉ ablk am := fun b hb hx => by
        rcases h3 with ⟨e, _⟩ | ⟨e, _⟩
        · rw [e] at hb; exact hold hs b hb hx
        · rw [e] at hb; simp [ablk] at hb; have := hmlt b hx; omega
      refine ⟨hr3.keep' E hu4 (hold hs), ⟨a', s.n + 1, c'⟩, by rw [List.getElem?_append_right (by rw [h.len]; exact Nat.le_refl _), h.len]; simp, rfl, (ho.rd E.len).keep' E hu4 hne, fun b hb => ⟨by have := hol b hb; omega, ?_⟩⟩
      rcases h3 with ⟨e, _⟩ | ⟨e, _⟩
      · rw [e] at hb; exact .inl hb
      · refine .inr ⟨by rw [e] at hb; simp [ablk] at hb; omega, fun hx => ?_⟩
        rcases ham b hx with h7 | h7
        · exact hne b hb h7
        · have := hol b hb; omega
  · rcases ham b hb with h5 | h5
    · exact h.fresh b h5
    · omega
end
end Go.Slu
