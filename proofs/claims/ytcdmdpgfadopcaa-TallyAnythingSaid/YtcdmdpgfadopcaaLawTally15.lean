/-
  sluicelaw04: apart: lists that don't meet are written full of marks: the plain part.
-/
import Derived.Test.YtcdmdpgfadopcaaLawTally12
import Derived.Test.YtcdmdpgfadopcaaBaseApp
import Derived.Laws.IdiomStrings
namespace Go.Slu
open Go.MapKept Go.RowKit
/-- a list's three words -/
structure Sl where
  a : Option Addr
  n : Nat
  c : Nat
abbrev eeL (s : Sl) : List Value := [.slice s.a s.n s.c]
/-- 'string([]byte..)' -/
theorem run_str {P : Program} {src dst e : TypeId} (hs : P.underlying src = some (.slice e)) (he : P.underlying e = some (.int .u8)) (hd : P.underlying dst = some .string) (W : World) (l : List UInt8) (cs : Array Value) (hcs : cs.toList = l.map fun b => Value.int .u8 (b.toNat : Int)) :
    (convert src dst (.slice (some ⟨W.heap.size, 0, none⟩) l.length l.length)).run P (W.alloc (.cells cs e)) = .ok (.string ⟨l.toArray⟩) (W.alloc (.cells cs e)) := by
  refine run_convert_bytes_back _ src dst e _ _ l hs he hd (fun j hj => ?_)
  have := cell_new W cs e j (v := .int .u8 (l[j].toNat : Int)) (by rw [← Array.getElem?_toList, hcs]; simp [hj])
  rw [addr_add, Nat.zero_add]
  exact this
theorem Rd.left {k : Nat} {α : Type} {ee : α → List Value} {w : World} {a : Option Addr} {xs ys : List α} (h : Rd k ee w a (xs ++ ys)) : Rd k ee w a xs := by
  have := h.take xs.length
  rwa [List.take_left] at this
end Go.Slu
namespace Go.Proofs.Ytcdmdpgfadopcaa
open Go.Slu Go.MapKept Go.RowKit Go.Sort
theorem info72 : (Try.prog.info? 72).map (fun i => (i.zero, i.size, i.bytes)) = some (some (.slice none 0 0), 1, 24) := by kernel_rfl
theorem elemL : Elem Try.prog 78 72 1 24 eeL where
  ht := Try.underlying78
  info := by obtain ⟨i, h1, h2, h3, h4⟩ := info_parts info72; exact ⟨i, _, h1, h2, h3, h4, rfl⟩
  pos := by omega
  len _ := rfl
  one _ u hu := by simp [eeL] at hu; subst hu; rfl

/-- a mark of four bytes; one of two -/
def mkS (i k : Nat) : Str := ⟨⟨[255, UInt8.ofNat i, UInt8.ofNat k, UInt8.ofNat (k / 256)].toArray⟩, by simp [maxLen, ByteArray.size]⟩
def tlS (i : Nat) : Str := ⟨⟨[254, UInt8.ofNat i].toArray⟩, by simp [maxLen, ByteArray.size]⟩
theorem conv4 (i k : Nat) (hi : i < 256) (W : World) :
    (convert 145 9 (.slice (some ⟨W.heap.size, 0, none⟩) 4 4)).run Try.prog (W.alloc (.cells #[.int .u8 255, .int .u8 i, .int .u8 ((k : Int) % 256), .int .u8 ((k : Int) / 256 % 256)] 5)) = .ok (.string (mkS i k).s) (W.alloc (.cells #[.int .u8 255, .int .u8 i, .int .u8 ((k : Int) % 256), .int .u8 ((k : Int) / 256 % 256)] 5)) := by
  refine run_str Try.underlying145 Try.underlying5 Try.underlying9 W [255, UInt8.ofNat i, UInt8.ofNat k, UInt8.ofNat (k / 256)] _ ?_
  have h1 : i % 256 = i := Nat.mod_eq_of_lt hi
  simp [h1]
theorem conv2 (i : Nat) (hi : i < 256) (W : World) :
    (convert 145 9 (.slice (some ⟨W.heap.size, 0, none⟩) 2 2)).run Try.prog (W.alloc (.cells #[.int .u8 254, .int .u8 i] 5)) = .ok (.string (tlS i).s) (W.alloc (.cells #[.int .u8 254, .int .u8 i] 5)) := by
  refine run_str Try.underlying145 Try.underlying5 Try.underlying9 W [254, UInt8.ofNat i] _ ?_
  have h1 : i % 256 = i := Nat.mod_eq_of_lt hi
  simp [h1]
/-- a list full of marks -/
def mks (j n : Nat) : List Str := (List.range n).map (mkS j)
theorem mks_at {j n k : Nat} (h : k < n) : (mks j n)[k]? = some (mkS j k) := by simp [mks, h]
theorem mks_len (j n : Nat) : (mks j n).length = n := by simp [mks]

/-- what is asked of the lists -/
structure Lists (ss : List Sl) (w : World) (X : Nat → List Str) : Prop where
  own : ∀ (j : Nat) (s : Sl), ss[j]? = some s → OwnAt 9 1 eeS w s.a s.c (X j) ∧ (X j).length = s.n ∧ s.n ≤ 1000000
  dis : ∀ (i j : Nat) (s t : Sl), i ≠ j → ss[i]? = some s → ss[j]? = some t → ∀ b ∈ ablk s.a, b ∉ ablk t.a
theorem Lists.lt {ss : List Sl} {w : World} {X : Nat → List Str} (h : Lists ss w X) {j : Nat} {s : Sl} (hs : ss[j]? = some s) : ∀ b ∈ ablk s.a, b < w.heap.size := (h.own j s hs).1.lt
def foot (ss : List Sl) : List Nat := ss.flatMap fun s => ablk s.a
theorem mem_foot {ss : List Sl} {b : Nat} : b ∈ foot ss ↔ ∃ (j : Nat) (s : Sl), ss[j]? = some s ∧ b ∈ ablk s.a := by
  unfold foot
  rw [List.mem_flatMap]
  constructor
  · rintro ⟨s, hs, hb⟩
    obtain ⟨j, hj⟩ := List.getElem?_of_mem hs
    exact ⟨j, s, hj, hb⟩
  · rintro ⟨j, s, hj, hb⟩
    exact ⟨s, List.mem_of_getElem? hj, hb⟩

/-- the marks are written: of the lists ahead of the i-th all, of that one k -/
structure Ap (ss : List Sl) (w0 w : World) (i k : Nat) (Y : Nat → List Str) : Prop where
  own : ∀ (j : Nat) (s : Sl), ss[j]? = some s → OwnAt 9 1 eeS w s.a s.c (Y j) ∧ (Y j).length = s.n
  done : ∀ (j : Nat) (s : Sl), ss[j]? = some s → j < i → Y j = mks j s.n
  part : ∀ k', k' < k → (Y i)[k']? = some (mkS i k')
  upd : Upd (foot ss) w0 w
theorem Ap.start {ss : List Sl} {w : World} {X : Nat → List Str} (h : Lists ss w X) : Ap ss w w 0 0 X :=
  ⟨fun j s hs => ⟨(h.own j s hs).1, (h.own j s hs).2.1⟩, fun j s _ hj => by omega, fun k' h => by omega, Upd.refl _ _⟩
theorem Ap.next {ss : List Sl} {w0 w : World} {i : Nat} {Y : Nat → List Str} {s : Sl} (h : Ap ss w0 w i s.n Y) (hs : ss[i]? = some s) : Ap ss w0 w (i + 1) 0 Y := by
  refine ⟨h.own, fun j t ht hj => ?_, fun k' h => by omega, h.upd⟩
  rcases Nat.lt_or_ge j i with h1 | h1
  · exact h.done j t ht h1
  · obtain rfl : j = i := by omega
    rw [hs] at ht
    cases ht
    refine List.ext_getElem? fun m => ?_
    rcases Nat.lt_or_ge m s.n with h2 | h2
    · rw [h.part m h2, mks_at h2]
    · rw [List.getElem?_eq_none (by rw [(h.own j s hs).2]; exact h2), List.getElem?_eq_none (by rw [mks_len]; exact h2)]
theorem Ap.set {ss : List Sl} {w0 w w1 w2 : World} {i k : Nat} {Y X : Nat → List Str} {s : Sl} {g : Nat} {cur : Array Value} {te : TypeId} (hL : Lists ss w0 X) (h : Ap ss w0 w i k Y) (hs : ss[i]? = some s) (hk : k < s.n) (ha : s.a = some ⟨g, 0, none⟩)
    (hb : w.heap[g]? = some (.cells cur te (0, 0))) (hu1 : Upd [] w w1) (hb2 : w2.heap[g]? = some (.cells (cur.setIfInBounds k (.string (mkS i k).s)) te (0, 0))) (hu2 : Upd [g] w1 w2) :
    Ap ss w0 w2 i (k + 1) (fun j => if j = i then (Y i).set k (mkS i k) else Y j) := by
  have hu : Upd [g] w w2 := (hu1.mono (by simp)).trans hu2
  have hown := h.own i s hs
  have hlen := hown.2
  refine ⟨fun j t ht => ?_, fun j t ht hj => ?_, fun k' hk' => ?_, h.upd.then hu (fun b hb hl => by simp at hb; subst hb; exact mem_foot.2 ⟨i, s, hs, by simp [ha, ablk]⟩)⟩
  · by_cases e : j = i
    · subst e
      rw [hs] at ht
      cases ht
      have h1 := hown.1
      rw [ha] at h1
      rw [if_pos rfl, ha]
      exact ⟨OwnAt.setAt (fun _ => rfl) h1 rfl (by omega) hb hb2, by rw [List.length_set]; exact hlen⟩
    · rw [if_neg e]
      have h2 := h.own j t ht
      exact ⟨h2.1.keep hu (fun x hx hx2 => by simp at hx2; subst hx2; exact hL.dis j i t s e ht hs _ hx (by simp [ha, ablk])), h2.2⟩
  · rw [if_neg (by omega)]
    exact h.done j t ht hj
  · rw [if_pos rfl, List.getElem?_set]
    split
    · rename_i e; subst e; rw [if_pos (by omega)]
    · exact h.part k' (by omega)

/-- one more stands behind each of the first i -/
structure Aq (ss : List Sl) (w0 w : World) (i : Nat) (am : Option Addr) (cm : Nat) (Z : List Sl) : Prop where
  len : Z.length = i
  own : ∀ (j : Nat) (s : Sl), ss[j]? = some s → i ≤ j → OwnAt 9 1 eeS w s.a s.c (mks j s.n)
  rd : ∀ (j : Nat) (s : Sl), ss[j]? = some s → j < i → Rd 1 eeS w s.a (mks j s.n) ∧ ∃ z, Z[j]? = some z ∧ z.n = s.n + 1 ∧ Rd 1 eeS w z.a (mks j s.n ++ [tlS j]) ∧ ∀ b ∈ ablk z.a, b < w.heap.size ∧ (b ∈ ablk s.a ∨ (w0.heap.size ≤ b ∧ b ∉ ablk am))
  more : OwnAt 72 1 eeL w am cm Z
  fresh : ∀ b ∈ ablk am, w0.heap.size ≤ b
  upd : Upd (foot ss) w0 w
theorem Aq.start {ss : List Sl} {w0 w : World} {Y : Nat → List Str} (h : Ap ss w0 w ss.length 0 Y) : Aq ss w0 w 0 none 0 [] :=
  ⟨rfl, fun j s hs _ => by
    have h1 := h.done j s hs (List.getElem?_eq_some_iff.1 hs).1
    rw [← h1]; exact (h.own j s hs).1, fun j s _ hj => by omega, OwnAt.nil _ _ _ _, by simp [ablk], h.upd⟩
theorem Aq.more3 {ss : List Sl} {w0 w wA w3 : World} {X : Nat → List Str} {i : Nat} {am a' : Option Addr} {cm : Nat} {Z : List Sl} {s : Sl} (hL : Lists ss w0 X) (h : Aq ss w0 w i am cm Z) (hs : ss[i]? = some s)
    (huA : Upd [] w wA) (h3 : (a' = s.a ∧ Upd (ablk s.a) wA w3) ∨ (a' = some ⟨wA.heap.size, 0, none⟩ ∧ Upd [] wA w3)) : OwnAt 72 1 eeL w3 am cm Z := by
  have hu3 : Upd (ablk s.a) w w3 := by
    rcases h3 with ⟨_, h3⟩ | ⟨_, h3⟩
    · exact (huA.mono (by simp)).trans h3
    · exact (huA.mono (by simp)).trans (h3.mono (by simp))
  exact h.more.keep hu3 (fun b hb hx => by
    have := hL.lt hs b hx
    have := h.fresh b hb
    omega)
theorem Aq.step {ss : List Sl} {w0 w wA w3 wB w4 : World} {X : Nat → List Str} {i : Nat} {am am' a' : Option Addr} {cm cm' c' : Nat} {Z : List Sl} {s : Sl} (hL : Lists ss w0 X) (h : Aq ss w0 w i am cm Z) (hs : ss[i]? = some s)
    (huA : Upd [] w wA) (ho : OwnAt 9 1 eeS w3 a' c' (mks i s.n ++ [tlS i])) (h3 : (a' = s.a ∧ Upd (ablk s.a) wA w3) ∨ (a' = some ⟨wA.heap.size, 0, none⟩ ∧ Upd [] wA w3)) (huB : Upd [] w3 wB)
    (hm : OwnAt 72 1 eeL w4 am' cm' (Z ++ [⟨a', s.n + 1, c'⟩])) (h4 : (am' = am ∧ Upd (ablk am) wB w4) ∨ (am' = some ⟨wB.heap.size, 0, none⟩ ∧ Upd [] wB w4)) :
    Aq ss w0 w4 (i + 1) am' cm' (Z ++ [⟨a', s.n + 1, c'⟩]) := by
  have s0 := h.upd.size
  have sA := huA.size
  have hu3 : Upd (ablk s.a) w w3 := by
    rcases h3 with ⟨_, h3⟩ | ⟨_, h3⟩
    · exact (huA.mono (by simp)).trans h3
    · exact (huA.mono (by simp)).trans (h3.mono (by simp))
  have hu4 : Upd (ablk am) w3 w4 := by
    rcases h4 with ⟨_, h4⟩ | ⟨_, h4⟩
    · exact (huB.mono (by simp)).trans h4
    · exact (huB.mono (by simp)).trans (h4.mono (by simp))
  have s3 := hu3.size
  have s4 := hu4.size
  have sB := huB.size
  have hlts := hL.lt hs
  have hmlt := h.more.lt
  have hol := ho.lt
  -- what the old memory of a list is not
  have hold : ∀ {j : Nat} {t : Sl}, ss[j]? = some t → ∀ b ∈ ablk t.a, b ∉ ablk am := fun {j t} ht b hb hx => by
    have := hL.lt ht b hb
    have := h.fresh b hx
    omega
  have ham : ∀ b ∈ ablk am', (b ∈ ablk am ∨ w3.heap.size ≤ b) := fun b hb => by
    rcases h4 with ⟨e, _⟩ | ⟨e, _⟩
    · rw [e] at hb; exact .inl hb
    · rw [e] at hb; simp [ablk] at hb; right; omega
  refine ⟨by simp [h.len], fun j t ht hj => ?_, fun j t ht hj => ?_, hm, fun b hb => ?_, (h.upd.then hu3 (fun b hb _ => mem_foot.2 ⟨i, s, hs, hb⟩)).then hu4 (fun b hb hl => by have := h.fresh b hb; omega)⟩
  · have h1 := h.own j t ht (by omega)
    exact (h1.keep hu3 (fun b hb hx => hL.dis j i t s (by omega) ht hs b hb hx)).keep hu4 (hold ht)
  · rcases Nat.lt_or_ge j i with hji | hji
    · obtain ⟨r1, z, hz, hzn, r2, hzb⟩ := h.rd j t ht hji
      have hne : ∀ b ∈ ablk z.a, b ∉ ablk s.a := fun b hb hx => by
        rcases (hzb b hb).2 with h5 | ⟨h5, _⟩
        · exact hL.dis j i t s (by omega) ht hs b h5 hx
        · have := hlts b hx; omega
      have hne2 : ∀ b ∈ ablk z.a, b ∉ ablk am := fun b hb hx => by
        rcases (hzb b hb).2 with h5 | ⟨_, h5⟩
        · exact hold ht b h5 hx
        · exact h5 hx
      refine ⟨(r1.keep' elemS hu3 (fun b hb hx => hL.dis j i t s (by omega) ht hs b hb hx)).keep' elemS hu4 (hold ht), z, by rw [List.getElem?_append_left (by rw [h.len]; exact hji)]; exact hz, hzn, (r2.keep' elemS hu3 hne).keep' elemS hu4 hne2, fun b hb => ⟨by have := (hzb b hb).1; omega, ?_⟩⟩
      rcases (hzb b hb).2 with h5 | ⟨h5, h6⟩
      · exact .inl h5
      · refine .inr ⟨h5, fun hx => ?_⟩
        rcases ham b hx with h7 | h7
        · exact h6 h7
        · have := (hzb b hb).1; omega
    · obtain rfl : j = i := by omega
      rw [hs] at ht
      cases ht
      have hr3 : Rd 1 eeS w3 s.a (mks j s.n) := by
        rcases h3 with ⟨e, _⟩ | ⟨_, h3⟩
        · have := ho.rd elemS.len
          rw [e] at this
          exact this.left
        · exact ((h.own j s hs (Nat.le_refl _)).keep (huA.trans h3) (by simp)).rd elemS.len
      have hne : ∀ b ∈ ablk a', b ∉ ablk am := fun b hb hx => by
        rcases h3 with ⟨e, _⟩ | ⟨e, _⟩
        · rw [e] at hb; exact hold hs b hb hx
        · rw [e] at hb; simp [ablk] at hb; have := hmlt b hx; omega
      refine ⟨hr3.keep' elemS hu4 (hold hs), ⟨a', s.n + 1, c'⟩, by rw [List.getElem?_append_right (by rw [h.len]; exact Nat.le_refl _), h.len]; simp, rfl, (ho.rd elemS.len).keep' elemS hu4 hne, fun b hb => ⟨by have := hol b hb; omega, ?_⟩⟩
      rcases h3 with ⟨e, _⟩ | ⟨e, _⟩
      · rw [e] at hb; exact .inl hb
      · refine .inr ⟨by rw [e] at hb; simp [ablk] at hb; omega, fun hx => ?_⟩
        rcases ham b hx with h7 | h7
        · exact hne b hb h7
        · have := hol b hb; omega
  · rcases ham b hb with h5 | h5
    · exact h.fresh b h5
    · omega
end Go.Proofs.Ytcdmdpgfadopcaa
