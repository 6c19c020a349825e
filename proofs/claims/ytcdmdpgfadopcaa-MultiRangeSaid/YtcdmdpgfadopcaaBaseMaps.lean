/-
  Own base, program-free: which blocks a step may turn ('Upd'), and maps in memory as lists of pairs ('MapRep'), with the run of each operation on them.
-/
import Derived.Maps.RangeRun
import Derived.Maps.OwnSet
import Derived.WalkKit
import Derived.Shelf.SlMaps.Clone
import Derived.Deep.Draws
namespace Go.Slu
open Go.MapKept Go.RowKit
open Go.ChangeMaps (setBlock heap_setBlock_same heap_setBlock_other)

/-- From w to w': of the blocks that stood only those of X may have turned; new ones may have come. -/
structure Upd (X : List Nat) (w w' : World) : Prop where
  os : w'.os = w.os
  tape : w'.tape = w.tape
  output : w'.output = w.output
  size : w.heap.size ≤ w'.heap.size
  block : ∀ k, k < w.heap.size → k ∉ X → w'.heap[k]? = w.heap[k]?

theorem Upd.refl (X : List Nat) (w : World) : Upd X w w := ⟨rfl, rfl, rfl, Nat.le_refl _, fun _ _ _ => rfl⟩
theorem Upd.trans {X : List Nat} {a b c : World} (h : Upd X a b) (k : Upd X b c) : Upd X a c :=
  ⟨k.os.trans h.os, k.tape.trans h.tape, k.output.trans h.output, Nat.le_trans h.size k.size,
   fun i hi hx => (k.block i (Nat.lt_of_lt_of_le hi h.size) hx).trans (h.block i hi hx)⟩
theorem Upd.mono {X Y : List Nat} {a b : World} (h : Upd X a b) (hs : ∀ k, k < a.heap.size → k ∈ X → k ∈ Y) : Upd Y a b :=
  ⟨h.os, h.tape, h.output, h.size, fun i hi hx => h.block i hi (fun hm => hx (hs i hi hm))⟩
/-- A step behind another: what it turns either is allowed already or is new. -/
theorem Upd.then {X Y : List Nat} {a b c : World} (h : Upd X a b) (k : Upd Y b c) (hs : ∀ i, i ∈ Y → i < a.heap.size → i ∈ X) : Upd X a c :=
  ⟨k.os.trans h.os, k.tape.trans h.tape, k.output.trans h.output, Nat.le_trans h.size k.size,
   fun i hi hx => (k.block i (Nat.lt_of_lt_of_le hi h.size) (fun hm => hx (hs i hm hi))).trans (h.block i hi hx)⟩
theorem Upd.alloc {X : List Nat} {a w : World} (h : Upd X a w) (o : Obj) : Upd X a (w.alloc o) :=
  h.trans ⟨rfl, rfl, rfl, by simp, fun k hk _ => Below.heap_alloc _ _ _ hk⟩
theorem Upd.drew {X : List Nat} {a w : World} (h : Upd X a w) : Upd X a w.drew := ⟨h.os, h.tape, h.output, h.size, h.block⟩
theorem Upd.drewN {X : List Nat} {a w : World} (h : Upd X a w) (n : Nat) : Upd X a (w.drewN n) := ⟨h.os, h.tape, h.output, h.size, h.block⟩
theorem Upd.of_below {X : List Nat} {w w' : World} (h : Below w.heap.size w w') : Upd X w w' := ⟨h.os, h.tape, h.output, h.size, fun k hk _ => h.block k hk⟩
theorem Upd.below {w w' : World} (h : Upd [] w w') : Below w.heap.size w w' := ⟨h.os, h.tape, h.output, h.size, fun k hk => h.block k hk (by simp)⟩
theorem Upd.of_grown {X : List Nat} {w w' : World} {row : Option Nat} (h : w.grownBy w' row) (hr : ∀ k, row = some k → k < w.heap.size → k ∈ X) : Upd X w w' :=
  ⟨h.os, h.tape, h.output, h.size, fun k hk hx => h.block k hk (fun e => hx (hr k e.symm hk))⟩
theorem Upd.setCell {X : List Nat} {a w : World} (h : Upd X a w) (p : Addr) (u : Value) (hp : p.block < a.heap.size → p.block ∈ X) : Upd X a (w.setCell p u) :=
  ⟨h.os, h.tape, h.output, by simpa [World.setCell] using h.size, fun k hk hx => by
    rw [Below.heap_setCell _ _ _ _ (fun e => hx (by rw [e] at hk ⊢; exact hp hk))]; exact h.block k hk hx⟩
theorem Upd.cell {X : List Nat} {w w' : World} (h : Upd X w w') {p : Addr} (hp : p.block < w.heap.size) (hx : p.block ∉ X) : w'.cell? p = w.cell? p :=
  World.cell?_of_block (w := w) (h.block p.block hp hx)
theorem Upd.frozen {X : List Nat} {w w' : World} (h : Upd X w w') {p : Addr} (hp : p.block < w.heap.size) (hx : p.block ∉ X) : w'.frozen? p = w.frozen? p :=
  World.frozen?_of_block (w := w) (h.block p.block hp hx)
theorem lt_of_cell {w : World} {p : Addr} {v : Value} (h : w.cell? p = some v) : p.block < w.heap.size := by
  unfold World.cell? at h
  rcases Nat.lt_or_ge p.block w.heap.size with h' | h'
  · exact h'
  · simp [Array.getElem?_eq_none h'] at h
/-- a cell that was read before -/
theorem Upd.cellS {X : List Nat} {w w' : World} (h : Upd X w w') {p : Addr} {v : Value} (hv : w.cell? p = some v) (hx : p.block ∉ X) : w'.cell? p = some v :=
  (h.cell (lt_of_cell hv) hx).trans hv
theorem lt_of_block {w : World} {b : Nat} {o : Obj} (h : w.heap[b]? = some o) : b < w.heap.size := (Array.getElem?_eq_some_iff.1 h).1
theorem Upd.at {X : List Nat} {w w' : World} (h : Upd X w w') {b : Nat} {o : Obj} (hb : w.heap[b]? = some o) (hx : b ∉ X) : w'.heap[b]? = some o :=
  (h.block b (lt_of_block hb) hx).trans hb
theorem Upd.lt {X : List Nat} {w w' : World} (h : Upd X w w') {b : Nat} (hb : b < w.heap.size) : b < w'.heap.size := Nat.lt_of_lt_of_le hb h.size

/-! ### lists of pairs, as finite maps -/
section
variable {κ ν : Type} [DecidableEq κ]
/-- what stands at a key -/
def lk : List (κ × ν) → κ → Option ν
  | [], _ => none
  | p :: r, x => if p.1 = x then some p.2 else lk r x
/-- a key gets a value -/
def put : List (κ × ν) → κ → ν → List (κ × ν)
  | [], x, v => [(x, v)]
  | p :: r, x, v => if p.1 = x then (x, v) :: r else p :: put r x v
/-- a key goes -/
def del (m : List (κ × ν)) (x : κ) : List (κ × ν) := m.filter (fun p => decide (p.1 ≠ x))

theorem lk_none {m : List (κ × ν)} {x : κ} : lk m x = none ↔ x ∉ m.map (·.1) := by
  induction m with
  | nil => simp [lk]
  | cons p r ih =>
    simp only [lk, List.map_cons, List.mem_cons, not_or]
    by_cases h : p.1 = x
    · simp [h]
    · simp [h, ih, Ne.symm h]
theorem lk_mem {m : List (κ × ν)} {x : κ} {v : ν} (h : lk m x = some v) : (x, v) ∈ m := by
  induction m with
  | nil => simp [lk] at h
  | cons p r ih =>
    simp only [lk] at h
    split at h
    · rename_i e; cases h; subst e; simp
    · exact List.mem_cons_of_mem _ (ih h)
theorem lk_of_mem {m : List (κ × ν)} (hd : (m.map (·.1)).Nodup) {x : κ} {v : ν} (h : (x, v) ∈ m) : lk m x = some v := by
  induction m with
  | nil => cases h
  | cons p r ih =>
    simp only [List.map_cons, List.nodup_cons] at hd
    simp only [lk]
    rcases List.mem_cons.1 h with e | h
    · subst e; simp
    · have : p.1 ≠ x := fun e => hd.1 (e ▸ List.mem_map_of_mem (f := (·.1)) h)
      simp [this, ih hd.2 h]
theorem lk_put (m : List (κ × ν)) (x : κ) (v : ν) (y : κ) : lk (put m x v) y = if y = x then some v else lk m y := by
  induction m with
  | nil => simp only [put, lk]; by_cases h : x = y <;> simp [h, eq_comm]
  | cons p r ih =>
    simp only [put]
    by_cases h : p.1 = x
    · simp only [h, if_true, lk]
      by_cases h2 : x = y
      · simp [h2]
      · simp [h2, Ne.symm h2]
    · simp only [h, if_false, lk, ih]
      by_cases h2 : p.1 = y
      · have : y ≠ x := fun e => h (h2.trans e)
        simp [h2, this]
      · simp [h2]
theorem put_keys_perm (m : List (κ × ν)) (x : κ) (v : ν) : (put m x v).map (·.1) = if x ∈ m.map (·.1) then m.map (·.1) else m.map (·.1) ++ [x] := by
  induction m with
  | nil => simp [put]
  | cons p r ih =>
    simp only [put]
    by_cases h : p.1 = x
    · simp [h]
    · simp only [h, if_false, List.map_cons, ih, List.mem_cons, Ne.symm h, false_or]
      split <;> simp
theorem put_nodup {m : List (κ × ν)} (hd : (m.map (·.1)).Nodup) (x : κ) (v : ν) : ((put m x v).map (·.1)).Nodup := by
  rw [put_keys_perm]
  split
  · exact hd
  · rename_i h
    rw [List.nodup_append]
    exact ⟨hd, by simp, fun a ha b hb e => by simp at hb; subst hb; exact h (e ▸ ha)⟩
theorem mem_put {m : List (κ × ν)} {x : κ} {v : ν} {p : κ × ν} (h : p ∈ put m x v) : p = (x, v) ∨ p ∈ m := by
  induction m with
  | nil => simp only [put, List.mem_singleton] at h; exact .inl h
  | cons q r ih =>
    simp only [put] at h
    split at h
    · rcases List.mem_cons.1 h with h | h
      · exact .inl h
      · exact .inr (List.mem_cons_of_mem _ h)
    · rcases List.mem_cons.1 h with h | h
      · exact .inr (h ▸ List.mem_cons_self ..)
      · exact (ih h).imp id (List.mem_cons_of_mem _)
theorem lk_skip (l1 l2 : List (κ × ν)) {x y : κ} {v : ν} (h : y ≠ x) : lk (l1 ++ (x, v) :: l2) y = lk (l1 ++ l2) y := by
  induction l1 with
  | nil => simp [lk, Ne.symm h]
  | cons p r ih => simp only [List.cons_append, lk, ih]
theorem lk_del (m : List (κ × ν)) (x y : κ) : lk (del m x) y = if y = x then none else lk m y := by
  induction m with
  | nil => simp [del, lk]
  | cons p r ih =>
    unfold del at *
    by_cases h : p.1 = x
    · simp only [List.filter_cons, h, ne_eq, not_true, decide_false, Bool.false_eq_true, if_false, ih, lk]
      by_cases h2 : y = x
      · simp [h2]
      · simp [h2, Ne.symm h2]
    · simp only [List.filter_cons, ne_eq, h, not_false_iff, decide_true, if_true, lk, ih]
      by_cases h2 : p.1 = y
      · have : y ≠ x := fun e => h (h2.trans e)
        simp [h2, this]
      · simp [h2]
theorem del_nodup {m : List (κ × ν)} (hd : (m.map (·.1)).Nodup) (x : κ) : ((del m x).map (·.1)).Nodup :=
  List.Nodup.sublist ((List.filter_sublist).map _) hd
end

/-! ### keys -/
/-- WHAT THE OPERATIONS ON A MAP NEED OF ITS KEYS: 'ek' writes a key as a value. -/
structure KeyOps (P : Program) (kt : TypeId) {κ : Type} (ek : κ → Value) : Prop where
  inj : ∀ x y, ek x = ek y → x = y
  check : ∀ (w : World) (em : Bool) (x : κ), (Instr.checkKey em 10000 kt (ek x)).run P w = .ok () w
  find : ∀ (w : World) (x : κ) (es : List MapEntry), (∀ e ∈ es, ∃ y, e.key = ek y) →
    ((Instr.findKey kt (ek x) es).run P w = .ok none w ∧ ∀ e ∈ es, e.key ≠ ek x) ∨
    ∃ j e, (Instr.findKey kt (ek x) es).run P w = .ok (some (j, e.val)) w ∧ es[j]? = some e ∧ e.key = ek x
  stays : ∀ (w : World) (x : κ), (Instr.keyThatStays (ek x) (ek x)).run P w = .ok (ek x) w

theorem KeyOps.of_law {P : Program} {kt : TypeId} (K : WideMaps.KeyLaw P kt) {κ : Type} {ek : κ → Value} (hinj : ∀ x y, ek x = ek y → x = y) (hl : ∀ x, ∃ l, keyOf P kt (ek x) = some l) : KeyOps P kt ek where
  inj := hinj
  check w em x := let ⟨_, h⟩ := hl x; K.check w em h
  find w x es hes := let ⟨_, h⟩ := hl x; K.find w h es (fun e he => let ⟨y, hy⟩ := hes e he; hy ▸ hl y)
  stays w x := let ⟨_, h⟩ := hl x; K.stays w h

theorem KeyOps.plain {P : Program} {kt : TypeId} {d : TypeDesc} (hd : P.underlying kt = some d) {κ : Type} {ek : κ → Value} (hinj : ∀ x y, ek x = ek y → x = y) (hk : ∀ x, IsKey d (ek x)) : KeyOps P kt ek where
  inj := hinj
  check w em x := run_checkKey hd (hk x) em 9999
  find w x es hes := by
    rcases findNow_spec (hk x) es 0 (fun e he => let ⟨y, hy⟩ := hes e he; hy ▸ hk y) with ⟨h1, h2⟩ | ⟨j, e, h1, h2, h3⟩
    · exact .inl ⟨run_findKey hd h1, h2⟩
    · exact .inr ⟨j, e, by simpa using run_findKey hd h1, h2, h3⟩
  stays w x := run_keyThatStays (hk x)

theorem keyOps_string {P : Program} {kt : TypeId} (hd : P.underlying kt = some .string) : KeyOps P kt Value.string :=
  KeyOps.plain hd (fun _ _ h => by cases h; rfl) (fun _ => trivial)
theorem keyOps_int {P : Program} {kt : TypeId} {k : IntKind} (hd : P.underlying kt = some (.int k)) : KeyOps P kt (Value.int k) :=
  KeyOps.plain hd (fun _ _ h => by cases h; rfl) (fun _ => rfl)

/-! ### a map in memory -/
/-- BLOCK b HOLDS A MAP THAT IS THE LIST m OF PAIRS (in the order in which they were laid). -/
def MapRep {κ ν : Type} (ek : κ → Value) (ev : ν → Value) (w : World) (b : Nat) (m : List (κ × ν)) : Prop :=
  ∃ es clock, w.heap[b]? = some (.map es clock) ∧ Stamped es clock ∧ es.toList.map (fun e => (e.key, e.val)) = m.map (fun p => (ek p.1, ev p.2))

section
variable {P : Program} {kt : TypeId} {κ ν : Type} [DecidableEq κ] {ek : κ → Value} {ev : ν → Value} {w : World} {b : Nat} {m : List (κ × ν)}

omit [DecidableEq κ] in
theorem MapRep.lt (h : MapRep ek ev w b m) : b < w.heap.size := let ⟨_, _, hb, _⟩ := h; lt_of_block hb
omit [DecidableEq κ] in
theorem MapRep.keep {X : List Nat} {w' : World} (h : MapRep ek ev w b m) (hu : Upd X w w') (hx : b ∉ X) : MapRep ek ev w' b m :=
  let ⟨es, c, hb, r⟩ := h; ⟨es, c, hu.at hb hx, r⟩
omit [DecidableEq κ] in
theorem MapRep.made (w : World) : MapRep ek ev (w.alloc (.map #[] 0)) w.heap.size ([] : List (κ × ν)) :=
  ⟨#[], 0, (heap_alloc w _).1, stamped_empty 0, rfl⟩
omit [DecidableEq κ] in
theorem MapRep.nodup (_K : KeyOps P kt ek) (h : MapRep ek ev w b m) : (m.map (·.1)).Nodup := by
  obtain ⟨es, c, _, hs, he⟩ := h
  have h1 := hs.2.2
  have h2 : es.toList.map (·.key) = (m.map (·.1)).map ek := by
    have := congrArg (List.map Prod.fst) he
    simpa [List.map_map, Function.comp_def] using this
  rw [h2] at h1
  exact (List.pairwise_map.1 h1).imp (fun {a b} h e => h (congrArg ek e))

omit [DecidableEq κ] in
/-- the entry at a position is the pair there -/
theorem entry_pair {es : Array MapEntry} (he : es.toList.map (fun e => (e.key, e.val)) = m.map (fun p => (ek p.1, ev p.2))) {j : Nat} {e : MapEntry} (hj : es.toList[j]? = some e) :
    ∃ p, m[j]? = some p ∧ e.key = ek p.1 ∧ e.val = ev p.2 := by
  have := congrArg (fun l => l[j]?) he
  simp only [List.getElem?_map, hj, Option.map_some] at this
  cases hm : m[j]? with
  | none => simp [hm] at this
  | some p => simp [hm] at this; exact ⟨p, rfl, this.1, this.2⟩
omit [DecidableEq κ] in
theorem entries_keys {es : Array MapEntry} (he : es.toList.map (fun e => (e.key, e.val)) = m.map (fun p => (ek p.1, ev p.2))) : ∀ e ∈ es.toList, ∃ y, e.key = ek y := fun e hm => by
  obtain ⟨j, hj⟩ := List.getElem?_of_mem hm
  obtain ⟨p, _, h, _⟩ := entry_pair he hj
  exact ⟨p.1, h⟩
/-- what 'findKey' finds is what 'lk' tells -/
theorem MapRep.found (K : KeyOps P kt ek) {es : Array MapEntry} (hd : (m.map (·.1)).Nodup) (he : es.toList.map (fun e => (e.key, e.val)) = m.map (fun p => (ek p.1, ev p.2))) (x : κ) (w : World) :
    ((Instr.findKey kt (ek x) es.toList).run P w = .ok none w ∧ lk m x = none) ∨
    ∃ j p, (Instr.findKey kt (ek x) es.toList).run P w = .ok (some (j, ev p.2)) w ∧ m[j]? = some p ∧ p.1 = x ∧ lk m x = some p.2 := by
  rcases K.find w x es.toList (entries_keys he) with ⟨h1, h2⟩ | ⟨j, e, h1, h2, h3⟩
  · refine .inl ⟨h1, lk_none.2 fun hx => ?_⟩
    obtain ⟨p, hp, rfl⟩ := List.mem_map.1 hx
    have : (ek p.1, ev p.2) ∈ es.toList.map (fun e => (e.key, e.val)) := he ▸ List.mem_map_of_mem (f := fun p => (ek p.1, ev p.2)) hp
    obtain ⟨e, hem, hee⟩ := List.mem_map.1 this
    exact h2 e hem (by have := congrArg Prod.fst hee; exact this)
  · obtain ⟨p, hp, hk, hv⟩ := entry_pair he h2
    have : p.1 = x := K.inj _ _ (hk.symm.trans h3)
    refine .inr ⟨j, p, by rw [h1, hv], hp, this, lk_of_mem hd ?_⟩
    subst this
    exact List.mem_of_getElem? hp

theorem MapRep.lookup_any {t et : TypeId} (K : KeyOps P kt ek) (ht : P.underlying t = some (.map kt et)) {z : Value} (hz : ∀ w, (zeroValue et).run P w = .ok z w) (h : MapRep ek ev w b m) (x : κ) (c : Bool) :
    (Instr.lookup t (.map (some b)) (ek x) c).run P w = .ok (if c then .tuple #[((lk m x).map ev).getD z, .bool (lk m x).isSome] else ((lk m x).map ev).getD z) w := by
  have hd := h.nodup K
  obtain ⟨es, cl, hb, hs, he⟩ := h
  simp only [Instr.lookup, Sem.run_bind, run_underlying ht, Result.andThen, MapKept.run_getObj_map hb, K.check]
  rcases MapRep.found K hd he x w with ⟨h1, h2⟩ | ⟨j, p, h1, _, _, h2⟩
  · simp only [Sem.run_pure, Sem.run_bind, Result.andThen, h1, hz, h2]; cases c <;> simp
  · simp only [Sem.run_pure, Sem.run_bind, Result.andThen, h1, h2]; cases c <;> simp
theorem MapRep.lookup {t et : TypeId} (K : KeyOps P kt ek) (ht : P.underlying t = some (.map kt et)) {z : Value} (hz : ∀ w, (zeroValue et).run P w = .ok z w) (h : MapRep ek ev w b m) (x : κ) :
    (Instr.lookup t (.map (some b)) (ek x) false).run P w = .ok (((lk m x).map ev).getD z) w := by
  simpa using h.lookup_any K ht hz x false
theorem MapRep.lookup_ok {t et : TypeId} (K : KeyOps P kt ek) (ht : P.underlying t = some (.map kt et)) {z : Value} (hz : ∀ w, (zeroValue et).run P w = .ok z w) (h : MapRep ek ev w b m) (x : κ) :
    (Instr.lookup t (.map (some b)) (ek x) true).run P w = .ok (.tuple #[((lk m x).map ev).getD z, .bool (lk m x).isSome]) w := by
  simpa using h.lookup_any K ht hz x true

theorem upd_setObj {b : Nat} {o : Obj} (o' : Obj) (hb : w.heap[b]? = some o) : Upd [b] w { w with heap := w.heap.setIfInBounds b o' } :=
  ⟨rfl, rfl, rfl, by simp, fun k _ hx => (heap_set hb (o' := o')).2 k (by simpa using hx)⟩

theorem put_at {m : List (κ × ν)} (hd : (m.map (·.1)).Nodup) {x : κ} {j : Nat} {p : κ × ν} (hj : m[j]? = some p) (hp : p.1 = x) (v : ν) : put m x v = m.set j (x, v) := by
  induction m generalizing j with
  | nil => simp at hj
  | cons q r ih =>
    simp only [List.map_cons, List.nodup_cons] at hd
    cases j with
    | zero => simp at hj; subst hj; simp [put, hp]
    | succ j =>
      simp at hj
      have : q.1 ≠ x := fun e => hd.1 (by rw [e, ← hp]; exact List.mem_map_of_mem (f := (·.1)) (List.mem_of_getElem? hj))
      simp [put, this, ih hd.2 hj]
theorem put_new {m : List (κ × ν)} {x : κ} (h : x ∉ m.map (·.1)) (v : ν) : put m x v = m ++ [(x, v)] := by
  induction m with
  | nil => rfl
  | cons q r ih =>
    simp only [List.map_cons, List.mem_cons, not_or] at h
    simp [put, Ne.symm h.1, ih h.2]
theorem del_at {m : List (κ × ν)} (hd : (m.map (·.1)).Nodup) {x : κ} {j : Nat} {p : κ × ν} (hj : m[j]? = some p) (hp : p.1 = x) : del m x = m.eraseIdx j := by
  induction m generalizing j with
  | nil => simp at hj
  | cons q r ih =>
    simp only [List.map_cons, List.nodup_cons] at hd
    cases j with
    | zero =>
      simp at hj; subst hj
      subst hp
      simp only [del, List.filter_cons, ne_eq, not_true, decide_false, Bool.false_eq_true, if_false, List.eraseIdx_zero, List.tail_cons]
      refine List.filter_eq_self.2 fun y hy => ?_
      simp only [decide_eq_true_eq]
      exact fun e => hd.1 (e ▸ List.mem_map_of_mem (f := (·.1)) hy)
    | succ j =>
      simp at hj
      have hq : q.1 ≠ x := fun e => hd.1 (by rw [e, ← hp]; exact List.mem_map_of_mem (f := (·.1)) (List.mem_of_getElem? hj))
      have := ih hd.2 hj
      simp only [del, List.filter_cons, ne_eq, hq, not_false_iff, decide_true, if_true, List.eraseIdx_cons_succ] at this ⊢
      rw [← this]
theorem del_none {m : List (κ × ν)} {x : κ} (h : x ∉ m.map (·.1)) : del m x = m := by
  unfold del
  refine List.filter_eq_self.2 fun y hy => ?_
  simp only [decide_eq_true_eq]
  exact fun e => h (e ▸ List.mem_map_of_mem (f := (·.1)) hy)

/-- 'm[k] = v' -/
theorem MapRep.update {t et : TypeId} (K : KeyOps P kt ek) (ht : P.underlying t = some (.map kt et)) (h : MapRep ek ev w b m) (x : κ) (v : ν) :
    ∃ w', (Instr.mapUpdate t (.map (some b)) (ek x) (ev v)).run P w = .ok () w' ∧ MapRep ek ev w' b (put m x v) ∧ Upd [b] w w' := by
  have hd := h.nodup K
  obtain ⟨es, cl, hb, hs, he⟩ := h
  simp only [Instr.mapUpdate, Sem.run_bind, run_underlying ht, Result.andThen, MapKept.run_getObj_map hb, K.check]
  rcases MapRep.found K hd he x w with ⟨h1, h2⟩ | ⟨j, p, h1, hj, hp, h2⟩
  · simp only [h1]
    refine ⟨_, run_setObj_map _ hb, ⟨_, _, (heap_set hb).1, stamped_push hs ?_, ?_⟩, upd_setObj _ hb⟩
    · intro e hm e2
      obtain ⟨i, hi⟩ := List.getElem?_of_mem hm
      obtain ⟨p, hp, hk, _⟩ := entry_pair he hi
      have : p.1 = x := K.inj _ _ (hk.symm.trans e2)
      exact lk_none.1 h2 (this ▸ List.mem_map_of_mem (f := (·.1)) (List.mem_of_getElem? hp))
    · rw [put_new (lk_none.1 h2)]
      simp [he]
  · have hjl : j < es.size := by
      have := congrArg List.length he
      simp at this
      have h4 : j < m.length := (List.getElem?_eq_some_iff.1 hj).1
      omega
    have hje : es[j]? = some es[j] := Array.getElem?_eq_getElem hjl
    have hkj : es[j].key = ek x := by
      obtain ⟨q, hq, hk, _⟩ := entry_pair he (show es.toList[j]? = some es[j] by simp)
      rw [hj] at hq; cases hq; rw [hk, hp]
    simp only [h1, hje, Option.map_some, Option.getD_some, hkj, K.stays, Sem.run_bind, Result.andThen]
    refine ⟨_, run_setObj_map _ hb, ⟨_, _, (heap_set hb).1, stamped_modify hs j _ (fun _ _ => rfl) (fun e _ h => ?_), ?_⟩, upd_setObj _ hb⟩
    · rw [hje] at h; cases h; exact hkj.symm
    · rw [put_at hd hj hp]
      apply List.ext_getElem?
      intro i
      have hi := congrArg (fun l => l[i]?) he
      simp only [List.getElem?_map] at hi
      simp only [List.getElem?_map, List.getElem?_set, Array.getElem?_toList, Array.getElem?_modify]
      have hlen : es.size = m.length := by have := congrArg List.length he; simpa using this
      by_cases hij : j = i
      · subst hij
        have h4 : j < m.length := (List.getElem?_eq_some_iff.1 hj).1
        simp [h4, hje]
      · simp only [hij, if_false]
        simpa using hi

/-- 'delete(m, k)' -/
theorem MapRep.delete {t et ty : TypeId} (K : KeyOps P kt ek) (ht : P.underlying t = some (.map kt et)) (h : MapRep ek ev w b m) (x : κ) :
    ∃ w', (Builtin.delete_ #[t, kt] ty #[.map (some b), ek x]).run P w = .ok (.tuple #[]) w' ∧ MapRep ek ev w' b (del m x) ∧ Upd [b] w w' := by
  have hd := h.nodup K
  obtain ⟨es, cl, hb, hs, he⟩ := h
  rcases MapRep.found K hd he x w with ⟨h1, h2⟩ | ⟨j, p, h1, hj, hp, h2⟩
  · refine ⟨_, by simp [Builtin.delete_, run_underlying ht, MapKept.run_getObj_map hb, K.check, h1, MapKept.run_setObj_map _ hb, Result.andThen], ⟨_, _, (heap_set hb).1, hs, ?_⟩, upd_setObj _ hb⟩
    rw [del_none (lk_none.1 h2)]; exact he
  · have hlen : es.size = m.length := by have := congrArg List.length he; simpa using this
    have h4 : j < es.size := hlen ▸ (List.getElem?_eq_some_iff.1 hj).1
    have hsub : (es.eraseIdxIfInBounds j).toList = es.toList.eraseIdx j := by
      unfold Array.eraseIdxIfInBounds
      rw [dif_pos h4]
      simp
    refine ⟨_, by simp [Builtin.delete_, run_underlying ht, MapKept.run_getObj_map hb, K.check, h1, MapKept.run_setObj_map _ hb, Result.andThen], ⟨_, _, (heap_set hb).1, stamped_erase hs j, ?_⟩, upd_setObj _ hb⟩
    rw [del_at hd hj hp, hsub, ChangeMaps.map_eraseIdx, ChangeMaps.map_eraseIdx, he]

omit [DecidableEq κ] in
/-- 'len(m)' -/
theorem MapRep.len {t et ty : TypeId} (ht : P.underlying t = some (.map kt et)) (h : MapRep ek ev w b m) :
    (Builtin.len_ #[t] ty #[.map (some b)]).run P w = .ok (.int .i64 m.length) w := by
  obtain ⟨es, cl, hb, hs, he⟩ := h
  have hlen : es.size = m.length := by have := congrArg List.length he; simpa using this
  simp [Builtin.len_, run_underlying ht, MapKept.run_getObj_map hb, goInt, Result.andThen, hlen]

omit [DecidableEq κ] in
/-- 'clear(m)' -/
theorem MapRep.clear {t et ty : TypeId} (ht : P.underlying t = some (.map kt et)) (h : MapRep ek ev w b m) :
    ∃ w', (Builtin.clear_ #[t] ty #[.map (some b)]).run P w = .ok (.tuple #[]) w' ∧ MapRep ek ev w' b ([] : List (κ × ν)) ∧ Upd [b] w w' := by
  obtain ⟨es, cl, hb, hs, he⟩ := h
  refine ⟨_, by simp [Builtin.clear_, run_underlying ht, MapKept.run_getObj_map hb, MapKept.run_setObj_map _ hb, Result.andThen]; rfl, ⟨_, _, (heap_set hb).1, stamped_empty _, rfl⟩, upd_setObj _ hb⟩

/-! ### ranging over a map -/
/-- BLOCK r IS AN ITERATOR OVER THE MAP IN BLOCK b: 'left' is what is still to come. -/
def Iter (ek : κ → Value) (ev : ν → Value) (w : World) (r b : Nat) (left : List (κ × ν)) : Prop :=
  r ≠ b ∧ ∃ (es : Array MapEntry) (clock : Nat) (seen : Array Nat) (since c0 : Nat), w.heap[b]? = some (.map es clock) ∧ Stamped es clock ∧ w.heap[r]? = some (.mapIter (some b) since seen c0) ∧ (∀ x ∈ es.toList, x.born < since) ∧ since ≤ c0 ∧ since ≤ clock ∧
    (leftOf es seen).toList.map (fun e => (e.key, e.val)) = left.map (fun p => (ek p.1, ev p.2))

/-- BEHIND A STEP: the iterator stands at the pair p. -/
def IterAt (ek : κ → Value) (ev : ν → Value) (w : World) (r b : Nat) (p : κ × ν) : Prop :=
  ∃ (es : Array MapEntry) (clock : Nat) (seen : Array Nat) (since : Nat) (e : MapEntry), w.heap[b]? = some (.map es clock) ∧ w.heap[r]? = some (.mapIter (some b) since (seen.push e.born) clock) ∧ e ∈ es.toList ∧ (es.toList.map (·.born)).Nodup ∧ e.key = ek p.1 ∧ e.val = ev p.2

omit [DecidableEq κ] in
theorem Iter.lt {r : Nat} {left : List (κ × ν)} (h : Iter ek ev w r b left) : r < w.heap.size ∧ b < w.heap.size := by
  obtain ⟨_, es, clock, seen, since, c0, hb, _, hr, _⟩ := h
  exact ⟨lt_of_block hr, lt_of_block hb⟩
omit [DecidableEq κ] in
theorem Iter.keep {X : List Nat} {w' : World} {r : Nat} {left : List (κ × ν)} (h : Iter ek ev w r b left) (hu : Upd X w w') (hr : r ∉ X) (hb : b ∉ X) : Iter ek ev w' r b left := by
  obtain ⟨hne, es, clock, seen, since, c0, h1, h2, h3, h4⟩ := h
  exact ⟨hne, es, clock, seen, since, c0, hu.at h1 hb, h2, hu.at h3 hr, h4⟩
omit [DecidableEq κ] in
theorem IterAt.keep {X : List Nat} {w' : World} {r : Nat} {p : κ × ν} (h : IterAt ek ev w r b p) (hu : Upd X w w') (hr : r ∉ X) (hb : b ∉ X) : IterAt ek ev w' r b p := by
  obtain ⟨es, clock, seen, since, e, h1, h2, h3⟩ := h
  exact ⟨es, clock, seen, since, e, hu.at h1 hb, hu.at h2 hr, h3⟩

omit [DecidableEq κ] in
/-- 'range m' -/
theorem MapRep.range {t et : TypeId} (ht : P.underlying t = some (.map kt et)) (h : MapRep ek ev w b m) :
    ∃ w', (Instr.range t (.map (some b))).run P w = .ok (.pointer (some ⟨w.heap.size, 0, none⟩)) w' ∧ Iter ek ev w' w.heap.size b m ∧ Upd [] w w' ∧ w'.heap.size = w.heap.size + 1 := by
  obtain ⟨es, cl, hb, hs, he⟩ := h
  refine ⟨_, run_range_map w t kt et b es cl ht hb, ⟨Nat.ne_of_gt (lt_of_block hb), es, cl, #[], cl, cl, (Below.heap_alloc _ _ b (lt_of_block hb)).trans hb, hs, (heap_alloc w _).1, hs.1, Nat.le_refl _, Nat.le_refl _, ?_⟩, (Upd.refl _ _).alloc _, by simp⟩
  rw [← he]
  congr 1
  simp [leftOf]

omit [DecidableEq κ] in
/-- 'next': nothing is left, or a pair comes out. -/
theorem Iter.next {r : Nat} {left : List (κ × ν)} (ty : TypeId) (h : Iter ek ev w r b left) :
    (left = [] ∧ (Instr.next (.pointer (some ⟨r, 0, none⟩)) false ty).run P w = .ok (.tuple #[.bool false]) w) ∨
    ∃ p l1 l2 w', left = l1 ++ p :: l2 ∧ (Instr.next (.pointer (some ⟨r, 0, none⟩)) false ty).run P w = .ok (.tuple #[.bool true, ek p.1, ev p.2]) w' ∧
      Iter ek ev w' r b (l1 ++ l2) ∧ IterAt ek ev w' r b p ∧ Upd [r] w w' ∧ w'.heap.size = w.heap.size := by
  obtain ⟨hne, es, cl, seen, since, c0, hb, hs, hr, hold, hsc, hscl, he⟩ := h
  rcases run_next_at (P := P) w ty r b since c0 seen es cl hr hb hold hsc with ⟨h0, hrun⟩ | ⟨e, hem, w1, hw1, hrun⟩
  · left
    refine ⟨?_, hrun⟩
    have := congrArg List.length he
    simp at this
    exact List.length_eq_zero_iff.1 (by omega)
  · right
    have hmem := mem_left hem
    obtain ⟨A, B, hAB⟩ := List.append_of_mem hem
    have hnd : ((leftOf es seen).toList.map (·.born)).Nodup := List.Nodup.sublist (List.Sublist.map _ (by unfold leftOf; rw [Array.toList_filter]; exact List.filter_sublist)) hs.2.1
    have hnew : (leftOf es (seen.push e.born)).toList = A ++ B := by
      have e1 : (leftOf es (seen.push e.born)).toList = (leftOf es seen).toList.filter (fun x => !(x.born == e.born)) := by
        unfold leftOf
        rw [Array.toList_filter, Array.toList_filter, List.filter_filter]
        refine List.filter_congr fun x _ => ?_
        rw [contains_push]
        cases seen.contains x.born <;> cases (x.born == e.born) <;> rfl
      rw [hAB] at hnd
      simp only [List.map_append, List.map_cons] at hnd
      obtain ⟨_, hn2, hn3⟩ := List.nodup_append.1 hnd
      have hn4 := (List.nodup_cons.1 hn2).1
      rw [e1, hAB, List.filter_append, List.filter_cons]
      simp only [beq_self_eq_true, Bool.not_true, Bool.false_eq_true, if_false]
      rw [List.filter_eq_self.2 (fun x hx => ?_), List.filter_eq_self.2 (fun x hx => ?_)]
      · simp only [Bool.not_eq_true', beq_eq_false_iff_ne]
        exact fun q => hn4 (q ▸ List.mem_map_of_mem (f := (·.born)) hx)
      · simp only [Bool.not_eq_true', beq_eq_false_iff_ne]
        exact fun q => hn3 x.born (List.mem_map_of_mem (f := (·.born)) hx) e.born (List.mem_cons_self ..) q
    rw [hAB] at he
    simp only [List.map_append, List.map_cons] at he
    obtain ⟨l1, l2', rfl, h1, h2⟩ := List.map_eq_append_iff.1 he.symm
    obtain ⟨p, l2, rfl, hp, h2⟩ := List.map_eq_cons_iff.1 h2
    simp only [Prod.mk.injEq] at hp
    have hb1 : w1.heap[b]? = some (.map es cl) := by rcases hw1 with rfl | rfl <;> exact hb
    have hr1 : w1.heap[r]? = some (.mapIter (some b) since seen c0) := by rcases hw1 with rfl | rfl <;> exact hr
    have hu1 : Upd [r] w w1 := by rcases hw1 with rfl | rfl; exact Upd.refl _ _; exact (Upd.refl _ _).drew
    have hsz1 : w1.heap.size = w.heap.size := by rcases hw1 with rfl | rfl <;> rfl
    have hset := heap_set hr1 (o' := Obj.mapIter (some b) since (seen.push e.born) cl)
    have hb2 : (setBlock w1 r (.mapIter (some b) since (seen.push e.born) cl)).heap[b]? = some (.map es cl) := (hset.2 b (Ne.symm hne)).trans hb1
    have hr2 : (setBlock w1 r (.mapIter (some b) since (seen.push e.born) cl)).heap[r]? = some (.mapIter (some b) since (seen.push e.born) cl) := hset.1
    have hu2 : Upd [r] w1 (setBlock w1 r (.mapIter (some b) since (seen.push e.born) cl)) :=
      ⟨rfl, rfl, rfl, by simp [setBlock], fun k _ hk => hset.2 k (by simpa using hk)⟩
    refine ⟨p, l1, l2, _, rfl, by rw [hrun, ← hp.1, ← hp.2], ⟨hne, es, cl, seen.push e.born, since, cl, hb2, hs, hr2, hold, hscl, hscl, ?_⟩, ⟨es, cl, seen, since, e, hb2, hr2, hmem.1, hs.2.1, hp.1.symm, hp.2.symm⟩, hu1.trans hu2, by simp [setBlock, hsz1]⟩
    rw [hnew, List.map_append, ← h1, ← h2, List.map_append]

omit [DecidableEq κ] in
/-- 'entry' -/
theorem IterAt.entry {r : Nat} {p : κ × ν} (h : IterAt ek ev w r b p) : (Instr.entry (.pointer (some ⟨r, 0, none⟩))).run P w = .ok (.tuple #[ek p.1, ev p.2]) w := by
  obtain ⟨es, cl, seen, since, e, hb, hr, he, hn, h1, h2⟩ := h
  rw [run_entry_at w r b since seen es cl e hr hb he hn, h1, h2]
end
end Go.Slu
