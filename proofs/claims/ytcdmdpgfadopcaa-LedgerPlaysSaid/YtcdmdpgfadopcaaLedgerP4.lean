/-
  sluicelaw14: LedgerPlays: the state: two ledgers and two of the document's.
-/
import Derived.Test.YtcdmdpgfadopcaaLedgerP3
namespace Go.Proofs.Ytcdmdpgfadopcaa
open Go.Slu Go.MapKept Go.RowKit Go.Sort

structure DL where
  lb : Nat
  tb : Nat
  mb : Nat
  rb : Nat
  a : Option Addr
  c : Nat
  M : List (StampK × Int)
  L : List (StampK × Int)
def updD (D : Nat → DL) (i : Nat) (d : DL) : Nat → DL := fun j => if j = i then d else D j
abbrev rL2 (d : DL) : Res := rLed d.lb d.tb d.mb d.M
abbrev rR2 (d : DL) : Res := rRef d.rb d.a d.c d.L
abbrev pv (b : Nat) : Value := .pointer (some ⟨b, 0, none⟩)
/-- the state -/
def St2 (w0 w : World) (lsb rsb : Nat) (D : Nat → DL) (ex : List Res) : Prop :=
  Bag w0 w (rCells lsb #[pv (D 0).lb, pv (D 1).lb] 84 :: rCells rsb #[pv (D 0).rb, pv (D 1).rb] 95 :: rL2 (D 0) :: rR2 (D 0) :: rL2 (D 1) :: rR2 (D 1) :: ex)
section
variable {w0 w w' w1 w2 : World} {lsb rsb : Nat} {D : Nat → DL} {ex : List Res} {i : Nat}
theorem two_cases (hi : i < 2) : i = 0 ∨ i = 1 := by omega
theorem St2.lblk (S : St2 w0 w lsb rsb D ex) : w.heap[lsb]? = some (.cells #[pv (D 0).lb, pv (D 1).lb] 84 (0, 0)) := Bag.get S 0 rfl
theorem St2.rblk (S : St2 w0 w lsb rsb D ex) : w.heap[rsb]? = some (.cells #[pv (D 0).rb, pv (D 1).rb] 95 (0, 0)) := Bag.get S 1 rfl
theorem St2.lcell (S : St2 w0 w lsb rsb D ex) (hi : i < 2) {d : DL} (hd : D i = d) : w.cell? ⟨lsb, i, none⟩ = some (pv d.lb) := by
  have := S.lblk
  subst hd
  rcases two_cases hi with rfl | rfl <;> simp [World.cell?, this]
theorem St2.rcell (S : St2 w0 w lsb rsb D ex) (hi : i < 2) {d : DL} (hd : D i = d) : w.cell? ⟨rsb, i, none⟩ = some (pv d.rb) := by
  have := S.rblk
  subst hd
  rcases two_cases hi with rfl | rfl <;> simp [World.cell?, this]
theorem St2.led (S : St2 w0 w lsb rsb D ex) (hi : i < 2) {d : DL} (hd : D i = d) : LedAt w d.lb d.tb d.mb d.M := by
  subst hd
  rcases two_cases hi with rfl | rfl
  · exact Bag.get S 2 rfl
  · exact Bag.get S 4 rfl
theorem St2.ref (S : St2 w0 w lsb rsb D ex) (hi : i < 2) {d : DL} (hd : D i = d) : RefL w d.rb d.a d.c d.L := by
  subst hd
  rcases two_cases hi with rfl | rfl
  · exact Bag.get S 3 rfl
  · exact Bag.get S 5 rfl
theorem St2.step0 (S : St2 w0 w lsb rsb D ex) (hu : Upd [] w w') : St2 w0 w' lsb rsb D ex := Bag.step0 S hu
theorem St2.turnLed (S : St2 w0 w lsb rsb D ex) (hi : i < 2) {d : DL} (hd : D i = d) {M' : List (StampK × Int)} (hu : Upd [d.mb] w w') (h : LedAt w' d.lb d.tb d.mb M') : St2 w0 w' lsb rsb (updD D i { d with M := M' }) ex := by
  subst hd
  rcases two_cases hi with rfl | rfl
  · exact Bag.turnAt S 2 rfl hu (r' := rLed (D 0).lb (D 0).tb (D 0).mb M') (by simp [rLed]) h (fun b hb => .inl hb)
  · exact Bag.turnAt S 4 rfl hu (r' := rLed (D 1).lb (D 1).tb (D 1).mb M') (by simp [rLed]) h (fun b hb => .inl hb)
theorem St2.turnRef (S : St2 w0 w lsb rsb D ex) (hi : i < 2) {d : DL} (hd : D i = d) {a' : Option Addr} {c' : Nat} {L' : List (StampK × Int)} (hu : Upd (d.rb :: ablk d.a) w w') (h : RefL w' d.rb a' c' L') (hf : ∀ b ∈ ablk a', b ∈ ablk d.a ∨ w.heap.size ≤ b) :
    St2 w0 w' lsb rsb (updD D i { d with a := a', c := c', L := L' }) ex := by
  subst hd
  have hf2 : ∀ b ∈ (rRef (D i).rb a' c' L').foot, b ∈ (rR2 (D i)).foot ∨ w.heap.size ≤ b := fun b hb => by
    rcases List.mem_cons.1 hb with rfl | hb
    · exact .inl (by simp [rRef])
    · exact (hf b hb).imp (fun h => List.mem_cons_of_mem _ h) id
  rcases two_cases hi with rfl | rfl
  · exact Bag.turnAt S 3 rfl hu (r' := rRef (D 0).rb a' c' L') (fun b hb => .inl hb) h hf2
  · exact Bag.turnAt S 5 rfl hu (r' := rRef (D 1).rb a' c' L') (fun b hb => .inl hb) h hf2
theorem St2.copyLed (S : St2 w0 w lsb rsb D ex) (hi : i < 2) {d : DL} (hd : D i = d) {lb' tb' mb' : Nat} {M' : List (StampK × Int)} (hu : Upd [] w w1) (h : LedAt w1 lb' tb' mb' M') (h1 : w.heap.size ≤ lb') (h2 : w.heap.size ≤ tb') (h3 : w.heap.size ≤ mb')
    (hb : w2.heap[lsb]? = some (.cells (#[pv (D 0).lb, pv (D 1).lb].setIfInBounds i (pv lb')) 84 (0, 0))) (hu2 : Upd [lsb] w1 w2) : St2 w0 w2 lsb rsb (updD D i { d with lb := lb', tb := tb', mb := mb', M := M' }) ex := by
  subst hd
  rcases two_cases hi with rfl | rfl
  · exact Bag.turnAt (Bag.turnAt S 2 rfl hu (r' := rLed lb' tb' mb' M') (by simp) h (fun b hb => .inr (rLed_ge h1 h2 h3 b hb))) 0 rfl hu2 (r' := rCells lsb #[pv lb', pv (D 1).lb] _) (by simp [rCells]) hb (fun b hb => .inl hb)
  · exact Bag.turnAt (Bag.turnAt S 4 rfl hu (r' := rLed lb' tb' mb' M') (by simp) h (fun b hb => .inr (rLed_ge h1 h2 h3 b hb))) 0 rfl hu2 (r' := rCells lsb #[pv (D 0).lb, pv lb'] _) (by simp [rCells]) hb (fun b hb => .inl hb)
theorem St2.copyRef (S : St2 w0 w lsb rsb D ex) (hi : i < 2) {d : DL} (hd : D i = d) {rb' : Nat} {a' : Option Addr} {c' : Nat} {L' : List (StampK × Int)} (hu : Upd [] w w1) (h : RefL w1 rb' a' c' L') (h1 : w.heap.size ≤ rb') (h2 : ∀ b ∈ ablk a', w.heap.size ≤ b)
    (hb : w2.heap[rsb]? = some (.cells (#[pv (D 0).rb, pv (D 1).rb].setIfInBounds i (pv rb')) 95 (0, 0))) (hu2 : Upd [rsb] w1 w2) : St2 w0 w2 lsb rsb (updD D i { d with rb := rb', a := a', c := c', L := L' }) ex := by
  subst hd
  have hf2 : ∀ b ∈ (rRef rb' a' c' L').foot, w.heap.size ≤ b := fun b hb => by
    rcases List.mem_cons.1 hb with rfl | hb
    · exact h1
    · exact h2 b hb
  rcases two_cases hi with rfl | rfl
  · exact Bag.turnAt (Bag.turnAt S 3 rfl hu (r' := rRef rb' a' c' L') (by simp) h (fun b hb => .inr (hf2 b hb))) 1 rfl hu2 (r' := rCells rsb #[pv rb', pv (D 1).rb] _) (by simp [rCells]) hb (fun b hb => .inl hb)
  · exact Bag.turnAt (Bag.turnAt S 5 rfl hu (r' := rRef rb' a' c' L') (by simp) h (fun b hb => .inr (hf2 b hb))) 1 rfl hu2 (r' := rCells rsb #[pv (D 0).rb, pv rb'] _) (by simp [rCells]) hb (fun b hb => .inl hb)
theorem St2.xcell {b : Nat} {cs : Array Value} {t : TypeId} {rs : List Res} (S : St2 w0 w lsb rsb D (rCells b cs t :: rs)) (j : Nat) {v : Value} (hv : cs[j]? = some v) : w.cell? ⟨b, j, none⟩ = some v := by
  have h : w.heap[b]? = some (.cells cs t (0, 0)) := Bag.get S 6 rfl
  simpa [World.cell?, h] using hv
theorem updD_at (D : Nat → DL) (i : Nat) (d : DL) : updD D i d i = d := if_pos rfl
theorem updD_ne (D : Nat → DL) {i j : Nat} (h : j ≠ i) (d : DL) : updD D i d j = D j := if_neg h
theorem updD_upd (D : Nat → DL) (i : Nat) (d d' : DL) : updD (updD D i d) i d' = updD D i d' := by
  funext j
  unfold updD
  split <;> rfl
end
/-- what is told of both is the same -/
def RelD (D : Nat → DL) (n : Nat) : Prop := ∀ i, i < 2 → (∀ x, cnt (D i).M x = tot (D i).L x) ∧ ROk (D i).L ∧ (D i).L.length ≤ n
theorem RelD.mono {D : Nat → DL} {n m : Nat} (h : RelD D n) (hm : n ≤ m) : RelD D m := fun i hi => ⟨(h i hi).1, (h i hi).2.1, by have := (h i hi).2.2; omega⟩
theorem RelD.upd {D : Nat → DL} {n : Nat} (h : RelD D n) (i : Nat) {d : DL} (h1 : ∀ x, cnt d.M x = tot d.L x) (h2 : ROk d.L) (h3 : d.L.length ≤ n) : RelD (updD D i d) n := fun j hj => by
  by_cases e : j = i
  · subst e; rw [updD_at]; exact ⟨h1, h2, h3⟩
  · rw [updD_ne D e]; exact h j hj
theorem rok_add {L : List (StampK × Int)} (h : ROk L) (x : StampK) {n : Int} (hn : n = 1 ∨ n = -1) : ROk (L ++ [(x, n)]) := fun p hp => by
  rcases List.mem_append.1 hp with h1 | h1
  · exact h p h1
  · simp at h1; subst h1; simp only; omega
theorem cnt_nil (x : StampK) : cnt ([] : List (StampK × Int)) x = 0 := rfl
end Go.Proofs.Ytcdmdpgfadopcaa
