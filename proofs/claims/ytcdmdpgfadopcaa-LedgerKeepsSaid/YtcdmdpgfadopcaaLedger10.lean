/-
  sluicelaw14: what a ledger tells, in its one order; a ledger as a resource.
-/
import Derived.Test.YtcdmdpgfadopcaaLedger7
import Derived.Test.YtcdmdpgfadopcaaBag
namespace Go.Proofs.Ytcdmdpgfadopcaa
open Go.Slu Go.MapKept Go.RowKit Go.Sort

/-- the stamps of a ledger, in order -/
structure KeyL (M : List (StampK × Int)) (K : List StampK) : Prop where
  perm : K.Perm (M.map (·.1))
  ord : K.Pairwise fun x y => 0 ≤ cmpM y x
theorem keyL_ex (M : List (StampK × Int)) : ∃ K, KeyL M K := ⟨_, List.mergeSort_perm _ _, mergeSort_sorted cmpM_swo cmpM_tot _⟩
theorem KeyL.len {M : List (StampK × Int)} {K : List StampK} (h : KeyL M K) : K.length = M.length := by simpa using h.perm.length_eq
theorem KeyL.uniq {w : World} {lb tb mb : Nat} {M : List (StampK × Int)} (h : LedAt w lb tb mb M) {K l : List StampK} (hK : KeyL M K) (h2 : l.Perm (M.map (·.1))) (h3 : l.Pairwise fun x y => 0 ≤ cmpM y x) : l = K := led_list h h (fun _ => rfl) h2 h3 hK.perm hK.ord
/-- the changes -/
abbrev chg (M : List (StampK × Int)) (K : List StampK) : List (StampK × Int) := K.map fun x => (x, cnt M x)
def ToldC (M : List (StampK × Int)) (K : List StampK) (w : World) (e : Ending) (w' : World) : Prop :=
  ∃ a c, e = .returned (.slice a K.length c) ∧ OwnAt 105 5 eeCh w' a c (chg M K) ∧ (∀ b ∈ ablk a, w.heap.size ≤ b) ∧ Upd [] w w'
def ToldK (K : List StampK) (w : World) (e : Ending) (w' : World) : Prop :=
  ∃ a c, e = .returned (.slice a K.length c) ∧ OwnAt 52 4 eeM w' a c K ∧ (∀ b ∈ ablk a, w.heap.size ≤ b) ∧ Upd [] w w'
section
variable {w : World} {lb tb mb : Nat} {M : List (StampK × Int)} {K : List StampK}
theorem lChangesK (h : LedAt w lb tb mb M) (hK : KeyL M K) (hl : M.length ≤ 1000000) : Calls Try.prog 46 #[.pointer (some ⟨lb, 0, none⟩)] w (ToldC M K w) := by
  refine (lChanges h hl).mono ?_
  rintro e w' ⟨a, c, l, rfl, h1, h2, h3, h4, h5⟩
  obtain rfl := hK.uniq h h2 h3
  exact ⟨a, c, rfl, h1, h4, h5⟩
theorem lKeysK (h : LedAt w lb tb mb M) (hK : KeyL M K) (hl : M.length ≤ 1000000) : Calls Try.prog 47 #[.pointer (some ⟨lb, 0, none⟩)] w (ToldK K w) := by
  refine (lKeys h hl).mono ?_
  rintro e w' ⟨a, c, l, rfl, h1, h2, h3, h4, h5⟩
  obtain rfl := hK.uniq h h2 h3
  exact ⟨a, c, rfl, h1, h4, h5⟩
end
theorem sameCh_K (w : World) (a b : Option Addr) (ca cb : Nat) (M : List (StampK × Int)) (K : List StampK) (hlen : K.length ≤ 1000000) (ha : Rd 5 eeCh w a (chg M K)) (hb : Rd 5 eeCh w b (chg M K)) :
    Calls Try.prog 45 #[.slice a K.length ca, .slice b K.length cb] w fun e w' => e = .returned (.bool true) ∧ Upd [] w w' := by
  have := sameCh_any w a b ca cb (chg M K) (by simp; omega) ha hb
  rwa [show (chg M K).length = K.length from by simp] at this
/-- a ledger as a resource -/
def rLed (lb tb mb : Nat) (M : List (StampK × Int)) : Res :=
  ⟨[lb, tb, mb], fun w => LedAt w lb tb mb M, fun h hu hx => h.keep hu (hx _ (by simp)) (hx _ (by simp)) (hx _ (by simp)), fun h b hb => by
    have := h.lt
    simp at hb
    rcases hb with rfl | rfl | rfl
    · exact this.1
    · exact this.2.1
    · exact this.2.2⟩
theorem rLed_ge {B lb tb mb : Nat} {M : List (StampK × Int)} (h1 : B ≤ lb) (h2 : B ≤ tb) (h3 : B ≤ mb) : ∀ b ∈ (rLed lb tb mb M).foot, B ≤ b := fun b hb => by
  simp [rLed] at hb
  rcases hb with rfl | rfl | rfl <;> assumption
abbrev rCh (a : Option Addr) (c : Nat) (M : List (StampK × Int)) (K : List StampK) : Res := rOwn 105 5 eeCh a c (chg M K)
abbrev rSt (a : Option Addr) (c : Nat) (K : List StampK) : Res := rOwn 52 4 eeM a c K
end Go.Proofs.Ytcdmdpgfadopcaa
