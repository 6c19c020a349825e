/-
  Own base, program-free: the 'apart' of the laws, second part: two groups of lists, one behind the other, and what is found at the end.
-/
import Derived.Test.YtcdmdpgfadopcaaApart
namespace Go.Slu
open Go.MapKept Go.RowKit
section
variable {α : Type} {ee : α → List Value} {kc : Nat} {P : Program} {e tl tsl tsm : TypeId} {bytes : Nat} {mk tm : Nat → Nat → α}
theorem Lists.keep {ss : List Sl} {w w' : World} {X : Nat → List α} {F : List Nat} (h : Lists e kc ee ss w X) (hu : Upd F w w') (hd : ∀ b ∈ foot ss, b ∉ F) : Lists e kc ee ss w' X :=
  ⟨fun j s hs => ⟨(h.own j s hs).1.keep hu (fun b hb => hd b (mem_foot.2 ⟨j, s, hs, hb⟩)), (h.own j s hs).2⟩, h.dis⟩
theorem Ap.lists {ss : List Sl} {w0 w : World} {i k : Nat} {Y X : Nat → List α} (h : Ap e kc ee mk ss w0 w i k Y) (hL : Lists e kc ee ss w0 X) : Lists e kc ee ss w Y :=
  ⟨fun j s hs => ⟨(h.own j s hs).1, (h.own j s hs).2, (hL.own j s hs).2.2⟩, hL.dis⟩
theorem Ap.base {ss : List Sl} {w0 w w' : World} {i k : Nat} {Y : Nat → List α} {F : List Nat} (h : Ap e kc ee mk ss w0 w i k Y) (hu : Upd F w w') (hd : ∀ b ∈ foot ss, b ∉ F) : Ap e kc ee mk ss w' w' i k Y :=
  ⟨fun j s hs => ⟨(h.own j s hs).1.keep hu (fun b hb => hd b (mem_foot.2 ⟨j, s, hs, hb⟩)), (h.own j s hs).2⟩, h.done, h.part, Upd.refl _ _⟩
theorem Lists.foot_lt {ss : List Sl} {w : World} {X : Nat → List α} (h : Lists e kc ee ss w X) : ∀ b ∈ foot ss, b < w.heap.size := fun b hb => by
  obtain ⟨j, s, hs, hb⟩ := mem_foot.1 hb
  exact h.lt hs b hb
theorem mks_succ (mk : Nat → Nat → α) (j n : Nat) : mks mk j n ++ [mk j n] = mks mk j (n + 1) := by
  simp [mks, List.range_succ]
/-- what is found at the end -/
structure Chk (kc : Nat) (ee : α → List Value) (mk : Nat → Nat → α) (ss : List Sl) (w : World) (am : Option Addr) (Z : List Sl) : Prop where
  len : Z.length = ss.length
  more : Rd 1 eeL w am Z
  at_ : ∀ (j : Nat) (s : Sl), ss[j]? = some s → Rd kc ee w s.a (mks mk j s.n) ∧ ∃ z, Z[j]? = some z ∧ z.n = s.n + 1 ∧ Rd kc ee w z.a (mks mk j (s.n + 1))
theorem Chk.keep (E : Elem P tsl e kc bytes ee) (E2 : Elem P tsm tl 1 24 eeL) {ss : List Sl} {w w' : World} {am : Option Addr} {Z : List Sl} (h : Chk kc ee mk ss w am Z) (hu : Upd [] w w') : Chk kc ee mk ss w' am Z :=
  ⟨h.len, h.more.keep' E2 hu (by simp), fun j s hs => by
    obtain ⟨h1, z, h2, h3, h4⟩ := h.at_ j s hs
    exact ⟨h1.keep' E hu (by simp), z, h2, h3, h4.keep' E hu (by simp)⟩⟩
theorem Aq.chk (E : Elem P tsl e kc bytes ee) (E2 : Elem P tsm tl 1 24 eeL) {ss : List Sl} {w0 w w' : World} {X : Nat → List α} {am : Option Addr} {cm : Nat} {Z : List Sl} {F : List Nat} (hL : Lists e kc ee ss w0 X) (h : Aq e kc ee tl mk mk ss w0 w ss.length am cm Z)
    (hu : Upd F w w') (hF : ∀ b ∈ F, b < w0.heap.size ∧ b ∉ foot ss) : Chk kc ee mk ss w' am Z := by
  refine ⟨h.len, (h.more.keep hu (fun b hb hx => ?_)).rd E2.len, fun j s hs => ?_⟩
  · have := h.fresh b hb
    have := (hF b hx).1
    omega
  · obtain ⟨h1, z, h2, h3, h4, h5⟩ := h.rd j s hs (List.getElem?_eq_some_iff.1 hs).1
    refine ⟨h1.keep' E hu (fun b hb hx => (hF b hx).2 (mem_foot.2 ⟨j, s, hs, hb⟩)), z, h2, h3, ?_⟩
    rw [← mks_succ]
    refine h4.keep' E hu (fun b hb hx => ?_)
    have h6 := hF b hx
    rcases (h5 b hb).2 with h7 | ⟨h7, _⟩
    · exact h6.2 (mem_foot.2 ⟨j, s, hs, h7⟩)
    · omega
end
end Go.Slu
