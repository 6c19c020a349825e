/-
  Own base, program-free: slices.SortFunc by an order that tells the list's own elements apart (though not all that there are): the list's places are sorted.
-/
import Derived.Test.YtcdmdpgfadopcaaBaseSort
namespace Go.Slu
open Go.MapKept Go.RowKit Go.Sort Go.Proofs Go.Shelf
section
variable {P : Program} {ρ : Ren} {β : Type} [Inhabited β] {w : World} {c : Nat} {xs : List β} {a : Option Addr}
omit [Inhabited β] in
theorem own_map {α : Type} {e : TypeId} {k : Nat} {ee : β → List Value} (f : α → β) (l : List α) : OwnAt e k (fun x => ee (f x)) w a c l ↔ OwnAt e k ee w a c (l.map f) := by
  unfold OwnAt
  rw [List.length_map, List.flatMap_map]
theorem sort_ownI {e : TypeId} {k : Nat} (L : SlLaysF0.n6 P ρ) (aE : ∀ w, (isAgg (ρ.t 24)).run P w = .ok true w) (zE : ∀ w, (Go.sizeOf (ρ.t 24)).run P w = .ok k w) (ee : β → List Value) (hk : ∀ x, (ee x).length = k) (hpos : 0 < k) (h1 : ∀ x, ∀ v ∈ ee x, v.oneCell' = true)
    (cf : β → β → Int) (hO : SWO (ltOf cf)) (hT : ∀ (i j : Nat) (x y : β), xs[i]? = some x → xs[j]? = some y → (ltOf cf) x y = false → (ltOf cf) y x = false → i = j) (g : Nat) (cb : Array Value)
    (eg : ∀ args w, (callFunc g args).run P w = .ok (.enter g args) w) (hp : ∀ (W : World) (x y : β), Calls P g (#[.agg (ee x).toArray, .agg (ee y).toArray] ++ cb) W fun e w' => e = .returned (.int .i64 (cf x y)) ∧ Grew W w') (h : OwnAt e k ee w a c xs) (hsz : xs.length < 4611686018427387904) :
    Calls P (ρ.f 6) #[.slice a xs.length c, .func (.func g) #[] cb] w fun e' w' => e' = .returned (.tuple #[]) ∧
      ∃ l, OwnAt e k ee w' a c l ∧ l.Perm xs ∧ l.Pairwise (fun x y => 0 ≤ cf y x) ∧ Upd (ablk a) w w' := by
  by_cases hn : xs = []
  · subst hn
    have h2 : OwnAt e k (fun _ : Unit => ee default) w a c ([] : List Unit) := (own_map (fun _ : Unit => (default : β)) []).2 (by simpa using h)
    have := sort_ownK (α := Unit) L aE zE (fun _ => ee default) (fun _ => hk _) hpos (fun _ => h1 _) (fun _ _ => cf default default) ⟨fun _ => hO.irrefl _, fun _ _ _ h1 h2 => hO.trans _ _ _ h1 h2, fun _ _ _ h1 h2 => hO.ntrans _ _ _ h1 h2⟩ (fun _ _ _ _ => rfl) g cb eg (fun W _ _ => hp W _ _) h2 (by simp)
    refine this.mono fun e' w' ⟨he, l, ho, hl, _, hu⟩ => ⟨he, [], ?_, .refl _, .nil, hu⟩
    obtain rfl := hl.eq_nil
    exact (own_map (fun _ : Unit => (default : β)) []).1 ho
  · have hn0 : 0 < xs.length := List.length_pos_iff.2 hn
    let f : Fin xs.length → β := fun i => xs[i.1]
    haveI : Inhabited (Fin xs.length) := ⟨⟨0, hn0⟩⟩
    have hx : (List.finRange xs.length).map f = xs := by
      apply List.ext_getElem
      · simp
      · intro i h1 h2; simp [f]
    have h2 : OwnAt e k (fun i => ee (f i)) w a c (List.finRange xs.length) := (own_map f _).2 (by rw [hx]; exact h)
    have := sort_ownK (α := Fin xs.length) L aE zE (fun i => ee (f i)) (fun _ => hk _) hpos (fun _ => h1 _) (fun i j => cf (f i) (f j)) ⟨fun _ => hO.irrefl _, fun _ _ _ h1 h2 => hO.trans _ _ _ h1 h2, fun _ _ _ h1 h2 => hO.ntrans _ _ _ h1 h2⟩
      (fun i j h3 h4 => Fin.ext (hT i.1 j.1 (f i) (f j) (List.getElem?_eq_getElem i.2) (List.getElem?_eq_getElem j.2) h3 h4)) g cb eg (fun W _ _ => hp W _ _) h2 (by simpa using hsz)
    rw [List.length_finRange] at this
    refine this.mono fun e' w' ⟨he, l, ho, hl, hs, hu⟩ => ⟨he, l.map f, (own_map f l).1 ho, ?_, ?_, hu⟩
    · have := hl.map f
      rwa [hx] at this
    · exact List.pairwise_map.2 hs
end
end Go.Slu
