/-
  Own base, program-free: from a law's walk to its row: arguments opened (slices of structs, strings, ints), and the post where only blocks of the call's own have turned.
-/
import Derived.Test.YtcdmdpgfadopcaaBaseMem
import Derived.ProofKit
import Derived.OpenShut
import Derived.JoinedCond
import Derived.WideKeyArgs
import Derived.Deep.Slices
namespace Go.Slu
open Go.MapKept Go.RowKit Go.ChangeShapes Go.WideShapes

section
variable {H : Type} {enc : TypeId × Value → H} {P : Program} {w w' : World} {base : Nat} {spare : Nat → Bool} {held : Bool}

theorem trodAll_stays (hl : laidOutB P = true) {sp : Nat → Bool} : ∀ {ts : List TypeId} {vs : List Value} {ds : List (DataW H)} {ps : List MemPlace}, (∀ t ∈ ts, P.readableRec t = true ∧ t < P.types.size) → DataW.TrodAll enc P w base (fun _ => true) true ts vs ds ps → (∀ p ∈ ps, w.sameAt w' p) → (∀ p ∈ ps, sp p.block = true) → DataW.TrodAll enc P w' base sp true ts vs ds ps
  | [], [], [], _, _, h, _, _ => h
  | _ :: _, _ :: _, _ :: _, _, ht, ⟨p, q, h1, h2, e⟩, hs, hp =>
    ⟨p, q, WideElems.Trod_stays hl (ht _ (by simp)).1 (ht _ (by simp)).2 h1 (fun x hx => hs x (by rw [e]; exact List.mem_append_left _ hx)) (fun x hx => hp x (by rw [e]; exact List.mem_append_left _ hx)),
      trodAll_stays hl (fun t h => ht t (by simp [h])) h2 (fun x hx => hs x (by rw [e]; exact List.mem_append_right _ hx)) (fun x hx => hp x (by rw [e]; exact List.mem_append_right _ hx)), e⟩
  | [], _ :: _, _, _, _, h, _, _ => h.elim
  | [], [], _ :: _, _, _, h, _, _ => h.elim
  | _ :: _, [], _, _, _, h, _, _ => h.elim
  | _ :: _, _ :: _, [], _, _, h, _, _ => h.elim

/-- THE POST OF A LAW: it answered true and below the old heap's end nothing has turned. -/
theorem post_law {f : Func} {s : ChangeSpec} {args : Array Value} {ds gs : List (DataW H)} {before : List MemPlace} {tb : TypeId} (hl : laidOutB P = true) (hv : s.vars = []) (hps : ∀ t ∈ f.params.toList, P.readableRec t = true ∧ t < P.types.size)
    (hW : DataW.Whole enc P f.params.toList s.vars false w args.toList ds gs before) (hres : f.resultTypes = #[tb]) (htb : P.underlying tb = some .bool) (hfn : s.fn H (ds ++ gs) = { results := [.lit (.bool true)], args := ds }) (hb : Below w.heap.size w w') :
    s.post enc P f false true false false w args (.bool true) w' := by
  have hlt := hW.lt
  have hW' := hW
  obtain ⟨p, q, hA, hV, rfl, hfz, hnd⟩ := hW
  rw [hv] at hV
  obtain ⟨rfl, rfl⟩ := trodVars_none hV
  simp only [List.append_nil] at hlt hW' hfn
  refine ⟨ds, [], p, [], p, [], hW', ?_, ?_, ?_, hb.frame _, fun h => by cases h⟩
  · rw [show (ds ++ ([] : List (DataW H))) = ds by simp, hfn, hres]
    exact trodAll_cons_mk (shut_bool htb _) trodAll_mk0
  · rw [show (ds ++ ([] : List (DataW H))) = ds by simp, hfn]
    exact trodAll_stays hl hps hA (fun x hx => hb.same (hlt x hx)) (fun x hx => by simpa using hlt x hx)
  · rw [hv, show (ds ++ ([] : List (DataW H))) = ds by simp, hfn]
    rfl

theorem cells_at {a : Addr} {n : Nat} {cs : List Value} (h : w.cells? base a n = some cs) : cs.length = n ∧ ∀ j u, cs[j]? = some u → w.cell? (a.add j) = some u := by
  unfold World.cells? at h
  split at h
  · have h2 : ∀ (l : List Nat) (cs : List Value), (l.mapM fun i => w.cell? (a.add i)) = some cs → cs.length = l.length ∧ ∀ (j : Nat) (u : Value), cs[j]? = some u → ∃ i : Nat, l[j]? = some i ∧ w.cell? (a.add i) = some u := by
      intro l
      induction l with
      | nil => intro cs h; simp at h; subst h; simp
      | cons x r ih =>
        intro cs h
        rw [List.mapM_cons] at h
        cases hx : w.cell? (a.add x) with
        | none => rw [hx] at h; cases h
        | some v =>
          rw [hx] at h
          cases hr : (r.mapM fun i => w.cell? (a.add i)) with
          | none => rw [hr] at h; cases h
          | some vs =>
            rw [hr] at h
            cases h
            obtain ⟨i1, i2⟩ := ih vs hr
            refine ⟨by simp [i1], fun j u hj => ?_⟩
            cases j with
            | zero => simp at hj; subst hj; exact ⟨x, rfl, hx⟩
            | succ j => simp at hj; simpa using i2 j u hj
    obtain ⟨h3, h4⟩ := h2 _ _ h
    refine ⟨by simpa using h3, fun j u hj => ?_⟩
    obtain ⟨i, hi, hc⟩ := h4 j u hj
    rw [List.getElem?_range (by have := (List.getElem?_eq_some_iff.1 hi).1; simpa using this)] at hi
    cases hi
    exact hc
  · cases h

/-- a slice's argument, opened: it can be read, element for element -/
theorem open_rd {t e : TypeId} {k : Nat} {r : Reach} {b0 : Nat} {α : Type} {ee : α → List Value} {v : Value} {d : DataW H} {ps : List MemPlace} (ht : P.underlying t = some (.slice e)) (hc : P.cellsOf e = k) (hk : 0 < k) (hee : ∀ x, (ee x).length = k)
    (hdec : ∀ n cs x, DataW.trod enc P w base spare held n e cs = some x → ∃ y : α, cs = ee y) (hval : Value.okWide P w r b0 t v) (h : DataW.Trod enc P w base spare held t v d ps) :
    ∃ a xs c, v = .slice a xs.length c ∧ Rd k ee w a xs ∧ xs.length ≤ maxLen ∧ ∀ b ∈ ablk a, b < w.heap.size ∨ xs = [] := by
  obtain ⟨a, len, cap, rfl⟩ := okWide_slice ht hval
  obtain ⟨fuel, hf⟩ := h
  rcases Deep.open_slice ht hf with ⟨hcs, hx⟩ | ⟨a', len', cap', m, n, D, Pl, hcs, _, hlc, hcm, hm, hx, hel⟩
  · simp [Value.cells] at hcs
    obtain ⟨rfl, rfl, rfl⟩ := hcs
    exact ⟨none, [], 0, rfl, Rd.nil _ _ _ _, by simp [maxLen], by simp [ablk]⟩
  · simp [Value.cells] at hcs
    obtain ⟨rfl, rfl, rfl⟩ := hcs
    have hlm : len ≤ m := by rw [hm]; split <;> omega
    have hel2 : ∀ i, i < len → ∃ y : α, ∀ j u, (ee y)[j]? = some u → w.cell? ((a'.add (i * k)).add j) = some u := fun i hi => by
      obtain ⟨cs', h1, h2⟩ := hel i (by omega)
      obtain ⟨y, rfl⟩ := hdec _ _ _ h2
      rw [hc] at h1
      exact ⟨y, (cells_at h1).2⟩
    have hlist : ∀ n', n' ≤ len → ∃ xs : List α, xs.length = n' ∧ ∀ i x, xs[i]? = some x → ∀ j u, (ee x)[j]? = some u → w.cell? ((a'.add (i * k)).add j) = some u := by
      intro n'
      induction n' with
      | zero => exact fun _ => ⟨[], rfl, by simp⟩
      | succ n' ih =>
        intro hn
        obtain ⟨xs, hx1, hx2⟩ := ih (by omega)
        obtain ⟨y, hy⟩ := hel2 n' (by omega)
        refine ⟨xs ++ [y], by simp [hx1], fun i x hi => ?_⟩
        rcases Nat.lt_or_ge i n' with h3 | h3
        · rw [List.getElem?_append_left (by omega)] at hi; exact hx2 i x hi
        · rw [List.getElem?_append_right (by omega)] at hi
          have : i = n' := by
            have := (List.getElem?_eq_some_iff.1 hi).1
            simp at this; omega
          subst this
          simp [hx1] at hi
          subst hi
          exact hy
    obtain ⟨xs, hxl, hxs⟩ := hlist len (Nat.le_refl _)
    subst hxl
    have hspot : xs ≠ [] → a'.spot = none := fun hne => by
      obtain ⟨x, r, rfl⟩ := List.exists_cons_of_ne_nil hne
      obtain ⟨u, hu⟩ : ∃ u, (ee x)[0]? = some u := ⟨(ee x)[0]'(by rw [hee]; exact hk), List.getElem?_eq_getElem _⟩
      have h5 := hxs 0 x rfl 0 u hu
      cases hs : a'.spot with
      | none => rfl
      | some s => exact absurd h5 (by simp only [Nat.zero_mul, add_zero', World.cell?, hs]; cases w.heap[a'.block]? with | none => simp | some o => cases o <;> simp)
    refine ⟨some a', xs, cap, rfl, fun i x hi => ?_, by omega, fun b hb => ?_⟩
    · have hs := hspot (fun e => by rw [e] at hi; simp at hi)
      obtain ⟨blk, off, sp⟩ := a'
      simp only at hs
      subst hs
      refine ⟨blk, off, rfl, fun j u hj => ?_⟩
      have := hxs i x hi j u hj
      rw [addr_add, addr_add] at this
      exact this
    · by_cases hne : xs = []
      · exact .inr hne
      · left
        obtain ⟨x, r, rfl⟩ := List.exists_cons_of_ne_nil hne
        obtain ⟨u, hu⟩ : ∃ u, (ee x)[0]? = some u := ⟨(ee x)[0]'(by rw [hee]; exact hk), List.getElem?_eq_getElem _⟩
        have h5 := lt_of_cell (hxs 0 x rfl 0 u hu)
        simp [ablk] at hb
        subst hb
        simpa [Addr.add] using h5
end
end Go.Slu
