/-
  sluicelaw04: TallyAnything, the row.
-/
import Derived.Test.YtcdmdpgfadopcaaLawAny4
import Derived.Test.YtcdmdpgfadopcaaLawRow
namespace Go.Proofs.Ytcdmdpgfadopcaa
open Go.Slu Go.MapKept Go.RowKit Go.ChangeShapes Go.WideShapes Go.ChangeAt

theorem list2 {α : Type} {l : List α} (h : l.length = 2) : ∃ a b, l = [a, b] := by
  match l, h with
  | [a, b], _ => exact ⟨a, b, rfl⟩
theorem list3 {α : Type} {l : List α} (h : l.length = 3) : ∃ a b c, l = [a, b, c] := by
  match l, h with
  | [a, b, c], _ => exact ⟨a, b, c, rfl⟩
theorem list4 {α : Type} {l : List α} (h : l.length = 4) : ∃ a b c d, l = [a, b, c, d] := by
  match l, h with
  | [a, b, c, d], _ => exact ⟨a, b, c, d, rfl⟩
theorem u8_of_wf {n : Int} (h : (Lit.int .u8 n).wf = true) : ∃ b : UInt8, n = (b.toNat : Int) := by
  simp [Lit.wf, IntKind.min, IntKind.max, IntKind.signed, IntKind.bits] at h
  refine ⟨UInt8.ofNat n.toNat, ?_⟩
  have : (UInt8.ofNat n.toNat).toNat = n.toNat % 256 := by simp
  omega
theorem cellsCt : Try.prog.cellsOf 55 = 4 := by kernel_rfl
set_option maxRecDepth 100000 in
theorem dec_pair {H : Type} {enc : TypeId × Value → H} {w : World} {base : Nat} {sp : Nat → Bool} {hd : Bool} (n : Nat) (c0 c1 c2 : Value) (x : DataW H × List MemPlace) (h : DataW.trod enc Try.prog w base sp hd n 44 [c0, c1, c2] = some x) : ∃ p : PairK, [c0, c1, c2] = eeP2 p := by
  obtain ⟨xs, m, _, _, hl, hxl, hf⟩ := DataW.trod_struct Try.underlying44 h
  obtain ⟨x0, x1, rfl⟩ := list2 (show xs.length = 2 from hxl)
  have h0 := hf 0 _ rfl
  have h1 : DataW.trod enc Try.prog w base sp hd m 42 [c1, c2] = some x1 := hf 1 _ rfl
  obtain ⟨n0, e0, _, w0⟩ := DataW.trod_int Try.underlying3 h0
  obtain ⟨ys, m2, _, _, hl2, hyl, hg⟩ := DataW.trod_array Try.underlying42 h1
  obtain ⟨y0, y1, rfl⟩ := list2 hyl
  have g0 : DataW.trod enc Try.prog w base sp hd m2 5 [c1] = some y0 := hg 0 (by omega)
  have g1 : DataW.trod enc Try.prog w base sp hd m2 5 [c2] = some y1 := hg 1 (by omega)
  obtain ⟨n1, e1, _, w1⟩ := DataW.trod_int Try.underlying5 g0
  obtain ⟨n2, e2, _, w2⟩ := DataW.trod_int Try.underlying5 g1
  cases e0; cases e1; cases e2
  obtain ⟨b0, rfl⟩ := u8_of_wf w1
  obtain ⟨b1, rfl⟩ := u8_of_wf w2
  exact ⟨⟨n0, b0, b1, i64_of_wf w0⟩, rfl⟩
set_option maxRecDepth 100000 in
theorem dec_count {H : Type} {enc : TypeId × Value → H} {w : World} {base : Nat} {sp : Nat → Bool} {hd : Bool} (n : Nat) (cs : List Value) (x : DataW H × List MemPlace) (h : DataW.trod enc Try.prog w base sp hd n 55 cs = some x) : ∃ y : CountK, cs = eeCt y := by
  obtain ⟨xs, m, _, _, hl, hxl, hf⟩ := DataW.trod_struct Try.underlying55 h
  rw [cellsCt] at hl
  obtain ⟨c0, c1, c2, c3, rfl⟩ := list4 hl
  obtain ⟨x0, x1, rfl⟩ := list2 (show xs.length = 2 from hxl)
  have h0 : DataW.trod enc Try.prog w base sp hd m 44 [c0, c1, c2] = some x0 := hf 0 _ rfl
  have h1 : DataW.trod enc Try.prog w base sp hd m 2 [c3] = some x1 := hf 1 _ rfl
  obtain ⟨p, hp⟩ := dec_pair _ _ _ _ _ h0
  obtain ⟨n1, e1, _, w1⟩ := DataW.trod_int Try.underlying2 h1
  cases e1
  cases hp
  exact ⟨⟨p, n1⟩, rfl⟩

namespace tallyAnything
set_option maxRecDepth 100000 in
theorem contract (H : Type) (enc : TypeId × Value → H) (W : World) (base : Nat) (args : Array Value) (ds gs : List (DataW H)) (before : List MemPlace)
    (hval : ∀ (j : Nat) t v, Try.f4.params[j]? = some t → args[j]? = some v → Value.okWide Try.prog W .any base t v)
    (hW : DataW.Whole enc Try.prog Try.f4.params.toList Rows.tallyAnythingSpec.vars false W args.toList ds gs before) :
    Calls Try.prog 4 args W fun e W' => ∃ v, e = .returned v ∧ Rows.tallyAnythingSpec.post enc Try.prog Try.f4 false true false false W args v W' := by
  have hW' := hW
  obtain ⟨p, q, hA0, hV, rfl, hfz, hnd⟩ := hW
  have hA : DataW.TrodAll enc Try.prog W 0 (fun _ => true) true Try.f4.params.toList args.toList ds p := hA0
  rw [Try.params4] at hA hval
  obtain ⟨v0, vs0, d0, ds0, p0, q0, hargs, rfl, rfl, h0, r0⟩ := trodAll_cons hA
  obtain ⟨rfl, rfl, rfl⟩ := trodAll_nil r0
  obtain rfl : args = #[v0] := by cases args; simp_all
  obtain ⟨rfl, rfl⟩ := trodVars_none hV
  obtain ⟨a, xs, c, rfl, hrd, hxl, _⟩ := open_rd (ee := eeCt) Try.underlying39 cellsCt (by omega) (fun _ => rfl) (fun n cs x h => dec_count n cs x h) (hval 0 _ v0 rfl rfl) h0
  refine (anything_any W a xs c hrd hxl).mono fun e W' ⟨he, hu⟩ => ?_
  subst he
  exact ⟨_, rfl, post_law laidOutP rfl (by rw [Try.params4]; intro t ht; simp at ht; subst ht; exact ⟨by kernel_rfl, by decide +kernel⟩) hW' (tb := 4) (by kernel_rfl) Try.underlying4 rfl hu.below⟩

set_option maxRecDepth 100000 in
theorem lifted (os : Os) (started : os.Started) (H : Type) (enc : TypeId × Value → H) :
    ReturnsInHanded {} Try.checked os 4 .any (Rows.tallyAnythingSpec.pre6 enc Try.prog Try.f4 Rows.tallyAnythingRow.domain false) (Rows.tallyAnythingSpec.post enc Try.prog Try.f4 false true false false) := by
  refine returnsInHanded_of_change (C := Try.checked) ownKn started (by kernel_rfl) Try.func4
    (ChangeSpec.witness6 (enc := enc) (C := Try.checked) false ⟨#[], #[.slice none 0 0], []⟩ 8 (by kernel_rfl) (by kernel_rfl) (by kernel_rfl) (by kernel_rfl)) ?_
  intro W base args ds gs before hval hW _ _
  exact contract H enc W base args ds gs before hval hW

theorem said : Rows.TallyAnythingSaid :=
  OpenClaim.holds_of_wide 4 Try.f4 rfl rfl rfl rfl rfl rfl rfl ⟨rfl, rfl, rfl, rfl, rfl⟩ rfl rfl rfl rfl rfl (by kernel_rfl) Try.func4 (by kernel_rfl)
    (of_decide_eq_true (by kernel_rfl)) (by unfold Func.isWrapper; first | (rw [if_pos (by decide +kernel)]; kernel_rfl) | (rw [if_neg (by decide +kernel)]; exact ⟨rfl, rfl⟩))
    (fun os started H enc _ => lifted os started H enc)
#print axioms said
end tallyAnything
end Go.Proofs.Ytcdmdpgfadopcaa
