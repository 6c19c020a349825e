/-
  sluicelaw14: LedgerLikes, the row.
-/
import Derived.Test.YtcdmdpgfadopcaaLedger6
namespace Go.Proofs.Ytcdmdpgfadopcaa
open Go.Slu Go.MapKept Go.RowKit Go.ChangeShapes Go.WideShapes Go.ChangeAt

theorem row2 {α : Type} {l : List α} (h : l.length = 2) : ∃ a b, l = [a, b] := by
  match l, h with
  | [a, b], _ => exact ⟨a, b, rfl⟩
theorem row3 {α : Type} {l : List α} (h : l.length = 3) : ∃ a b c, l = [a, b, c] := by
  match l, h with
  | [a, b, c], _ => exact ⟨a, b, c, rfl⟩
theorem row6 {α : Type} {l : List α} (h : l.length = 6) : ∃ a b c d e f, l = [a, b, c, d, e, f] := by
  match l, h with
  | [a, b, c, d, e, f], _ => exact ⟨a, b, c, d, e, f, rfl⟩
theorem cellsOL : Try.prog.cellsOf 90 = 6 := by kernel_rfl
set_option maxRecDepth 100000 in
theorem dec_time {H : Type} {enc : TypeId × Value → H} {w : World} {base : Nat} {sp : Nat → Bool} {hd : Bool} (n : Nat) (c0 c1 c2 : Value) (x : DataW H × List MemPlace) (h : DataW.trod enc Try.prog w base sp hd n 50 [c0, c1, c2] = some x) : ∃ p : TimeK, [c0, c1, c2] = eeT p := by
  obtain ⟨xs, m, _, _, hl, hxl, hf⟩ := DataW.trod_struct Try.underlying50 h
  obtain ⟨x0, x1, x2, rfl⟩ := row3 (show xs.length = 3 from hxl)
  have h0 : DataW.trod enc Try.prog w base sp hd m 48 [c0] = some x0 := hf 0 _ rfl
  have h1 : DataW.trod enc Try.prog w base sp hd m 48 [c1] = some x1 := hf 1 _ rfl
  have h2 : DataW.trod enc Try.prog w base sp hd m 48 [c2] = some x2 := hf 2 _ rfl
  obtain ⟨n0, e0, _, w0⟩ := DataW.trod_int Try.underlying48 h0
  obtain ⟨n1, e1, _, w1⟩ := DataW.trod_int Try.underlying48 h1
  obtain ⟨n2, e2, _, w2⟩ := DataW.trod_int Try.underlying48 h2
  cases e0; cases e1; cases e2
  exact ⟨⟨n0, n1, n2, u64_of_wf w0, u64_of_wf w1, u64_of_wf w2⟩, rfl⟩
set_option maxRecDepth 100000 in
theorem dec_stamp {H : Type} {enc : TypeId × Value → H} {w : World} {base : Nat} {sp : Nat → Bool} {hd : Bool} (n : Nat) (c0 c1 c2 c3 : Value) (x : DataW H × List MemPlace) (h : DataW.trod enc Try.prog w base sp hd n 52 [c0, c1, c2, c3] = some x) : ∃ p : StampK, [c0, c1, c2, c3] = eeM p := by
  obtain ⟨xs, m, _, _, hl, hxl, hf⟩ := DataW.trod_struct Try.underlying52 h
  obtain ⟨x0, x1, rfl⟩ := row2 (show xs.length = 2 from hxl)
  have h0 : DataW.trod enc Try.prog w base sp hd m 3 [c0] = some x0 := hf 0 _ rfl
  have h1 : DataW.trod enc Try.prog w base sp hd m 50 [c1, c2, c3] = some x1 := hf 1 _ rfl
  obtain ⟨n0, e0, _, w0⟩ := DataW.trod_int Try.underlying3 h0
  obtain ⟨t, ht⟩ := dec_time _ _ _ _ _ h1
  cases e0; cases ht
  exact ⟨⟨n0, t, i64_of_wf w0⟩, rfl⟩
set_option maxRecDepth 100000 in
theorem dec_opL {H : Type} {enc : TypeId × Value → H} {w : World} {base : Nat} {sp : Nat → Bool} {hd : Bool} (n : Nat) (cs : List Value) (x : DataW H × List MemPlace) (h : DataW.trod enc Try.prog w base sp hd n 90 cs = some x) : ∃ y : OpL, cs = eeOL y := by
  obtain ⟨xs, m, _, _, hl, hxl, hf⟩ := DataW.trod_struct Try.underlying90 h
  rw [cellsOL] at hl
  obtain ⟨c0, c1, c2, c3, c4, c5, rfl⟩ := row6 hl
  obtain ⟨x0, x1, x2, rfl⟩ := row3 (show xs.length = 3 from hxl)
  have h0 : DataW.trod enc Try.prog w base sp hd m 3 [c0] = some x0 := hf 0 _ rfl
  have h1 : DataW.trod enc Try.prog w base sp hd m 3 [c1] = some x1 := hf 1 _ rfl
  have h2 : DataW.trod enc Try.prog w base sp hd m 52 [c2, c3, c4, c5] = some x2 := hf 2 _ rfl
  obtain ⟨n0, e0, _, w0⟩ := DataW.trod_int Try.underlying3 h0
  obtain ⟨n1, e1, _, w1⟩ := DataW.trod_int Try.underlying3 h1
  obtain ⟨t, ht⟩ := dec_stamp _ _ _ _ _ _ h2
  cases e0; cases e1; cases ht
  exact ⟨⟨n0, n1, t⟩, rfl⟩

namespace ledgerLikes
set_option maxRecDepth 100000 in
theorem contract (H : Type) (enc : TypeId × Value → H) (W : World) (base : Nat) (args : Array Value) (ds gs : List (DataW H)) (before : List MemPlace)
    (hval : ∀ (j : Nat) t v, Try.f7.params[j]? = some t → args[j]? = some v → Value.okWide Try.prog W .any base t v)
    (hW : DataW.Whole enc Try.prog Try.f7.params.toList Rows.ledgerLikesSpec.vars false W args.toList ds gs before) :
    Calls Try.prog 7 args W fun e W' => ∃ v, e = .returned v ∧ Rows.ledgerLikesSpec.post enc Try.prog Try.f7 false true false false W args v W' := by
  have hW' := hW
  obtain ⟨p, q, hA0, hV, rfl, hfz, hnd⟩ := hW
  have hA : DataW.TrodAll enc Try.prog W 0 (fun _ => true) true Try.f7.params.toList args.toList ds p := hA0
  rw [Try.params7] at hA hval
  obtain ⟨v0, vs0, d0, ds0, p0, q0, hargs, rfl, rfl, h0, r0⟩ := trodAll_cons hA
  obtain ⟨rfl, rfl, rfl⟩ := trodAll_nil r0
  obtain rfl : args = #[v0] := by cases args; simp_all
  obtain ⟨rfl, rfl⟩ := trodVars_none hV
  obtain ⟨a, xs, c, rfl, hrd, hxl, _⟩ := open_rd (ee := eeOL) Try.underlying83 cellsOL (by omega) (fun _ => rfl) (fun n cs x h => dec_opL n cs x h) (hval 0 _ v0 rfl rfl) h0
  have hcap := open_cap Try.underlying83 h0
  refine (likes_any W a xs c hrd hcap).mono fun e W' ⟨he, hu⟩ => ?_
  subst he
  exact ⟨_, rfl, post_law laidOutP rfl (by rw [Try.params7]; intro t ht; simp at ht; subst ht; exact ⟨by kernel_rfl, by decide +kernel⟩) hW' (tb := 4) (by kernel_rfl) Try.underlying4 rfl hu.below⟩

set_option maxRecDepth 100000 in
theorem lifted (os : Os) (started : os.Started) (H : Type) (enc : TypeId × Value → H) :
    ReturnsInHanded {} Try.checked os 7 .any (Rows.ledgerLikesSpec.pre6 enc Try.prog Try.f7 Rows.ledgerLikesRow.domain false) (Rows.ledgerLikesSpec.post enc Try.prog Try.f7 false true false false) := by
  refine returnsInHanded_of_change (C := Try.checked) ownKn started (by kernel_rfl) Try.func7
    (ChangeSpec.witness6 (enc := enc) (C := Try.checked) false ⟨#[], #[.slice none 0 0], []⟩ 8 (by kernel_rfl) (by kernel_rfl) (by kernel_rfl) (by kernel_rfl)) ?_
  intro W base args ds gs before hval hW _ _
  exact contract H enc W base args ds gs before hval hW

theorem said : Rows.LedgerLikesSaid :=
  OpenClaim.holds_of_wide 7 Try.f7 rfl rfl rfl rfl rfl rfl rfl ⟨rfl, rfl, rfl, rfl, rfl⟩ rfl rfl rfl rfl rfl (by kernel_rfl) Try.func7 (by kernel_rfl)
    (of_decide_eq_true (by kernel_rfl)) (by unfold Func.isWrapper; first | (rw [if_pos (by decide +kernel)]; kernel_rfl) | (rw [if_neg (by decide +kernel)]; exact ⟨rfl, rfl⟩))
    (fun os started H enc _ => lifted os started H enc)
#print axioms said
end ledgerLikes
end Go.Proofs.Ytcdmdpgfadopcaa
