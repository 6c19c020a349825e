/-
  sluicelaw14: LedgerKeeps: what a ledger and its copy tell is new memory each time, and they don't meet: the statement LedgerKeepsSaid, in full, without conditions.
-/
import Derived.Test.YtcdmdpgfadopcaaLedger11
import Derived.Test.YtcdmdpgfadopcaaLedger7
namespace Go.Proofs.Ytcdmdpgfadopcaa
open Go.Slu Go.MapKept Go.RowKit Go.ChangeShapes Go.WideShapes Go.ChangeAt
namespace ledgerKeeps
set_option maxRecDepth 100000 in
theorem contract (H : Type) (enc : TypeId × Value → H) (W : World) (base : Nat) (args : Array Value) (ds gs : List (DataW H)) (before : List MemPlace)
    (hval : ∀ (j : Nat) t v, Try.f9.params[j]? = some t → args[j]? = some v → Value.okWide Try.prog W .any base t v)
    (hW : DataW.Whole enc Try.prog Try.f9.params.toList Rows.ledgerKeepsSpec.vars false W args.toList ds gs before) :
    Calls Try.prog 9 args W fun e W' => ∃ v, e = .returned v ∧ Rows.ledgerKeepsSpec.post enc Try.prog Try.f9 false true false false W args v W' := by
  have hW' := hW
  obtain ⟨p, q, hA0, hV, rfl, hfz, hnd⟩ := hW
  have hA : DataW.TrodAll enc Try.prog W 0 (fun _ => true) true Try.f9.params.toList args.toList ds p := hA0
  rw [Try.params9] at hA hval
  obtain ⟨v0, vs0, d0, ds0, p0, q0, hargs, rfl, rfl, h0, r0⟩ := trodAll_cons hA
  obtain ⟨v1, vs1, d1, ds1, p1, q1, rfl, rfl, rfl, h1, r1⟩ := trodAll_cons r0
  obtain ⟨rfl, rfl, rfl⟩ := trodAll_nil r1
  obtain rfl : args = #[v0, v1] := by cases args; simp_all
  obtain ⟨rfl, rfl⟩ := trodVars_none hV
  obtain ⟨a0, xs0, c0, rfl, hrd0, hxl0, _⟩ := open_rd (ee := eeOL) Try.underlying83 cellsOL (by omega) (fun _ => rfl) (fun n cs x h => dec_opL n cs x h) (hval 0 _ v0 rfl rfl) h0
  have hcap0 := open_cap Try.underlying83 h0
  obtain ⟨a1, xs1, c1, rfl, hrd1, hxl1, _⟩ := open_rd (ee := eeOL) Try.underlying83 cellsOL (by omega) (fun _ => rfl) (fun n cs x h => dec_opL n cs x h) (hval 1 _ v1 rfl rfl) h1
  have hcap1 := open_cap Try.underlying83 h1
  refine (keeps14_any W a0 xs0 c0 hrd0 hcap0 a1 xs1 c1 hrd1 hxl1).mono fun e W' ⟨he, hu⟩ => ?_
  subst he
  exact ⟨_, rfl, post_law laidOutP rfl (by rw [Try.params9]; intro t ht; simp at ht; subst ht; exact ⟨by kernel_rfl, by decide +kernel⟩) hW' (tb := 4) (by kernel_rfl) Try.underlying4 rfl hu⟩

set_option maxRecDepth 100000 in
theorem lifted (os : Os) (started : os.Started) (H : Type) (enc : TypeId × Value → H) :
    ReturnsInHanded {} Try.checked os 9 .any (Rows.ledgerKeepsSpec.pre6 enc Try.prog Try.f9 Rows.ledgerKeepsRow.domain false) (Rows.ledgerKeepsSpec.post enc Try.prog Try.f9 false true false false) := by
  refine returnsInHanded_of_change (C := Try.checked) ownKn started (by kernel_rfl) Try.func9
    (ChangeSpec.witness6 (enc := enc) (C := Try.checked) false ⟨#[], #[.slice none 0 0, .slice none 0 0], []⟩ 8 (by kernel_rfl) (by kernel_rfl) (by kernel_rfl) (by kernel_rfl)) ?_
  intro W base args ds gs before hval hW _ _
  exact contract H enc W base args ds gs before hval hW

theorem said : Rows.LedgerKeepsSaid :=
  OpenClaim.holds_of_wide 9 Try.f9 rfl rfl rfl rfl rfl rfl rfl ⟨rfl, rfl, rfl, rfl, rfl⟩ rfl rfl rfl rfl rfl (by kernel_rfl) Try.func9 (by kernel_rfl)
    (of_decide_eq_true (by kernel_rfl)) (by unfold Func.isWrapper; first | (rw [if_pos (by decide +kernel)]; kernel_rfl) | (rw [if_neg (by decide +kernel)]; exact ⟨rfl, rfl⟩))
    (fun os started H enc _ => lifted os started H enc)
#print axioms said
end ledgerKeeps
end Go.Proofs.Ytcdmdpgfadopcaa
