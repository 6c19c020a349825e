/-
  Own base: times as keys, as elements, in their order; comparing them.
-/
import Derived.Test.YtcdmdpgfadopcaaStampKeys
import Derived.Test.YtcdmdpgfadopcaaTallyTK
import Derived.Test.YtcdmdpgfadopcaaTallyTC
import Derived.Test.YtcdmdpgfadopcaaEqOp
namespace Go.Proofs.Ytcdmdpgfadopcaa
open Go.Slu Go.MapKept Go.RowKit Go.Sort Go.WideMaps

theorem wideT : (match Try.prog.underlying 50 with | some (.array _ _) | some (.struct _) => true | _ => false) = true := by kernel_rfl
set_option maxRecDepth 100000 in
theorem klawT : KeyLaw Try.prog 50 := deep_law_laid laidOutP (m := 2) (by omega) (of_decide_eq_true (by kernel_rfl)) (by kernel_rfl) wideT
theorem klitsT (p : TimeK) (m : Nat) : Try.prog.keyLits (m + 4) 50 (eeT p) = some [.int .u64 p.a, .int .u64 p.b, .int .u64 p.c] := by
  simp [Program.keyLits, Try.underlying50, Try.underlying48, skT, skU, wfU64 p.ha, wfU64 p.hb, wfU64 p.hc]
theorem keyofT (p : TimeK) : ∃ l, keyOf Try.prog 50 (ekT p) = some l := by
  have hk : Try.prog.keyType 50 = true := by kernel_rfl
  obtain ⟨m, hm⟩ := sk_big
  have hf : (ekT p).formed Try.prog 50 = true := by simp [Value.formed, Try.underlying50, skT]
  unfold keyOf
  rw [Try.underlying50]
  simp only [hk, hf, hm, Bool.and_self, if_true]
  exact ⟨_, by rw [show (ekT p).cells.toList = eeT p from rfl, klitsT]; rfl⟩
theorem ekT_inj (x y : TimeK) (h : ekT x = ekT y) : x = y := by
  simp only [ekT, Value.agg.injEq, Array.mk.injEq, List.cons.injEq, Value.int.injEq, true_and, and_true] at h
  exact TimeK.ext' h.1 h.2.1 h.2.2
theorem kvTime : KVTk ekT := ⟨KeyOps.of_law klawT ekT_inj keyofT, fun x => ⟨_, _, _, rfl⟩⟩
set_option maxRecDepth 100000 in
theorem eqLawT : EqLaw Try.prog 50 ekT :=
  EqLaw.of_deep (m := 2) (by omega) (of_decide_eq_true (by kernel_rfl)) wideT klawT ekT_inj keyofT (by kernel_rfl) (fun _ => ⟨_, rfl⟩)
theorem infoTi : (Try.prog.info? 50).map (fun i => (i.zero, i.size, i.bytes)) = some (some (.agg #[.int .u64 0, .int .u64 0, .int .u64 0]), 3, 24) := by kernel_rfl
theorem elemTi : Elem Try.prog 111 50 3 24 eeT where
  ht := Try.underlying111
  info := by obtain ⟨i, h1, h2, h3, h4⟩ := info_parts infoTi; exact ⟨i, _, h1, h2, h3, h4, rfl⟩
  pos := by omega
  len _ := rfl
  one _ u hu := by simp [eeT] at hu; rcases hu with rfl | rfl | rfl <;> rfl
theorem cmpT_tot (x y : TimeK) (h1 : ltOf cmpT x y = false) (h2 : ltOf cmpT y x = false) : x = y := by
  simp only [ltOf, decide_eq_false_iff_not, cmpT_lt] at h1 h2
  exact numsT_inj (LexLt.tot rfl h1 h2)
theorem cmpT_swo : SWO (ltOf cmpT) := SWO.of_total (fun x => by simpa [ltOf, cmpT_lt] using LexLt.irr _) (fun x y z h1 h2 => by
    simp only [ltOf, decide_eq_true_eq, cmpT_lt] at h1 h2 ⊢
    exact h1.trans h2) cmpT_tot
theorem cmpT_trans (x y z : TimeK) (h1 : cmpT x y < 0) (h2 : cmpT y z < 0) : cmpT x z < 0 := by rw [cmpT_lt] at *; exact h1.trans h2
theorem cmpT_irr (x : TimeK) : ¬ cmpT x x < 0 := by rw [cmpT_lt]; exact LexLt.irr _
theorem cmpT_asym {x y : TimeK} (h : cmpT x y < 0) : ¬ cmpT y x < 0 := fun h2 => cmpT_irr x (cmpT_trans x y x h h2)
theorem cmpT_total (x y : TimeK) (hne : x ≠ y) (h : ¬ cmpT x y < 0) : cmpT y x < 0 := by
  rw [cmpT_lt] at *
  by_cases h2 : LexLt (numsT y) (numsT x)
  · exact h2
  · exact absurd (numsT_inj (LexLt.tot rfl h h2 : numsT x = numsT y)) hne
theorem ordTime : OrdOk Try.prog 105 ekT cmpT where
  enters args w := by kernel_rfl
  pays W x y := stampCompare_any x y W
  swo := cmpT_swo
  tot := cmpT_tot
end Go.Proofs.Ytcdmdpgfadopcaa
