/-
  The tally of keys that are structs (api.Time): Clear, Copy.
-/
import Derived.Test.YtcdmdpgfadopcaaTallyT
import Derived.Test.YtcdmdpgfadopcaaTallyS2
namespace Go.Proofs.Ytcdmdpgfadopcaa
open Go.Slu Go.MapKept Go.RowKit
section
variable {κ : Type} [DecidableEq κ] {ek : κ → Value}
omit [DecidableEq κ] in
set_option maxHeartbeats 1000000 in
set_option maxRecDepth 20000 in
theorem cloneTk {ν : Type} {ev : ν → Value} (b : Nat) (M : List (κ × ν)) (w : World) (h : MapRep ek ev w b M) :
    Calls Try.prog 172 #[.map (some b)] w fun e w' => e = .returned (.map (some w.heap.size)) ∧ MapRep ek ev w' w.heap.size M ∧ Upd [] w w' := by
  obtain ⟨es, c, hb, hr⟩ := id h
  have hq := fun w => run_eql_map_nil_sl (P := Try.prog) w 173 _ _ (some b) Try.underlying173
  have hM : Hid (MapRep ek ev (w.alloc (.map es c)) w.heap.size M) := h.alloc_copy hb
  clear hr h
  go_enter Try.func172, Try.ntmps172
  go_wp2_with fail
  rw [run_callFunc_extern Try.func127 (by kernel_rfl) (by kernel_rfl) (by kernel_rfl) (e := Extern.MapsClone.clone) (by kernel_rfl), run_maps_clone_sl w 173 hb]
  simp only [Result.andThen]
  rw [Oper.upon_value]
  go_wp2
  rw [run_typeAssert_map_sl _ 173 20 _ _ _ Try.underlying173]
  simp only [Result.andThen]
  rw [Oper.upon_value]
  go_wp2
  go_ret
  exact ⟨rfl, hM.out, (Upd.refl _ _).alloc _⟩

omit [DecidableEq κ] in
/-- 'Copy' -/
theorem copyTk (tb mb g : Nat) (M : List (κ × Int)) (w : World) (h : TallyTk ek w tb mb g M) :
    Calls Try.prog 136 #[.pointer (some ⟨tb, 0, none⟩)] w fun e w' => ∃ tb' mb', e = .returned (.pointer (some ⟨tb', 0, none⟩)) ∧ TallyTk ek w' tb' mb' g M ∧ Upd [] w w' ∧ w.heap.size ≤ tb' ∧ w.heap.size ≤ mb' := by
  have c0 := h.c0
  have c1 := h.c1
  have hcl := fun W (hW : MapRep ek (Value.int .i64) W mb M) => cloneTk mb M W hW
  go_enter Try.func136, Try.ntmps136
  go_wp2
  go_region_held3 (fun w' => w'.cell? ⟨tb, 0, none⟩ = some (.func (.func g) #[] #[]) ∧ w'.cell? ⟨tb, 1, none⟩ = some (.map (some mb))) (go_keep)
    (first | (go_at_call 172; refine (hcl w.drew h.map).mono ?_; rintro e w1 ⟨rfl, hm1, hu1⟩; have d0 := hu1.cellS (show w.drew.cell? ⟨tb, 0, none⟩ = _ from c0) (by simp); have d1 := hu1.cellS (show w.drew.cell? ⟨tb, 1, none⟩ = _ from c1) (by simp)))
  go_wp2
  go_ret
  have hu : Upd [] w w1 := (Upd.refl [] w).drew.trans hu1
  exact ⟨w1.heap.size, w.heap.size, rfl, ⟨(heap_alloc w1 _).1, hm1.keep ((Upd.refl [] _).alloc _) (by simp), h.nz⟩, hu.alloc _, hu.size, Nat.le_refl _⟩
end
end Go.Proofs.Ytcdmdpgfadopcaa
