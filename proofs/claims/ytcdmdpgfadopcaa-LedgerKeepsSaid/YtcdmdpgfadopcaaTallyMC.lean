/-
  The tally of keys that are structs (api.Stamp): Clear, Copy.
-/
import Derived.Test.YtcdmdpgfadopcaaTallyM
import Derived.Test.YtcdmdpgfadopcaaTallyS2
namespace Go.Proofs.Ytcdmdpgfadopcaa
open Go.Slu Go.MapKept Go.RowKit
section
variable {κ : Type} [DecidableEq κ] {ek : κ → Value}
omit [DecidableEq κ] in
theorem clearMk (tb mb g : Nat) (M : List (κ × Int)) (w : World) (h : TallyMk ek w tb mb g M) :
    Calls Try.prog 100 #[.pointer (some ⟨tb, 0, none⟩)] w fun e w' => e = .returned (.tuple #[]) ∧ TallyMk ek w' tb mb g [] ∧ Upd [mb] w w' := by
  have c1 := h.c1
  go_enter Try.func100, Try.ntmps100
  go_wp2_with (refine wpList_clear_rep rfl _ 139 2 rfl Try.underlying139 h.map rfl ?_; intro w1 hm1 hu1)
  go_end0
  exact ⟨rfl, ⟨hu1.at h.blk (by simpa using h.ne), hm1, fun p hp => by cases hp⟩, hu1⟩


omit [DecidableEq κ] in
set_option maxHeartbeats 1000000 in
set_option maxRecDepth 20000 in
theorem cloneMk {ν : Type} {ev : ν → Value} (b : Nat) (M : List (κ × ν)) (w : World) (h : MapRep ek ev w b M) :
    Calls Try.prog 130 #[.map (some b)] w fun e w' => e = .returned (.map (some w.heap.size)) ∧ MapRep ek ev w' w.heap.size M ∧ Upd [] w w' := by
  obtain ⟨es, c, hb, hr⟩ := id h
  have hq := fun w => run_eql_map_nil_sl (P := Try.prog) w 139 _ _ (some b) Try.underlying139
  have hM : Hid (MapRep ek ev (w.alloc (.map es c)) w.heap.size M) := h.alloc_copy hb
  clear hr h
  go_enter Try.func130, Try.ntmps130
  go_wp2_with fail
  rw [run_callFunc_extern Try.func127 (by kernel_rfl) (by kernel_rfl) (by kernel_rfl) (e := Extern.MapsClone.clone) (by kernel_rfl), run_maps_clone_sl w 139 hb]
  simp only [Result.andThen]
  rw [Oper.upon_value]
  go_wp2
  rw [run_typeAssert_map_sl _ 139 20 _ _ _ Try.underlying139]
  simp only [Result.andThen]
  rw [Oper.upon_value]
  go_wp2
  go_ret
  exact ⟨rfl, hM.out, (Upd.refl _ _).alloc _⟩

omit [DecidableEq κ] in
/-- 'Copy' -/
theorem copyMk (tb mb g : Nat) (M : List (κ × Int)) (w : World) (h : TallyMk ek w tb mb g M) :
    Calls Try.prog 101 #[.pointer (some ⟨tb, 0, none⟩)] w fun e w' => ∃ tb' mb', e = .returned (.pointer (some ⟨tb', 0, none⟩)) ∧ TallyMk ek w' tb' mb' g M ∧ Upd [] w w' ∧ w.heap.size ≤ tb' ∧ w.heap.size ≤ mb' := by
  have c0 := h.c0
  have c1 := h.c1
  have hcl := fun W (hW : MapRep ek (Value.int .i64) W mb M) => cloneMk mb M W hW
  go_enter Try.func101, Try.ntmps101
  go_wp2
  go_region_held3 (fun w' => w'.cell? ⟨tb, 0, none⟩ = some (.func (.func g) #[] #[]) ∧ w'.cell? ⟨tb, 1, none⟩ = some (.map (some mb))) (go_keep)
    (first | (go_at_call 130; refine (hcl w.drew h.map).mono ?_; rintro e w1 ⟨rfl, hm1, hu1⟩; have d0 := hu1.cellS (show w.drew.cell? ⟨tb, 0, none⟩ = _ from c0) (by simp); have d1 := hu1.cellS (show w.drew.cell? ⟨tb, 1, none⟩ = _ from c1) (by simp)))
  go_wp2
  go_ret
  have hu : Upd [] w w1 := (Upd.refl [] w).drew.trans hu1
  exact ⟨w1.heap.size, w.heap.size, rfl, ⟨(heap_alloc w1 _).1, hm1.keep ((Upd.refl [] _).alloc _) (by simp), h.nz⟩, hu.alloc _, hu.size, Nat.le_refl _⟩
end
end Go.Proofs.Ytcdmdpgfadopcaa
