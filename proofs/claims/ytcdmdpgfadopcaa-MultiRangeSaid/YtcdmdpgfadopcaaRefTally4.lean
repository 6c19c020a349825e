/-
  The document's tally (sluiceref04): Add whole, Clear, Copy.
-/
import Derived.Test.YtcdmdpgfadopcaaRefTally3
import Derived.Deep.DeepCutAuto
namespace Go.Proofs.Ytcdmdpgfadopcaa
open Go.Slu Go.MapKept Go.RowKit Go.Sort

variable {w w' : World} {rb : Nat} {kind : Int} {L : List (RKey × Int)} {a a2 : Option Addr} {c c2 : Nat}

theorem RefF.keep {F X : List Nat} (h : RefF F w rb kind L) (hu : Upd X w w') (hx : ∀ b ∈ F, b < w.heap.size → b ∉ X) : RefF F w' rb kind L := by
  obtain ⟨a, c, a2, c2, hr, hF⟩ := h
  exact ⟨a, c, a2, c2, hr.keep hu (hx _ ((hF _).1 (.inl rfl)) (lt_of_block hr.blk)) (fun b hb => hx _ ((hF _).1 (.inr (.inl hb))) (hr.names.lt _ hb)) (fun b hb => hx _ ((hF _).1 (.inr (.inr hb))) (hr.counts.lt _ hb)), hF⟩
theorem RefF.lt {F : List Nat} (h : RefF F w rb kind L) : ∀ b ∈ F, b < w.heap.size := fun b hb => by
  obtain ⟨a, c, a2, c2, hr, hF⟩ := h
  rcases (hF b).2 hb with rfl | hb | hb
  · exact lt_of_block hr.blk
  · exact hr.names.lt _ hb
  · exact hr.counts.lt _ hb
theorem RefF.grew {F : List Nat} (h : RefF F w rb kind L) (hu : Grew w w') : RefF F w' rb kind L := h.keep hu.upd (fun _ _ _ => by simp)

/-- the counts and keys of a tally of the document's are in order -/
structure LOk (L : List (RKey × Int)) : Prop where
  nd : (L.map (·.1)).Nodup
  ok : ∀ p ∈ L, okC p.2 = true
theorem LOk.cnt (h : LOk L) (k : RKey) : okC (cnt L k) = true := by
  by_cases hk : k ∈ L.map (·.1)
  · obtain ⟨i, n, hi⟩ := ix_at hk
    rw [lk_ix h.nd hi]
    exact h.ok _ (List.mem_of_getElem? hi)
  · rw [cnt_no hk]; rfl
theorem LOk.put (h : LOk L) (k : RKey) {n : Int} (hn : okC n = true) : LOk (put L k n) := ⟨put_keys h.nd k n, fun p hp => by
  rcases mem_put hp with rfl | hp
  · exact hn
  · exact h.ok p hp⟩

/-- 'Add' -/
theorem addR (F : List Nat) (w : World) (rb : Nat) (kind : Int) (L : List (RKey × Int)) (h : RefF F w rb kind L) (hL : LOk L) (hl : L.length < 1000000) (k : RKey) (n : Int) :
    Calls Try.prog 24 #[.pointer (some ⟨rb, 0, none⟩), ekR k, .int .i64 n] w fun e w' =>
      e = .returned (.int .i64 (if okC n && okC (cnt L k + n) then 0 else 12)) ∧ StepR F w w' rb kind (if okC n && okC (cnt L k + n) then put L k (cnt L k + n) else L) := by
  obtain ⟨a, c, a2, c2, hr, hF⟩ := h
  by_cases hok : (okC n && okC (cnt L k + n)) = true
  · rw [if_pos hok, if_pos hok]
    simp only [Bool.and_eq_true] at hok
    by_cases hk : k ∈ L.map (·.1)
    · obtain ⟨i, m, hi⟩ := ix_at hk
      rw [lk_ix hL.nd hi] at hok ⊢
      rw [put_set hL.nd hi]
      exact addR_old F w rb kind L a c a2 c2 hr hF k n m i hl hi hL.nd (hL.ok _ (List.mem_of_getElem? hi)) hok.1 hok.2
    · rw [cnt_no hk, put_new hk, Int.zero_add]
      exact addR_new F w rb kind L a c a2 c2 hr (fun b => (hF b).1) k n hl hk hL.nd hok.1
  · have hok' : (okC n && okC (cnt L k + n)) = false := by simpa using hok
    rw [if_neg hok, if_neg hok]
    refine (addR_refused w rb kind L a c a2 c2 hr hL.nd k n (by omega) (hL.cnt k) hok').mono ?_
    rintro e w' ⟨rfl, hg⟩
    exact ⟨rfl, F, ⟨a, c, a2, c2, hr.grew hg, hF⟩, fun b hb => .inl hb, (Upd.refl F w).then hg.upd (by simp)⟩

theorem getF (F : List Nat) (w : World) (rb : Nat) (kind : Int) (L : List (RKey × Int)) (h : RefF F w rb kind L) (hL : LOk L) (hl : L.length < 1000000) (k : RKey) :
    Calls Try.prog 27 #[.pointer (some ⟨rb, 0, none⟩), ekR k] w fun e w' => e = .returned (.int .i64 (cnt L k)) ∧ Grew w w' := by
  obtain ⟨a, c, a2, c2, hr, hF⟩ := h
  exact getR w rb kind L a c a2 c2 hr hL.nd k (by omega)

/-- 'Clear' -/
theorem clearR (F : List Nat) (w : World) (rb : Nat) (kind : Int) (L : List (RKey × Int)) (h : RefF F w rb kind L) :
    Calls Try.prog 81 #[.pointer (some ⟨rb, 0, none⟩)] w fun e w' => e = .returned (.tuple #[]) ∧ StepR F w w' rb kind [] := by
  obtain ⟨a, c, a2, c2, hr, hF⟩ := h
  have hb := hr.blk
  have HF := Lib.hid hF
  clear hF hr
  go_enter Try.func81, Try.ntmps81
  go_wp2_with (first
    | (refine wpList_store1 (by rfl) _ _ (by rfl) sizeNames hb (i := 1) (by simp) (by simp [Act.eval, Act.put]) (by simp [Act.eval, Act.put]; rfl) (by rfl) ?_; intro w1 hb1 hu1)
    | (refine wpList_store1 (by rfl) _ _ (by rfl) sizeCounts hb1 (i := 2) (by simp) (by simp [Act.eval, Act.put]) (by simp [Act.eval, Act.put]; rfl) (by rfl) ?_; intro w2 hb2 hu2))
  go_end0
  refine ⟨rfl, [rb], ⟨none, 0, none, 0, ⟨by simpa using hb2, OwnAt.nil _ _ _ _, OwnAt.nil _ _ _ _⟩, fun b => by simp [ablk]⟩, fun b hb => ?_, ?_⟩
  · simp at hb; subst hb; exact .inl ((HF.out _).1 (.inl rfl))
  · exact ((Upd.refl F w).then hu1 (fun i hi _ => by simp at hi; subst hi; exact (HF.out _).1 (.inl rfl))).then hu2 (fun i hi _ => by simp at hi; subst hi; exact (HF.out _).1 (.inl rfl))

def CopiedR (w : World) (kind : Int) (L : List (RKey × Int)) (e : Ending) (w' : World) : Prop :=
  ∃ rb' F', e = .returned (.pointer (some ⟨rb', 0, none⟩)) ∧ RefF F' w' rb' kind L ∧ (∀ b ∈ F', w.heap.size ≤ b) ∧ Upd [] w w'

set_option maxHeartbeats 1000000 in
/-- 'Copy' -/
theorem copyR (F : List Nat) (w : World) (rb : Nat) (kind : Int) (L : List (RKey × Int)) (h : RefF F w rb kind L) (hl : L.length < 1000000) :
    Calls Try.prog 80 #[.pointer (some ⟨rb, 0, none⟩)] w (CopiedR w kind L) := by
  obtain ⟨a, c, a2, c2, hr, hF⟩ := h
  have c0 := hr.k0
  have H := Lib.hid hr
  have HL := Lib.hid hl
  clear hF hr hl
  go_enter Try.func80, Try.ntmps80
  go_upto_region 2 with fail
  have hu1 := Lib.hid ((Upd.refl [] w).alloc (.cells #[.int .i64 kind, .slice none 0 0, .slice none 0 0] 31))
  have hb1 := (heap_alloc w (.cells #[.int .i64 kind, .slice none 0 0, .slice none 0 0] 31)).1
  generalize w.alloc (.cells #[.int .i64 kind, .slice none 0 0, .slice none 0 0] 31) = w1 at *
  have hr1 := H.out.keep hu1.out (by simp) (by simp) (by simp)
  have hrl := H.out.names.lt
  have hne : rb ≠ w.heap.size := by have := lt_of_block H.out.blk; omega
  have d1 := hr1.k1
  have d2 : w1.cell? ⟨w.heap.size, 1, none⟩ = some (.slice none 0 0) := by simp [World.cell?, hb1]
  have f2 : w1.frozen? ⟨w.heap.size, 1, none⟩ = false := by simp [World.frozen?, hb1]
  have HR1 := Lib.hid hr1
  have HB1 := Lib.hid hb1
  clear hr1 hb1 hrl
  have HNE := Lib.hid hne
  clear hne
  go_cut [] (fun wx => ∃ a' c', OwnAt 60 2 eeR wx a' c' (L.map fun p => p.1) ∧ wx.heap[w.heap.size]? = some (.cells #[.int .i64 kind, .slice a' L.length c', .slice none 0 0] 31 (0, 0)) ∧ Upd [w.heap.size] w1 wx ∧ (∀ b ∈ ablk a', w.heap.size < b))
  case first =>
    go_region_law
      (first
        | (refine step_append_rep (by rfl) _ _ 28 (by rfl) elemR (xs := ([] : List RKey)) (ys := L.map (fun p => p.1)) (aa := none) (c := 0) (c2 := c) (a2 := a) (OwnAt.nil _ _ _ _) ((HR1.out.names.keep (Upd.refl [] w1).drew (by simp)).rd elemR.len) (by simp [Act.eval, Act.put]) (by simp [Act.eval, Act.put]) (by have := HL.out; simp [maxLen]; omega) (by have := HL.out; simp; omega) ?_; intro a' c' w3 ho hu hor hnn; have d2' := hu.cellS (show w1.drew.cell? ⟨w.heap.size, 1, none⟩ = _ from d2) (by simp [ablk]); have f2' := (hu.frozen (p := ⟨w.heap.size, 1, none⟩) (lt_of_cell d2) (by simp [ablk])).trans (show w1.drew.frozen? ⟨w.heap.size, 1, none⟩ = _ from f2); have hblk := hu.at (show w1.drew.heap[w.heap.size]? = _ from HB1.out) (by simp [ablk])))
    all_goals
      have u4 : Upd [w.heap.size] w3 (w3.setCell ⟨w.heap.size, 1, none⟩ (.slice a' L.length c')) := (Upd.refl _ w3).setCell _ _ (fun _ => by simp)
      have hblk4 := setCell_block hblk 1 (.slice a' L.length c')
      generalize w3.setCell ⟨w.heap.size, 1, none⟩ (.slice a' L.length c') = w4 at *
      have hfr : ∀ b ∈ ablk a', w.heap.size < b := fun b hb => by
        rcases hor with rfl | rfl
        · simp [ablk] at hb
        · simp [ablk] at hb
          have := lt_of_block HB1.out
          omega
      go_wp2_with fail
      go_meet
      refine ⟨a', c', ?_, by simpa using hblk4, ((Upd.refl _ _).drew.then hu (by simp [ablk])).then u4 (by simp), hfr⟩
      exact ho.keep u4 (fun b hb => by have := hfr b hb; simp; omega)
  case rest =>
    obtain ⟨a', c', ho, hb, hu, hfr⟩ := hcut
    go_upto_region 3 with fail
    have hu2 := Lib.hid (hu1.out.then hu (by simp))
    have hr2 := H.out.keep hu2.out (by simp) (by simp) (by simp)
    have e1 := hr2.k2
    have e2 : wc.cell? ⟨w.heap.size, 2, none⟩ = some (.slice none 0 0) := by simp [World.cell?, hb]
    have g2 : wc.frozen? ⟨w.heap.size, 2, none⟩ = false := by simp [World.frozen?, hb]
    have HR2 := Lib.hid hr2
    have HB2 := Lib.hid hb
    have HO2 := Lib.hid ho
    have HU2 := Lib.hid hu
    have HF2 := Lib.hid hfr
    clear hr2 hb ho hu hfr d1 d2 f2
    go_cut [] (fun wx => ∃ a2' c2', OwnAt 60 2 eeR wx a' c' (L.map fun p => p.1) ∧ OwnAt 2 1 eeC wx a2' c2' (L.map fun p => p.2) ∧ wx.heap[w.heap.size]? = some (.cells #[.int .i64 kind, .slice a' L.length c', .slice a2' L.length c2'] 31 (0, 0)) ∧ Upd [] w wx ∧ (∀ b ∈ ablk a2', w.heap.size < b))
    case first =>
      go_region_law
        (first
          | (refine step_append_rep (by rfl) _ _ 29 (by rfl) elemC (xs := ([] : List Int)) (ys := L.map (fun p => p.2)) (aa := none) (c := 0) (c2 := c2) (a2 := a2) (OwnAt.nil _ _ _ _) ((HR2.out.counts.keep (Upd.refl [] wc).drew (by simp)).rd elemC.len) (by simp [Act.eval, Act.put]) (by simp [Act.eval, Act.put]) (by have := HL.out; simp [maxLen]; omega) (by have := HL.out; simp; omega) ?_; intro a2' c2' w3 ho hu hor hnn; have d2' := hu.cellS (show wc.drew.cell? ⟨w.heap.size, 2, none⟩ = _ from e2) (by simp [ablk]); have f2' := (hu.frozen (p := ⟨w.heap.size, 2, none⟩) (lt_of_cell e2) (by simp [ablk])).trans (show wc.drew.frozen? ⟨w.heap.size, 2, none⟩ = _ from g2); have hblk := hu.at (show wc.drew.heap[w.heap.size]? = _ from HB2.out) (by simp [ablk])))
      all_goals
        have u4 : Upd [w.heap.size] w3 (w3.setCell ⟨w.heap.size, 2, none⟩ (.slice a2' L.length c2')) := (Upd.refl _ w3).setCell _ _ (fun _ => by simp)
        have hblk4 := setCell_block hblk 2 (.slice a2' L.length c2')
        generalize w3.setCell ⟨w.heap.size, 2, none⟩ (.slice a2' L.length c2') = w4 at *
        have hfr : ∀ b ∈ ablk a2', w.heap.size < b := fun b hb => by
          rcases hor with rfl | rfl
          · simp [ablk] at hb
          · simp [ablk] at hb
            have := lt_of_block HB2.out
            omega
        go_wp2_with fail
        go_meet
        refine ⟨a2', c2', ?_, ho.keep u4 (fun b hb => by have := hfr b hb; simp; omega), by simpa using hblk4, ?_, hfr⟩
        · exact (HO2.out.keep ((Upd.refl [] wc).drew.then hu (by simp [ablk])) (by simp)).keep u4 (fun b hb => by have := HF2.out b hb; simp; omega)
        · exact (hu2.out.trans ((Upd.refl [] wc).drew.then hu (by simp [ablk]))).then u4 (fun i hi hlt => by simp at hi; omega)
    case rest =>
      obtain ⟨a2', c2', ho1, ho2, hb, hu, hfr⟩ := hcut
      have HH := Lib.hid hb
      have HH1 := Lib.hid ho1
      have HH2 := Lib.hid ho2
      have HH3 := Lib.hid hfr
      clear hb ho1 ho2 hfr
      go_wp2
      go_ret
      refine ⟨w.heap.size, w.heap.size :: (ablk a' ++ ablk a2'), rfl, ⟨a', c', a2', c2', ⟨HH.out, HH1.out, HH2.out⟩, fun b => by simp⟩, fun b hb => ?_, hu⟩
      simp only [List.mem_cons, List.mem_append] at hb
      rcases hb with rfl | hb | hb
      · omega
      · have := HF2.out b hb; omega
      · have := HH3.out b hb; omega
end Go.Proofs.Ytcdmdpgfadopcaa
