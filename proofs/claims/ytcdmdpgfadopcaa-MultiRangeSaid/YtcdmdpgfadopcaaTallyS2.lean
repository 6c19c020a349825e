/-
  The tally of texts: maps.Clone, Copy, Join.
-/
import Derived.Test.YtcdmdpgfadopcaaTallyS
namespace Go.Slu
open Go.MapKept Go.RowKit
theorem MapRep.alloc_copy {κ ν : Type} {ek : κ → Value} {ev : ν → Value} {w : World} {b : Nat} {m : List (κ × ν)} {es : Array MapEntry} {c : Nat} (hb : w.heap[b]? = some (.map es c)) (h : MapRep ek ev w b m) : MapRep ek ev (w.alloc (.map es c)) w.heap.size m := by
  obtain ⟨es', c', hb', r⟩ := h
  rw [hb] at hb'
  cases hb'
  exact ⟨es, c, (heap_alloc w _).1, r⟩
end Go.Slu
namespace Go.Proofs.Ytcdmdpgfadopcaa
open Go.Slu Go.MapKept Go.RowKit

set_option maxHeartbeats 1000000 in
set_option maxRecDepth 20000 in
theorem cloneS {ν : Type} {ev : ν → Value} (b : Nat) (M : List (Str × ν)) (w : World) (h : MapRep ekS ev w b M) :
    Calls Try.prog 93 #[.map (some b)] w fun e w' => e = .returned (.map (some w.heap.size)) ∧ MapRep ekS ev w' w.heap.size M ∧ Upd [] w w' := by
  obtain ⟨es, c, hb, hr⟩ := id h
  have hq := fun w => run_eql_map_nil_sl (P := Try.prog) w 150 _ _ (some b) Try.underlying150
  have hM : Hid (MapRep ekS ev (w.alloc (.map es c)) w.heap.size M) := h.alloc_copy hb
  clear hr h
  go_enter Try.func93, Try.ntmps93
  go_wp2_with fail
  rw [run_callFunc_extern Try.func127 (by kernel_rfl) (by kernel_rfl) (by kernel_rfl) (e := Extern.MapsClone.clone) (by kernel_rfl), run_maps_clone_sl w 150 hb]
  simp only [Result.andThen]
  rw [Oper.upon_value]
  go_wp2
  rw [run_typeAssert_map_sl _ 150 20 _ _ _ Try.underlying150]
  simp only [Result.andThen]
  rw [Oper.upon_value]
  go_wp2
  go_ret
  exact ⟨rfl, hM.out, (Upd.refl _ _).alloc _⟩

/-- 'Copy' -/
theorem copyS (tb mb g : Nat) (M : List (Str × Int)) (w : World) (h : TallyS w tb mb g M) :
    Calls Try.prog 35 #[.pointer (some ⟨tb, 0, none⟩)] w fun e w' => ∃ tb' mb', e = .returned (.pointer (some ⟨tb', 0, none⟩)) ∧ TallyS w' tb' mb' g M ∧ Upd [] w w' ∧ w.heap.size ≤ tb' ∧ w.heap.size ≤ mb' := by
  have c0 := h.c0
  have c1 := h.c1
  have hcl := fun W (hW : MapRep ekS (Value.int .i64) W mb M) => cloneS mb M W hW
  go_enter Try.func35, Try.ntmps35
  go_wp2
  go_region_held3 (fun w' => w'.cell? ⟨tb, 0, none⟩ = some (.func (.func g) #[] #[]) ∧ w'.cell? ⟨tb, 1, none⟩ = some (.map (some mb))) (go_keep)
    (first | (go_at_call 93; refine (hcl w.drew h.map).mono ?_; rintro e w1 ⟨rfl, hm1, hu1⟩; have d0 := hu1.cellS (show w.drew.cell? ⟨tb, 0, none⟩ = _ from c0) (by simp); have d1 := hu1.cellS (show w.drew.cell? ⟨tb, 1, none⟩ = _ from c1) (by simp)))
  go_wp2
  go_ret
  have hu : Upd [] w w1 := (Upd.refl [] w).drew.trans hu1
  exact ⟨w1.heap.size, w.heap.size, rfl, ⟨(heap_alloc w1 _).1, hm1.keep ((Upd.refl [] _).alloc _) (by simp), h.nz⟩, hu.alloc _, hu.size, Nat.le_refl _⟩

theorem copyS_nil (w : World) :
    Calls Try.prog 35 #[.pointer none] w fun e w' => e = .returned (.pointer none) ∧ w = w' := by
  go_enter Try.func35, Try.ntmps35
  go_wp2
  go_ret
  exact ⟨rfl, rfl⟩

theorem joinS_none (tb : Nat) (w : World) :
    Calls Try.prog 41 #[.pointer (some ⟨tb, 0, none⟩), .pointer none] w fun e w' => e = .returned (.int .i64 1) ∧ w = w' := by
  go_enter Try.func41, Try.ntmps41
  go_wp2
  go_ret
  exact ⟨rfl, rfl⟩
theorem joinS_nil (v : Option Addr) (w : World) :
    Calls Try.prog 41 #[.pointer none, .pointer v] w fun e w' => e = .returned (.int .i64 0) ∧ w = w' := by
  go_enter Try.func41, Try.ntmps41
  go_wp2
  go_ret
  exact ⟨rfl, rfl⟩

/-- what Join leaves: refused where a sum is beyond; else the counts are added -/
def JoinedS (tb mb g : Nat) (M M2 : List (Str × Int)) (w : World) (e : Ending) (w' : World) : Prop :=
  if (∀ p ∈ M2, okC (cnt M p.1 + p.2) = true) then e = .returned (.int .i64 0) ∧ ∃ M', TallyS w' tb mb g M' ∧ (∀ x, cnt M' x = cnt M x + cnt M2 x) ∧ Upd [mb] w w'
  else e = .returned (.int .i64 12) ∧ TallyS w' tb mb g M ∧ Upd [] w w'

set_option maxHeartbeats 1000000 in
theorem joinS (tb mb g tb2 mb2 g2 : Nat) (M M2 : List (Str × Int)) (w : World) (h : TallyS w tb mb g M) (h2 : TallyS w tb2 mb2 g2 M2) (hc : ∀ x, okC (cnt M x) = true) :
    Calls Try.prog 41 #[.pointer (some ⟨tb, 0, none⟩), .pointer (some ⟨tb2, 0, none⟩)] w (JoinedS tb mb g M M2 w) := by
  have c1 := h.c1
  have e1 := h2.c1
  have hcl := fun W (hW : MapRep ekS (Value.int .i64) W mb2 M2) => cloneS mb2 M2 W hW
  have hset := setS
  go_enter Try.func41, Try.ntmps41
  go_wp2_with (refine wpList_range_rep rfl _ 150 2 rfl Try.underlying150 h2.map rfl ?_; intro w1 hi1 hu1)
  go_frame
  go_loopg [20] M2.length (fun k _ wr => ∃ left : List (Str × Int), left.length = k ∧ Iter ekS (Value.int .i64) wr w.heap.size mb2 left ∧ (∀ p ∈ M2, p ∈ left ∨ okC (cnt M p.1 + p.2) = true) ∧ (∀ p ∈ left, p ∈ M2) ∧ Upd [] w wr)
  case atStart => exact ⟨M2, rfl, hi1, fun p hp => .inl hp, fun p hp => hp, hu1⟩
  case round =>
    obtain ⟨left, hk, hi, hdone, hsub, hu⟩ := hrel
    have ht := h.keep hu (by simp) (by simp)
    have d1 := ht.c1
    go_wp2_with (refine wpList_next_rep rfl _ rfl hi rfl ?_ ?_)
    · intro hl
      have hall : ∀ p ∈ M2, okC (cnt M p.1 + p.2) = true := fun p hp => (hdone p hp).resolve_left (by rw [hl]; simp)
      have hJ : ∀ W M', TallyS W tb mb g M' → (∀ x, cnt M' x = cnt M x + cnt M2 x) → Upd [mb] w W → JoinedS tb mb g M M2 w (.returned (.int .i64 0)) W := fun W M' a b c => by
        unfold JoinedS; rw [if_pos hall]; exact ⟨rfl, M', a, b, c⟩
      have H := Lib.hid hall; clear hall hdone hsub hl hi hk
      have ht2 := h2.keep hu (by simp) (by simp)
      have f1 := ht2.c1
      go_wp2_with (first
        | (go_at_call 93; refine (hcl _ ht2.map).mono ?_; rintro e w2 ⟨rfl, hm2, hu2⟩)
        | (refine wpList_range_rep rfl _ 150 2 rfl Try.underlying150 hm2 rfl ?_; intro w3 hi3 hu3))
      go_frame
      have hw : w.heap.size ≤ wr.heap.size := hu.size
      have hw2 : wr.heap.size < w2.heap.size := hm2.lt
      have hlt := h.lt
      have hnd2 := h2.map.nodup keysS
      have hu23 : Upd [] w w3 := (hu.trans hu2).trans hu3
      go_loopg [41] M2.length (fun k _ wq => ∃ (left : List (Str × Int)) (M' : List (Str × Int)), left.length = k ∧ Iter ekS (Value.int .i64) wq w2.heap.size wr.heap.size left ∧ TallyS wq tb mb g M' ∧ (left.map (·.1)).Nodup ∧ (∀ p ∈ left, p ∈ M2) ∧
        (∀ x : Str, cnt M' x = cnt M x + (if (lk left x).isSome then 0 else cnt M2 x)) ∧ Upd [mb] w wq)
      case atStart =>
        refine ⟨M2, M, rfl, hi3, h.keep hu23 (by simp) (by simp), hnd2, fun p hp => hp, fun x => ?_, hu23.mono (by simp)⟩
        cases hx : lk M2 x <;> simp [cnt, hx]
      case round =>
        obtain ⟨left, M', hk, hi, htq, hnd, hsub, hcnt, huq⟩ := hrel
        have HC := Lib.hid hcnt; clear hcnt
        have HS := Lib.hid hsub; clear hsub
        have HN := Lib.hid hnd; clear hnd
        have q1 := htq.c1
        go_wp2_with (refine wpList_next_rep rfl _ rfl hi rfl ?_ ?_)
        · intro hl
          go_wp2
          go_ret
          exact hJ _ M' htq (fun x => by rw [HC.out x, hl]; simp [lk]) huq
        · intro x n l1 l2 w4 hl hi4 hat hu4
          have hpm : (x, n) ∈ M2 := HS.out (x, n) (by rw [hl]; simp)
          have hok : okC (cnt M x + n) = true := H.out _ hpm
          have hcx : cnt M' x = cnt M x := by rw [HC.out x, lk_of_mem HN.out (show (x, n) ∈ left by rw [hl]; simp)]; simp
          have hpb : -2147483647 ≤ n ∧ n ≤ 2147483647 := by simpa [okC] using (h2.nz (x, n) hpm).2
          have hcb : -2147483647 ≤ cnt M' x ∧ cnt M' x ≤ 2147483647 := by rw [hcx]; simpa [okC] using hc x
          have hok' : okC (cnt M' x + n) = true := by rw [hcx]; exact hok
          have hne1 : tb ≠ w2.heap.size := by omega
          have hne2 : mb ≠ w2.heap.size := by omega
          have ht4 := htq.keep hu4 (by simpa using hne1) (by simpa using hne2)
          have q4 := ht4.c1
          have HX := Lib.hid hcx; clear hcx hok
          have HL := Lib.hid hl; clear hl
          have HK := Lib.hid hk; clear hk
          clear hne1 hne2
          go_wp2_with (first
            | (refine wpList_entry_rep rfl _ rfl hat rfl ?_)
            | (at_lookup; refine wpList_lookup_cnt rfl _ _ 150 2 rfl keysS Try.underlying150 zero2 ht4.map x rfl rfl ?_)
            | (go_at_call 94; refine (hset tb mb g M' x _ _ ht4 hok').mono ?_; rintro e w5 ⟨rfl, ht5, hu5⟩))
          have hl := HL.out
          have hk := HK.out
          have hnd := HN.out
          rw [hl] at hnd hk
          simp only [List.map_append, List.map_cons] at hnd
          obtain ⟨hn1, hn2, hn3⟩ := List.nodup_append.1 hnd
          obtain ⟨hn4, hn5⟩ := List.nodup_cons.1 hn2
          have hxl : x ∉ (l1 ++ l2).map (·.1) := by
            simp only [List.map_append, List.mem_append, not_or]
            exact ⟨fun q => hn3 x q x (List.mem_cons_self ..) rfl, hn4⟩
          go_roundg (l1 ++ l2).length
          case measure => simp at hk ⊢; omega
          case rel =>
            refine ⟨l1 ++ l2, _, rfl, (hi4.keep hu5 (by simp; omega) (by simp; omega)), ht5, ?_, fun p hp => HS.out p (by rw [hl]; simp at hp ⊢; rcases hp with h | h <;> simp [h]), fun y => ?_, (huq.then hu4 (by simp; omega)).trans (hu5.mono (by simp))⟩
            · rw [List.map_append]
              exact List.nodup_append.2 ⟨hn1, hn5, fun a ha b hb => hn3 a ha b (List.mem_cons_of_mem _ hb)⟩
            · rw [cnt_setM]
              by_cases hy : y = x
              · subst hy
                rw [if_pos rfl, lk_none.2 hxl, HX.out, show cnt M2 y = n from by simp [cnt, lk_of_mem hnd2 hpm]]
                simp
              · rw [if_neg hy, HC.out y, hl, lk_skip _ _ hy]
    · intro x n l1 l2 w2 hl hi2 hat hu2
      have hpm : (x, n) ∈ M2 := hsub (x, n) (by rw [hl]; simp)
      have hcb : -2147483647 ≤ cnt M x ∧ cnt M x ≤ 2147483647 := by simpa [okC] using hc x
      have hpb : -2147483647 ≤ n ∧ n ≤ 2147483647 := by simpa [okC] using (h2.nz (x, n) hpm).2
      have ht2 := ht.keep hu2 (by simp; have := h.lt.1; omega) (by simp; have := h.lt.2; omega)
      have d2 := ht2.c1
      by_cases hok : okC (cnt M x + n) = true
      · go_wp2_with (first
          | (refine wpList_entry_rep rfl _ rfl hat rfl ?_)
          | (at_lookup; refine wpList_lookup_cnt rfl _ _ 150 2 rfl keysS Try.underlying150 zero2 ht2.map x rfl rfl ?_)
          | (go_at_call 84; refine (within_any _ _).mono ?_; rintro e w' ⟨rfl, rfl⟩))
        go_roundg (l1 ++ l2).length
        case measure => subst hl; simp at hk ⊢; omega
        case rel =>
          refine ⟨l1 ++ l2, rfl, hi2, fun p hp => ?_, fun p hp => hsub p (by rw [hl]; simp at hp ⊢; rcases hp with h | h <;> simp [h]), hu.then hu2 (by simp)⟩
          rcases hdone p hp with hp | hp
          · rw [hl] at hp
            simp only [List.mem_append, List.mem_cons] at hp ⊢
            rcases hp with hp | rfl | hp
            · exact .inl (.inl hp)
            · exact .inr hok
            · exact .inl (.inr hp)
          · exact .inr hp
      · have hno : ¬ ∀ p ∈ M2, okC (cnt M p.1 + p.2) = true := fun H => hok (H _ hpm)
        have hJ : ∀ W, TallyS W tb mb g M → Upd [] w W → JoinedS tb mb g M M2 w (.returned (.int .i64 12)) W := fun W a b => by
          unfold JoinedS; rw [if_neg hno]; exact ⟨rfl, a, b⟩
        have hok' : okC (cnt M x + n) = false := by simpa using hok
        clear hno
        go_wp2_with (first
          | (refine wpList_entry_rep rfl _ rfl hat rfl ?_)
          | (at_lookup; refine wpList_lookup_cnt rfl _ _ 150 2 rfl keysS Try.underlying150 zero2 ht2.map x rfl rfl ?_)
          | (go_at_call 84; refine (within_any _ _).mono ?_; rintro e w' ⟨rfl, rfl⟩))
        go_ret
        exact hJ _ ht2 (hu.then hu2 (by simp))
end Go.Proofs.Ytcdmdpgfadopcaa
