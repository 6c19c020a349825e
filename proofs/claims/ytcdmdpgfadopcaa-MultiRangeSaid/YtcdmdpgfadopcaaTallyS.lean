/-
  The tally of texts: contracts of its methods (New, set, Add, Get, Len, Clear, Copy), by walks.
-/
import Derived.Test.YtcdmdpgfadopcaaProg
import Derived.Test.YtcdmdpgfadopcaaBaseOps
import Derived.WalkLawsBesides
namespace Go.Slu
open Go.MapKept Go.RowKit

/-- a number that a count may be -/
def okC (n : Int) : Bool := decide (-2147483647 ≤ n ∧ n ≤ 2147483647)

/-- BLOCK tb IS A TALLY (type T) with the order function g; its counts are the map in block mb: M, none of them 0, each in its range. -/
structure TallyAt (T : TypeId) {κ : Type} (ek : κ → Value) (w : World) (tb mb g : Nat) (M : List (κ × Int)) : Prop where
  blk : w.heap[tb]? = some (.cells #[.func (.func g) #[] #[], .map (some mb)] T (0, 0))
  map : MapRep ek (Value.int .i64) w mb M
  nz : ∀ p ∈ M, p.2 ≠ 0 ∧ okC p.2 = true

/-- what 'set' makes -/
def setM {κ : Type} [DecidableEq κ] (M : List (κ × Int)) (x : κ) (n : Int) : List (κ × Int) := if n = 0 then del M x else put M x n

section
variable {T : TypeId} {κ : Type} {ek : κ → Value} {w w' : World} {tb mb g : Nat} {M : List (κ × Int)}
theorem TallyAt.lt (h : TallyAt T ek w tb mb g M) : tb < w.heap.size ∧ mb < w.heap.size := ⟨lt_of_block h.blk, h.map.lt⟩
theorem TallyAt.ne (h : TallyAt T ek w tb mb g M) : tb ≠ mb := fun e => by
  obtain ⟨es, c, hb, _⟩ := h.map
  have := h.blk
  rw [e, hb] at this
  cases this
theorem TallyAt.keep {X : List Nat} (h : TallyAt T ek w tb mb g M) (hu : Upd X w w') (h1 : tb ∉ X) (h2 : mb ∉ X) : TallyAt T ek w' tb mb g M :=
  ⟨hu.at h.blk h1, h.map.keep hu h2, h.nz⟩
theorem TallyAt.c0 (h : TallyAt T ek w tb mb g M) : w.cell? ⟨tb, 0, none⟩ = some (.func (.func g) #[] #[]) := by simp [World.cell?, h.blk]
theorem TallyAt.c1 (h : TallyAt T ek w tb mb g M) : w.cell? ⟨tb, 1, none⟩ = some (.map (some mb)) := by simp [World.cell?, h.blk]
theorem TallyAt.set [DecidableEq κ] (h : TallyAt T ek w tb mb g M) {x : κ} {n : Int} (hn : okC n = true) (hm : MapRep ek (Value.int .i64) w' mb (setM M x n)) (hu : Upd [mb] w w') : TallyAt T ek w' tb mb g (setM M x n) :=
  ⟨hu.at h.blk (by simpa using h.ne), hm, fun p hp => by
    unfold setM at hp
    split at hp
    · exact h.nz p (List.mem_filter.1 hp).1
    · rename_i h0
      rcases mem_put hp with rfl | hp
      · exact ⟨h0, hn⟩
      · exact h.nz p hp⟩
end
theorem cnt_setM {κ : Type} [DecidableEq κ] (M : List (κ × Int)) (x : κ) (n : Int) (y : κ) : cnt (setM M x n) y = if y = x then n else cnt M y := by
  unfold cnt setM
  split
  · rename_i h; subst h
    rw [lk_del]; split <;> simp
  · rw [lk_put]; split <;> simp
end Go.Slu

namespace Go.Proofs.Ytcdmdpgfadopcaa
open Go.Slu Go.MapKept Go.RowKit
theorem within_any (n : Int) (w : World) : Calls Try.prog 84 #[.int .i64 n] w fun e w' => e = .returned (.bool (okC n)) ∧ w = w' := by
  unfold okC
  by_cases h : -2147483647 ≤ n
  all_goals by_cases h2 : n ≤ 2147483647
  all_goals (go_enter Try.func84, Try.ntmps84; go_wp2; go_ret)
  all_goals refine ⟨?_, rfl⟩
  all_goals simp
  all_goals omega

/-- a text that there may be -/
structure Str where
  s : ByteArray
  ok : s.size ≤ maxLen
theorem Str.ext' {x y : Str} (h : x.s = y.s) : x = y := by cases x; cases y; cases h; rfl
instance : DecidableEq Str := fun x y => decidable_of_iff (x.s = y.s) ⟨Str.ext', fun h => h ▸ rfl⟩
instance : Inhabited Str := ⟨⟨.empty, by simp [maxLen]⟩⟩
/-- .. as a value -/
abbrev ekS (x : Str) : Value := .string x.s
theorem keysS : KeyOps Try.prog 9 ekS := KeyOps.plain Try.underlying9 (fun _ _ h => Str.ext' (by simpa [ekS] using h)) (fun _ => trivial)
theorem zero2 (w : World) : (zeroValue 2).run Try.prog w = .ok (.int .i64 0) w := by kernel_rfl

abbrev TallyS (w : World) (tb mb g : Nat) (M : List (Str × Int)) : Prop := TallyAt 152 ekS w tb mb g M

theorem setS (tb mb g : Nat) (M : List (Str × Int)) (x : Str) (n : Int) (w : World) (h : TallyS w tb mb g M) (hn : okC n = true) :
    Calls Try.prog 94 #[.pointer (some ⟨tb, 0, none⟩), .string x.s, .int .i64 n] w fun e w' => e = .returned (.tuple #[]) ∧ TallyS w' tb mb g (setM M x n) ∧ Upd [mb] w w' := by
  have c1 := h.c1
  by_cases h0 : n = 0
  · subst h0
    go_enter Try.func94, Try.ntmps94
    go_wp2_with (at_delete; refine wpList_delete_rep rfl _ _ 150 2 rfl keysS Try.underlying150 h.map x rfl rfl ?_; intro w1 hm1 hu1)
    go_end0
    exact ⟨rfl, h.set hn (by simpa [setM] using hm1) hu1, hu1⟩
  · have hb : (n == 0) = false := by simpa using h0
    go_enter Try.func94, Try.ntmps94
    go_wp2_with (at_mapUpdate; refine wpList_mapUpdate_rep rfl _ _ _ 150 2 rfl keysS Try.underlying150 h.map x n rfl rfl rfl ?_; intro w1 hm1 hu1)
    go_end0
    exact ⟨rfl, h.set hn (by simpa [setM, h0] using hm1) hu1, hu1⟩

theorem getS (tb mb g : Nat) (M : List (Str × Int)) (x : Str) (w : World) (h : TallyS w tb mb g M) :
    Calls Try.prog 42 #[.pointer (some ⟨tb, 0, none⟩), .string x.s] w fun e w' => e = .returned (.int .i64 (cnt M x)) ∧ w = w' := by
  have c1 := h.c1
  have hl := h.map.lookup keysS Try.underlying150 zero2 x
  have hv : ((lk M x).map (Value.int .i64)).getD (.int .i64 0) = .int .i64 (cnt M x) := by unfold cnt; cases lk M x <;> rfl
  rw [hv] at hl; clear hv
  go_enter Try.func42, Try.ntmps42
  go_wp2
  go_ret
  exact ⟨rfl, rfl⟩

theorem getS_nil (x : Str) (w : World) :
    Calls Try.prog 42 #[.pointer none, .string x.s] w fun e w' => e = .returned (.int .i64 0) ∧ w = w' := by
  go_enter Try.func42, Try.ntmps42
  go_wp2
  go_ret
  exact ⟨rfl, rfl⟩

theorem lenS (tb mb g : Nat) (M : List (Str × Int)) (w : World) (h : TallyS w tb mb g M) :
    Calls Try.prog 40 #[.pointer (some ⟨tb, 0, none⟩)] w fun e w' => e = .returned (.int .i64 M.length) ∧ w = w' := by
  have c1 := h.c1
  go_enter Try.func40, Try.ntmps40
  go_wp2_with (at_len; refine wpList_len_rep rfl _ 150 2 rfl Try.underlying150 h.map rfl ?_)
  go_ret
  exact ⟨rfl, rfl⟩

theorem lenS_nil (w : World) :
    Calls Try.prog 40 #[.pointer none] w fun e w' => e = .returned (.int .i64 0) ∧ w = w' := by
  go_enter Try.func40, Try.ntmps40
  go_wp2
  go_ret
  exact ⟨rfl, rfl⟩

theorem clearS (tb mb g : Nat) (M : List (Str × Int)) (w : World) (h : TallyS w tb mb g M) :
    Calls Try.prog 39 #[.pointer (some ⟨tb, 0, none⟩)] w fun e w' => e = .returned (.tuple #[]) ∧ TallyS w' tb mb g [] ∧ Upd [mb] w w' := by
  have c1 := h.c1
  go_enter Try.func39, Try.ntmps39
  go_wp2_with (refine wpList_clear_rep rfl _ 150 2 rfl Try.underlying150 h.map rfl ?_; intro w1 hm1 hu1)
  go_end0
  exact ⟨rfl, ⟨hu1.at h.blk (by simpa using h.ne), hm1, fun p hp => by cases hp⟩, hu1⟩

theorem clearS_nil (w : World) :
    Calls Try.prog 39 #[.pointer none] w fun e w' => e = .returned (.tuple #[]) ∧ w = w' := by
  go_enter Try.func39, Try.ntmps39
  go_wp2
  go_end0
  exact ⟨rfl, rfl⟩

theorem newS (g : Nat) (w : World) :
    Calls Try.prog 74 #[.func (.func g) #[] #[]] w fun e w' => e = .returned (.pointer (some ⟨w.heap.size + 1, 0, none⟩)) ∧ TallyS w' (w.heap.size + 1) w.heap.size g [] ∧ Upd [] w w' := by
  have hmm := @run_makeMap Try.prog
  go_enter Try.func74, Try.ntmps74
  go_wp2
  go_ret
  refine ⟨rfl, ⟨(heap_alloc (w.alloc (.map #[] 0)) _).1.symm ▸ (by simp), ?_, fun p hp => by cases hp⟩, ((Upd.refl _ _).alloc _).alloc _⟩
  exact (MapRep.made w).keep (((Upd.refl [] _).alloc _)) (by simp)

/-- 'Add': refused where the number or the sum is beyond; else the count is set. -/
theorem addS (tb mb g : Nat) (M : List (Str × Int)) (x : Str) (n : Int) (w : World) (h : TallyS w tb mb g M) (hc : okC (cnt M x) = true) :
    Calls Try.prog 36 #[.pointer (some ⟨tb, 0, none⟩), .string x.s, .int .i64 n] w fun e w' =>
      e = .returned (.int .i64 (if okC n && okC (cnt M x + n) then 0 else 12)) ∧ TallyS w' tb mb g (if okC n && okC (cnt M x + n) then setM M x (cnt M x + n) else M) ∧ Upd [mb] w w' := by
  have c1 := h.c1
  have hl := h.map.lookup keysS Try.underlying150 zero2 x
  have hv : ((lk M x).map (Value.int .i64)).getD (.int .i64 0) = .int .i64 (cnt M x) := by unfold cnt; cases lk M x <;> rfl
  rw [hv] at hl; clear hv
  have hcb : -2147483647 ≤ cnt M x ∧ cnt M x ≤ 2147483647 := by simpa [okC] using hc
  by_cases h1 : okC n = true
  · have hnb : -2147483647 ≤ n ∧ n ≤ 2147483647 := by simpa [okC] using h1
    by_cases h2 : okC (cnt M x + n) = true
    · have hset := fun W hW => setS tb mb g M x (cnt M x + n) W hW h2
      simp only [h1, h2, Bool.and_self, if_true]
      go_enter Try.func36, Try.ntmps36
      go_wp2_with (first
        | (go_at_call 84; refine (within_any _ _).mono ?_; rintro e w' ⟨rfl, rfl⟩)
        | (go_at_call 94; refine (hset _ h).mono ?_; rintro e w1 ⟨rfl, ht1, hu1⟩))
      go_ret
      exact ⟨rfl, ht1, hu1⟩
    · have h2' : okC (cnt M x + n) = false := by simpa using h2
      simp only [h1, h2', Bool.and_false, Bool.false_eq_true, if_false]
      go_enter Try.func36, Try.ntmps36
      go_wp2_with (go_at_call 84; refine (within_any _ _).mono ?_; rintro e w' ⟨rfl, rfl⟩)
      go_ret
      exact ⟨rfl, h, Upd.refl _ _⟩
  · have h1' : okC n = false := by simpa using h1
    simp only [h1', Bool.false_and, Bool.false_eq_true, if_false]
    go_enter Try.func36, Try.ntmps36
    go_wp2_with (go_at_call 84; refine (within_any _ _).mono ?_; rintro e w' ⟨rfl, rfl⟩)
    go_ret
    exact ⟨rfl, h, Upd.refl _ _⟩
end Go.Proofs.Ytcdmdpgfadopcaa
