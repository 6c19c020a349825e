/-
  The tally of keys that are structs (api.Time): contracts of its methods, whatever the keys are written for.
-/
import Derived.Test.YtcdmdpgfadopcaaTallyS
import Derived.Test.YtcdmdpgfadopcaaBaseMem
import Derived.StillTailTactics
namespace Go.Proofs.Ytcdmdpgfadopcaa
open Go.Slu Go.MapKept Go.RowKit

/-- a key's value: its numbers -/
structure KVTk {κ : Type} [DecidableEq κ] (ek : κ → Value) : Prop where
  ops : KeyOps Try.prog 50 ek
  val : ∀ x, ∃ n0 n1 n2, ek x = .agg #[.int .u64 n0, .int .u64 n1, .int .u64 n2]
abbrev TallyTk {κ : Type} (ek : κ → Value) (w : World) (tb mb g : Nat) (M : List (κ × Int)) : Prop := TallyAt 190 ek w tb mb g M

section
variable {κ : Type} [DecidableEq κ] {ek : κ → Value}
theorem lookTk (KV : KVTk ek) {w : World} {mb : Nat} {M : List (κ × Int)} (h : MapRep ek (Value.int .i64) w mb M) (x : κ) (n : Nat) :
    (Instr.lookup 173 (.map (some mb)) (ek x) false).run Try.prog (w.drewN n) = .ok (.int .i64 (cnt M x)) (w.drewN n) := by
  have hl := (h.keep ((Upd.refl [] w).drewN n) (by simp)).lookup KV.ops Try.underlying173 zero2 x
  have hv : ((lk M x).map (Value.int .i64)).getD (.int .i64 0) = .int .i64 (cnt M x) := by unfold cnt; cases lk M x <;> rfl
  rw [hv] at hl
  exact hl

theorem getTk (KV : KVTk ek) (tb mb g : Nat) (M : List (κ × Int)) (x : κ) (w : World) (h : TallyTk ek w tb mb g M) :
    Calls Try.prog 138 #[.pointer (some ⟨tb, 0, none⟩), ek x] w fun e w' => e = .returned (.int .i64 (cnt M x)) ∧ Upd [] w w' := by
  obtain ⟨n0, n1, n2, hx⟩ := KV.val x
  have hu := (Upd.refl [] w).alloc (.cells #[.int .u64 n0, .int .u64 n1, .int .u64 n2] 50)
  have h' := h.keep hu (by simp) (by simp)
  have c1 := h'.c1
  have hl := fun n => lookTk KV h'.map x n
  rw [hx] at hl ⊢
  generalize hcx : cnt M x = cx at hl ⊢
  have HU := Lib.hid hu
  clear h h' hx hu hcx
  go_enter Try.func138, Try.ntmps138
  go_wp2_with fail
  go_quiet (fail)
  go_wp2_with fail
  go_ret
  exact ⟨rfl, HU.out.drewN _⟩

set_option maxRecDepth 20000 in
theorem setTk (KV : KVTk ek) (tb mb g : Nat) (M : List (κ × Int)) (x : κ) (n : Int) (w : World) (h : TallyTk ek w tb mb g M) (hn : okC n = true) :
    Calls Try.prog 139 #[.pointer (some ⟨tb, 0, none⟩), ek x, .int .i64 n] w fun e w' => e = .returned (.tuple #[]) ∧ TallyTk ek w' tb mb g (setM M x n) ∧ Upd [mb] w w' := by
  obtain ⟨n0, n1, n2, hx⟩ := KV.val x
  have hu := (Upd.refl [] w).alloc (.cells #[.int .u64 n0, .int .u64 n1, .int .u64 n2] 50)
  have h' := h.keep hu (by simp) (by simp)
  have c1 := h'.c1
  have z0 := cell_new w #[.int .u64 n0, .int .u64 n1, .int .u64 n2] 50 0 (v := .int .u64 n0) rfl
  have z1 := cell_new w #[.int .u64 n0, .int .u64 n1, .int .u64 n2] 50 1 (v := .int .u64 n1) rfl
  have z2 := cell_new w #[.int .u64 n0, .int .u64 n1, .int .u64 n2] 50 2 (v := .int .u64 n2) rfl
  have HU := Lib.hid hu
  have H := Lib.hid h'
  clear h h' hu
  have hxx := Lib.hid hx
  by_cases h0 : n = 0
  · subst h0
    rw [hx]
    clear hx
    go_enter Try.func139, Try.ntmps139
    go_upto_region 2 with fail
    generalize w.alloc (.cells #[.int .u64 n0, .int .u64 n1, .int .u64 n2] 50) = w1 at *
    replace H := Lib.hid (H.out.keep (Upd.refl [] _).drew (by simp) (by simp))
    go_still_tail 5, (by kernel_rfl)
    change wpList _ _ _ _ _ w1.drew
    go_wp2_with (at_delete; refine wpList_delete_rep rfl _ _ 173 2 rfl KV.ops Try.underlying173 H.out.map x rfl (by rw [hxx.out]; rfl) ?_; intro w2 hm1 hu1)
    go_end0
    exact ⟨rfl, H.out.set hn (by simpa [setM] using hm1) hu1, ((HU.out.drew).mono (by simp)).trans hu1⟩
  · have hb : (n == 0) = false := by simpa using h0
    rw [hx]
    clear hx
    go_enter Try.func139, Try.ntmps139
    go_upto_region 3 with fail
    generalize w.alloc (.cells #[.int .u64 n0, .int .u64 n1, .int .u64 n2] 50) = w1 at *
    replace H := Lib.hid (H.out.keep (Upd.refl [] _).drew (by simp) (by simp))
    go_still_tail 6, (by kernel_rfl)
    change wpList _ _ _ _ _ w1.drew
    go_wp2_with (at_mapUpdate; refine wpList_mapUpdate_rep rfl _ _ _ 173 2 rfl KV.ops Try.underlying173 H.out.map x n rfl (by rw [hxx.out]; rfl) rfl ?_; intro w2 hm1 hu1)
    go_end0
    exact ⟨rfl, H.out.set hn (by simpa [setM, h0] using hm1) hu1, ((HU.out.drew).mono (by simp)).trans hu1⟩

omit [DecidableEq κ] in
theorem lenTk (tb mb g : Nat) (M : List (κ × Int)) (w : World) (h : TallyTk ek w tb mb g M) :
    Calls Try.prog 148 #[.pointer (some ⟨tb, 0, none⟩)] w fun e w' => e = .returned (.int .i64 M.length) ∧ w = w' := by
  have c1 := h.c1
  go_enter Try.func148, Try.ntmps148
  go_wp2_with (at_len; refine wpList_len_rep rfl _ 173 2 rfl Try.underlying173 h.map rfl ?_)
  go_ret
  exact ⟨rfl, rfl⟩

omit [DecidableEq κ] in
theorem newTk (g : Nat) (w : World) :
    Calls Try.prog 104 #[.func (.func g) #[] #[]] w fun e w' => e = .returned (.pointer (some ⟨w.heap.size + 1, 0, none⟩)) ∧ TallyTk ek w' (w.heap.size + 1) w.heap.size g [] ∧ Upd [] w w' := by
  have hmm := @run_makeMap Try.prog
  go_enter Try.func104, Try.ntmps104
  go_wp2
  go_ret
  refine ⟨rfl, ⟨(heap_alloc (w.alloc (.map #[] 0)) _).1.symm ▸ (by simp), ?_, fun p hp => by cases hp⟩, ((Upd.refl _ _).alloc _).alloc _⟩
  exact (MapRep.made w).keep (((Upd.refl [] _).alloc _)) (by simp)

/-- 'Add': refused where the number or the sum is beyond; else the count is set. -/
def AddedTk (ek : κ → Value) (tb mb g : Nat) (M : List (κ × Int)) (x : κ) (n : Int) (w : World) (e : Ending) (w' : World) : Prop :=
  e = .returned (.int .i64 (if okC n && okC (cnt M x + n) then 0 else 12)) ∧ TallyTk ek w' tb mb g (if okC n && okC (cnt M x + n) then setM M x (cnt M x + n) else M) ∧ Upd [mb] w w'
set_option maxRecDepth 20000 in
theorem addTk (KV : KVTk ek) (tb mb g : Nat) (M : List (κ × Int)) (x : κ) (n : Int) (w : World) (h : TallyTk ek w tb mb g M) (hc : okC (cnt M x) = true) :
    Calls Try.prog 114 #[.pointer (some ⟨tb, 0, none⟩), ek x, .int .i64 n] w (AddedTk ek tb mb g M x n w) := by
  unfold AddedTk
  obtain ⟨n0, n1, n2, hx⟩ := KV.val x
  have hu := (Upd.refl [] w).alloc (.cells #[.int .u64 n0, .int .u64 n1, .int .u64 n2] 50)
  have h' := h.keep hu (by simp) (by simp)
  have c1 := h'.c1
  have z0 := cell_new w #[.int .u64 n0, .int .u64 n1, .int .u64 n2] 50 0 (v := .int .u64 n0) rfl
  have z1 := cell_new w #[.int .u64 n0, .int .u64 n1, .int .u64 n2] 50 1 (v := .int .u64 n1) rfl
  have z2 := cell_new w #[.int .u64 n0, .int .u64 n1, .int .u64 n2] 50 2 (v := .int .u64 n2) rfl
  have hl := fun n => lookTk KV h'.map x n
  have hset := Lib.hid (fun W hW hk => setTk KV tb mb g M x (cnt M x + n) W hW hk)
  rw [hx] at hl hset ⊢
  have hcb : -2147483647 ≤ cnt M x ∧ cnt M x ≤ 2147483647 := by simpa [okC] using hc
  have HU := Lib.hid hu
  have H := Lib.hid h'
  clear h h' hu hx
  by_cases h1 : okC n = true
  · have hnb : -2147483647 ≤ n ∧ n ≤ 2147483647 := by simpa [okC] using h1
    by_cases h2 : okC (cnt M x + n) = true
    · simp only [h1, h2, Bool.and_self, if_true]
      go_enter Try.func114, Try.ntmps114
      go_upto_region 3 with fail
      generalize w.alloc (.cells #[.int .u64 n0, .int .u64 n1, .int .u64 n2] 50) = w1 at *
      go_quiet (exact Calls.quiet_of_same ((within_any _ _).mono fun e w' h => ⟨h.1, h.2.symm⟩))
      go_upto_region 5 with fail
      have hd := (Upd.refl [] w1).drewN nq
      replace c1 := hd.cellS c1 (by simp)
      replace z0 := hd.cellS z0 (by simp)
      replace z1 := hd.cellS z1 (by simp)
      replace z2 := hd.cellS z2 (by simp)
      have H2 := Lib.hid (H.out.keep hd.drew (by simp) (by simp))
      have hl2 : _ = _ := hl (nq + 1)
      have HU2 := Lib.hid (HU.out.trans hd.drew)
      change (Instr.lookup _ _ _ _).run _ (w1.drewN nq).drew = .ok _ (w1.drewN nq).drew at hl2
      clear hd HU H hl
      generalize w1.drewN nq = w2 at *
      have hl3 : (Instr.lookup 173 (.map (some mb)) (.agg #[.int .u64 n0, .int .u64 n1, .int .u64 n2]) false).run Try.prog { heap := w2.heap, tape := w2.tape, drawn := w2.drawn + 1, os := w2.os, output := w2.output } = .ok (.int .i64 (cnt M x)) { heap := w2.heap, tape := w2.tape, drawn := w2.drawn + 1, os := w2.os, output := w2.output } := hl2
      go_still_tail 10, (by kernel_rfl)
      change wpList _ _ _ _ _ w2.drew
      go_wp2_with (go_at_call 139; refine (hset.out _ H2.out h2).mono ?_; rintro e w3 ⟨rfl, ht1, hu1⟩)
      go_ret
      exact ⟨rfl, ht1, (HU2.out.mono (by simp)).trans hu1⟩
    · have h2' : okC (cnt M x + n) = false := by simpa using h2
      simp only [h1, h2', Bool.and_false, Bool.false_eq_true, if_false]
      go_enter Try.func114, Try.ntmps114
      go_upto_region 3 with fail
      generalize w.alloc (.cells #[.int .u64 n0, .int .u64 n1, .int .u64 n2] 50) = w1 at *
      go_quiet (exact Calls.quiet_of_same ((within_any _ _).mono fun e w' h => ⟨h.1, h.2.symm⟩))
      go_wp2_with fail
      go_ret
      have hd := (Upd.refl [] w1).drewN nq
      exact ⟨rfl, H.out.keep hd (by simp) (by simp), (HU.out.trans hd).mono (by simp)⟩
  · have h1' : okC n = false := by simpa using h1
    simp only [h1', Bool.false_and, Bool.false_eq_true, if_false]
    go_enter Try.func114, Try.ntmps114
    go_upto_region 3 with fail
    generalize w.alloc (.cells #[.int .u64 n0, .int .u64 n1, .int .u64 n2] 50) = w1 at *
    go_quiet (exact Calls.quiet_of_same ((within_any _ _).mono fun e w' h => ⟨h.1, h.2.symm⟩))
    go_wp2_with fail
    go_ret
    have hd := (Upd.refl [] w1).drewN nq
    exact ⟨rfl, H.out.keep hd (by simp) (by simp), (HU.out.trans hd).mono (by simp)⟩
end
end Go.Proofs.Ytcdmdpgfadopcaa
