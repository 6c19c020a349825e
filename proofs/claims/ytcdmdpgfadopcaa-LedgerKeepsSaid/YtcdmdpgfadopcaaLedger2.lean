/-
  The ledger: contracts of its methods.
-/
import Derived.Test.YtcdmdpgfadopcaaLedger1
namespace Go.Proofs.Ytcdmdpgfadopcaa
open Go.Slu Go.MapKept Go.RowKit Go.Sort

/-- BLOCK lb IS A LEDGER over the tally tb with the sums M (block mb) -/
structure LedAt (w : World) (lb tb mb : Nat) (M : List (StampK × Int)) : Prop where
  blk : w.heap[lb]? = some (.cells #[.pointer (some ⟨tb, 0, none⟩)] 160 (0, 0))
  t : TallyMk ekM w tb mb 98 M
theorem LedAt.keep {w w' : World} {lb tb mb : Nat} {M : List (StampK × Int)} {X : List Nat} (h : LedAt w lb tb mb M) (hu : Upd X w w') (h0 : lb ∉ X) (h1 : tb ∉ X) (h2 : mb ∉ X) : LedAt w' lb tb mb M :=
  ⟨hu.at h.blk h0, h.t.keep hu h1 h2⟩
theorem LedAt.c0 {w : World} {lb tb mb : Nat} {M : List (StampK × Int)} (h : LedAt w lb tb mb M) : w.cell? ⟨lb, 0, none⟩ = some (.pointer (some ⟨tb, 0, none⟩)) := by simp [World.cell?, h.blk]
theorem LedAt.lt {w : World} {lb tb mb : Nat} {M : List (StampK × Int)} (h : LedAt w lb tb mb M) : lb < w.heap.size ∧ tb < w.heap.size ∧ mb < w.heap.size := ⟨lt_of_block h.blk, h.t.lt.1, h.t.lt.2⟩
theorem LedAt.ne {w : World} {lb tb mb : Nat} {M : List (StampK × Int)} (h : LedAt w lb tb mb M) : lb ≠ mb := fun e => by
  obtain ⟨es, c, hb, _⟩ := h.t.map
  have := h.blk
  rw [e, hb] at this
  cases this

def MadeL (w : World) (e : Ending) (w' : World) : Prop :=
  ∃ lb tb mb, e = .returned (.pointer (some ⟨lb, 0, none⟩)) ∧ LedAt w' lb tb mb [] ∧ w.heap.size ≤ lb ∧ w.heap.size ≤ tb ∧ w.heap.size ≤ mb ∧ Upd [] w w'
theorem lNew (w : World) : Calls Try.prog 52 #[] w (MadeL w) := by
  go_enter Try.func52, Try.ntmps52
  go_wp2_with (go_at_call 21; refine (newMk (ek := ekM) _ _).mono ?_; rintro e w1 ⟨rfl, ht, hu⟩; have HT := Lib.hid ht; have HU := Lib.hid hu; clear ht hu)
  go_ret
  have hs := HU.out.size
  exact ⟨w1.heap.size, w.heap.size + 1, w.heap.size, rfl, ⟨(heap_alloc w1 _).1, HT.out.keep ((Upd.refl [] w1).alloc _) (by simp) (by simp)⟩, by omega, by omega, by omega, HU.out.alloc _⟩

section
variable {w : World} {lb tb mb : Nat} {M : List (StampK × Int)}
/-- what writing leaves -/
def WroteL (lb tb mb : Nat) (M : List (StampK × Int)) (x : StampK) (n : Int) (w : World) (e : Ending) (w' : World) : Prop :=
  e = .returned (.int .i64 (if okC n && okC (cnt M x + n) then 0 else 12)) ∧ LedAt w' lb tb mb (if okC n && okC (cnt M x + n) then setM M x (cnt M x + n) else M) ∧ Upd [mb] w w'
theorem tally_okcM {κ : Type} [DecidableEq κ] {ek : κ → Value} {kt T : TypeId} {w : World} {tb mb g : Nat} {M : List (κ × Int)} (K : KeyOps Try.prog kt ek) (h : TallyAt T ek w tb mb g M) (x : κ) : okC (cnt M x) = true := by
  by_cases hx : x ∈ M.map (·.1)
  · obtain ⟨p, hp, rfl⟩ := List.mem_map.1 hx
    have : cnt M p.1 = p.2 := by unfold cnt; rw [lk_of_mem (MapRep.nodup K h.map) (v := p.2) hp]; rfl
    rw [this]; exact (h.nz p hp).2
  · unfold cnt; rw [lk_none.2 hx]; rfl
set_option maxRecDepth 20000 in
theorem lWrite (h : LedAt w lb tb mb M) (x : StampK) (n : Int) :
    Calls Try.prog 97 #[.pointer (some ⟨lb, 0, none⟩), ekM x, .int .i64 n] w (WroteL lb tb mb M x n w) := by
  have hu := (Upd.refl [] w).alloc (.cells #[.int .i64 x.n, .int .u64 x.t.a, .int .u64 x.t.b, .int .u64 x.t.c] 52)
  have h' := h.keep hu (by simp) (by simp) (by simp)
  have c0 := h'.c0
  have z0 := cell_new w #[.int .i64 x.n, .int .u64 x.t.a, .int .u64 x.t.b, .int .u64 x.t.c] 52 0 (v := .int .i64 x.n) rfl
  have z1 := cell_new w #[.int .i64 x.n, .int .u64 x.t.a, .int .u64 x.t.b, .int .u64 x.t.c] 52 1 (v := .int .u64 x.t.a) rfl
  have z2 := cell_new w #[.int .i64 x.n, .int .u64 x.t.a, .int .u64 x.t.b, .int .u64 x.t.c] 52 2 (v := .int .u64 x.t.b) rfl
  have z3 := cell_new w #[.int .i64 x.n, .int .u64 x.t.a, .int .u64 x.t.b, .int .u64 x.t.c] 52 3 (v := .int .u64 x.t.c) rfl
  have H := Lib.hid h'
  have HU := Lib.hid hu
  have hadd0 := fun W (hW : TallyMk ekM W tb mb 98 M) => addMk kvStamp tb mb 98 M x n W hW (tally_okcM kvStamp.ops h.t x)
  unfold AddedMk at hadd0
  unfold WroteL
  generalize hr : (if okC n && okC (cnt M x + n) then (0 : Int) else 12) = r at hadd0 ⊢
  generalize hM2 : (if okC n && okC (cnt M x + n) then setM M x (cnt M x + n) else M) = M2 at hadd0 ⊢
  clear hr hM2
  have hadd := Lib.hid hadd0
  have hne := Lib.hid (show lb ∉ [mb] by simpa using h.ne)
  clear h h' hu hadd0
  go_enter Try.func97, Try.ntmps97
  go_upto_region 3 with fail
  generalize w.alloc (.cells #[.int .i64 x.n, .int .u64 x.t.a, .int .u64 x.t.b, .int .u64 x.t.c] 52) = w1 at *
  go_still_tail 7, (by kernel_rfl)
  change wpList _ _ _ _ _ w1.drew
  have H2 := Lib.hid (H.out.keep (Upd.refl [] w1).drew (by simp) (by simp) (by simp))
  go_wp2_with (go_at_call 29; refine (hadd.out _ H2.out.t).mono ?_; rintro e w2 ⟨rfl, ht, hu⟩; have HT := Lib.hid ht; have HV := Lib.hid hu; clear ht hu)
  go_ret
  exact ⟨rfl, ⟨HV.out.at H2.out.blk hne.out, HT.out⟩, (HU.out.drew.mono (by simp)).trans HV.out⟩
theorem lMake (h : LedAt w lb tb mb M) (x : StampK) :
    Calls Try.prog 50 #[.pointer (some ⟨lb, 0, none⟩), ekM x] w (WroteL lb tb mb M x 1 w) := by
  have hu := (Upd.refl [] w).alloc (.cells #[.int .i64 x.n, .int .u64 x.t.a, .int .u64 x.t.b, .int .u64 x.t.c] 52)
  have hw0 := lWrite (h.keep hu (by simp) (by simp) (by simp)) x 1
  unfold WroteL at hw0 ⊢
  generalize hr : (if okC 1 && okC (cnt M x + 1) then (0 : Int) else 12) = r at hw0 ⊢
  generalize hM2 : (if okC 1 && okC (cnt M x + 1) then setM M x (cnt M x + 1) else M) = M2 at hw0 ⊢
  clear hr hM2
  have hw := Lib.hid hw0
  have HU := Lib.hid hu
  clear h hu hw0
  go_enter Try.func50, Try.ntmps50
  go_wp2_with (go_at_call 97; refine hw.out.mono ?_; rintro e w2 ⟨rfl, ht, hu⟩; have HT := Lib.hid ht; have HV := Lib.hid hu; clear ht hu)
  go_ret
  exact ⟨rfl, HT.out, (HU.out.mono (by simp)).trans HV.out⟩
theorem lUse (h : LedAt w lb tb mb M) (x : StampK) :
    Calls Try.prog 49 #[.pointer (some ⟨lb, 0, none⟩), ekM x] w (WroteL lb tb mb M x (-1) w) := by
  have hu := (Upd.refl [] w).alloc (.cells #[.int .i64 x.n, .int .u64 x.t.a, .int .u64 x.t.b, .int .u64 x.t.c] 52)
  have hw0 := lWrite (h.keep hu (by simp) (by simp) (by simp)) x (-1)
  unfold WroteL at hw0 ⊢
  generalize hr : (if okC (-1) && okC (cnt M x + -1) then (0 : Int) else 12) = r at hw0 ⊢
  generalize hM2 : (if okC (-1) && okC (cnt M x + -1) then setM M x (cnt M x + -1) else M) = M2 at hw0 ⊢
  clear hr hM2
  have hw := Lib.hid hw0
  have HU := Lib.hid hu
  clear h hu hw0
  go_enter Try.func49, Try.ntmps49
  go_wp2_with (go_at_call 97; refine hw.out.mono ?_; rintro e w2 ⟨rfl, ht, hu⟩; have HT := Lib.hid ht; have HV := Lib.hid hu; clear ht hu)
  go_ret
  exact ⟨rfl, HT.out, (HU.out.mono (by simp)).trans HV.out⟩
theorem lLen (h : LedAt w lb tb mb M) :
    Calls Try.prog 51 #[.pointer (some ⟨lb, 0, none⟩)] w fun e w' => e = .returned (.int .i64 M.length) ∧ w = w' := by
  have c0 := h.c0
  have H := Lib.hid h
  clear h
  go_enter Try.func51, Try.ntmps51
  go_wp2_with (go_at_call 31; refine (lenMk tb mb _ M _ H.out.t).mono ?_; rintro e w2 ⟨rfl, rfl⟩)
  go_ret
  exact ⟨rfl, rfl⟩
theorem lClear (h : LedAt w lb tb mb M) :
    Calls Try.prog 54 #[.pointer (some ⟨lb, 0, none⟩)] w fun e w' => e = .returned (.tuple #[]) ∧ LedAt w' lb tb mb [] ∧ Upd [mb] w w' := by
  have c0 := h.c0
  have H := Lib.hid h
  clear h
  go_enter Try.func54, Try.ntmps54
  go_wp2_with (go_at_call 100; refine (clearMk tb mb _ M _ H.out.t).mono ?_; rintro e w2 ⟨rfl, ht, hu⟩; have HT := Lib.hid ht; have HV := Lib.hid hu; clear ht hu)
  go_end0
  exact ⟨rfl, ⟨HV.out.at H.out.blk (by simpa using H.out.ne), HT.out⟩, HV.out⟩
/-- what Keys leaves -/
def KeysL (M : List (StampK × Int)) (w : World) (e : Ending) (w' : World) : Prop :=
  ∃ a c l, e = .returned (.slice a l.length c) ∧ OwnAt 52 4 eeM w' a c l ∧ l.Perm (M.map (·.1)) ∧ l.Pairwise (fun x y => 0 ≤ cmpM y x) ∧ (∀ b ∈ ablk a, w.heap.size ≤ b) ∧ Upd [] w w'
theorem sKeys (h : LedAt w lb tb mb M) (hl : M.length ≤ 1000000) :
    Calls Try.prog 95 #[.pointer (some ⟨lb, 0, none⟩)] w (KeysL M w) := by
  have c0 := h.c0
  have H := Lib.hid h
  clear h
  go_enter Try.func95, Try.ntmps95
  go_wp2_with (go_at_call 32; refine (keysMk kvStamp elemM (fun _ => rfl) tb mb _ M cmpM ordStamp _ H.out.t (by omega)).mono ?_; rintro e w2 ⟨a, c, l, rfl, h2⟩; have H2 := Lib.hid h2; clear h2)
  go_ret
  exact ⟨a, c, l, rfl, H2.out⟩
theorem lKeys (h : LedAt w lb tb mb M) (hl : M.length ≤ 1000000) :
    Calls Try.prog 47 #[.pointer (some ⟨lb, 0, none⟩)] w (KeysL M w) := by
  have c0 := h.c0
  have hk := Lib.hid (sKeys h hl)
  clear h
  go_enter Try.func47, Try.ntmps47
  go_wp2_with (go_at_call 95; refine hk.out.mono ?_; rintro e w2 ⟨a, c, l, rfl, h2⟩; have H2 := Lib.hid h2; clear h2)
  go_ret
  exact ⟨a, c, l, rfl, H2.out⟩

set_option maxRecDepth 20000 in
theorem sGet (h : LedAt w lb tb mb M) (x : StampK) :
    Calls Try.prog 96 #[.pointer (some ⟨lb, 0, none⟩), ekM x] w fun e w' => e = .returned (.int .i64 (cnt M x)) ∧ Upd [] w w' := by
  have hu := (Upd.refl [] w).alloc (.cells #[.int .i64 x.n, .int .u64 x.t.a, .int .u64 x.t.b, .int .u64 x.t.c] 52)
  have h' := h.keep hu (by simp) (by simp) (by simp)
  have c0 := h'.c0
  have z0 := cell_new w #[.int .i64 x.n, .int .u64 x.t.a, .int .u64 x.t.b, .int .u64 x.t.c] 52 0 (v := .int .i64 x.n) rfl
  have z1 := cell_new w #[.int .i64 x.n, .int .u64 x.t.a, .int .u64 x.t.b, .int .u64 x.t.c] 52 1 (v := .int .u64 x.t.a) rfl
  have z2 := cell_new w #[.int .i64 x.n, .int .u64 x.t.a, .int .u64 x.t.b, .int .u64 x.t.c] 52 2 (v := .int .u64 x.t.b) rfl
  have z3 := cell_new w #[.int .i64 x.n, .int .u64 x.t.a, .int .u64 x.t.b, .int .u64 x.t.c] 52 3 (v := .int .u64 x.t.c) rfl
  have H := Lib.hid h'
  have HU := Lib.hid hu
  have hget := Lib.hid (fun W (hW : TallyMk ekM W tb mb 98 M) => getMk kvStamp tb mb 98 M x W hW)
  generalize cnt M x = cx at hget ⊢
  clear h h' hu
  go_enter Try.func96, Try.ntmps96
  go_upto_region 1 with fail
  generalize w.alloc (.cells #[.int .i64 x.n, .int .u64 x.t.a, .int .u64 x.t.b, .int .u64 x.t.c] 52) = w1 at *
  go_still_tail 5, (by kernel_rfl)
  change wpList _ _ _ _ _ w1.drew
  have H2 := Lib.hid (H.out.keep (Upd.refl [] w1).drew (by simp) (by simp) (by simp))
  go_wp2_with (go_at_call 30; refine (hget.out _ H2.out.t).mono ?_; rintro e w2 ⟨rfl, hu⟩; have HV := Lib.hid hu; clear hu)
  go_ret
  exact ⟨rfl, HU.out.drew.trans HV.out⟩
set_option maxRecDepth 20000 in
theorem lGet (h : LedAt w lb tb mb M) (x : StampK) :
    Calls Try.prog 48 #[.pointer (some ⟨lb, 0, none⟩), ekM x] w fun e w' => e = .returned (.int .i64 (cnt M x)) ∧ Upd [] w w' := by
  have hu := (Upd.refl [] w).alloc (.cells #[.int .i64 x.n, .int .u64 x.t.a, .int .u64 x.t.b, .int .u64 x.t.c] 52)
  have h' := h.keep hu (by simp) (by simp) (by simp)
  have c0 := h'.c0
  have z0 := cell_new w #[.int .i64 x.n, .int .u64 x.t.a, .int .u64 x.t.b, .int .u64 x.t.c] 52 0 (v := .int .i64 x.n) rfl
  have z1 := cell_new w #[.int .i64 x.n, .int .u64 x.t.a, .int .u64 x.t.b, .int .u64 x.t.c] 52 1 (v := .int .u64 x.t.a) rfl
  have z2 := cell_new w #[.int .i64 x.n, .int .u64 x.t.a, .int .u64 x.t.b, .int .u64 x.t.c] 52 2 (v := .int .u64 x.t.b) rfl
  have z3 := cell_new w #[.int .i64 x.n, .int .u64 x.t.a, .int .u64 x.t.b, .int .u64 x.t.c] 52 3 (v := .int .u64 x.t.c) rfl
  have H := Lib.hid h'
  have HU := Lib.hid hu
  have hget := Lib.hid (fun W (hW : LedAt W lb tb mb M) => sGet hW x)
  generalize cnt M x = cx at hget ⊢
  clear h h' hu
  go_enter Try.func48, Try.ntmps48
  go_upto_region 3 with fail
  generalize w.alloc (.cells #[.int .i64 x.n, .int .u64 x.t.a, .int .u64 x.t.b, .int .u64 x.t.c] 52) = w1 at *
  go_still_tail 4, (by kernel_rfl)
  change wpList _ _ _ _ _ w1.drew
  have H2 := Lib.hid (H.out.keep (Upd.refl [] w1).drew (by simp) (by simp) (by simp))
  go_wp2_with (go_at_call 96; refine (hget.out _ H2.out).mono ?_; rintro e w2 ⟨rfl, hu⟩; have HV := Lib.hid hu; clear hu)
  go_ret
  exact ⟨rfl, HU.out.drew.trans HV.out⟩
/-- 'Copy' -/
def CopiedL (M : List (StampK × Int)) (w : World) (e : Ending) (w' : World) : Prop :=
  ∃ lb tb mb, e = .returned (.pointer (some ⟨lb, 0, none⟩)) ∧ LedAt w' lb tb mb M ∧ w.heap.size ≤ lb ∧ w.heap.size ≤ tb ∧ w.heap.size ≤ mb ∧ Upd [] w w'
theorem lCopy (h : LedAt w lb tb mb M) :
    Calls Try.prog 55 #[.pointer (some ⟨lb, 0, none⟩)] w (CopiedL M w) := by
  have c0 := h.c0
  have H := Lib.hid h
  clear h
  go_enter Try.func55, Try.ntmps55
  go_wp2_with (go_at_call 101; refine (copyMk tb mb _ M _ H.out.t).mono ?_; rintro e w1 ⟨t2, m2, rfl, ht, hu, h1, h2⟩; have HT := Lib.hid ht; have HU := Lib.hid hu; have HB := Lib.hid (And.intro h1 h2); clear ht hu h1 h2)
  go_ret
  have hs := HU.out.size
  exact ⟨w1.heap.size, t2, m2, rfl, ⟨(heap_alloc w1 _).1, HT.out.keep ((Upd.refl [] w1).alloc _) (by simp) (by simp)⟩, hs, HB.out.1, HB.out.2, HU.out.alloc _⟩
end
end Go.Proofs.Ytcdmdpgfadopcaa
