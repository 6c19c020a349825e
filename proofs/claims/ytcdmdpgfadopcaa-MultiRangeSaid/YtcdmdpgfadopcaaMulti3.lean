/-
  multi: New, Count, Len, Times, Front, Open.
-/
import Derived.Test.YtcdmdpgfadopcaaMulti2
import Derived.Test.YtcdmdpgfadopcaaLawTally12
namespace Go.Proofs.Ytcdmdpgfadopcaa
open Go.Slu Go.MapKept Go.RowKit Go.Sort

/-- the times of a tally, in order -/
structure KeyT (M : List (TimeK × Int)) (K : List TimeK) : Prop where
  perm : K.Perm (M.map (·.1))
  ord : K.Pairwise fun x y => 0 ≤ cmpT y x
theorem keyT_ex (M : List (TimeK × Int)) : ∃ K, KeyT M K := ⟨_, List.mergeSort_perm _ _, mergeSort_sorted cmpT_swo cmpT_tot _⟩
theorem KeyT.len {M : List (TimeK × Int)} {K : List TimeK} (h : KeyT M K) : K.length = M.length := by simpa using h.perm.length_eq
theorem KeyT.uniq {M : List (TimeK × Int)} (hn : (M.map (·.1)).Nodup) {K l : List TimeK} (hK : KeyT M K) (h2 : l.Perm (M.map (·.1))) (h3 : l.Pairwise fun x y => 0 ≤ cmpT y x) : l = K :=
  order_ext cmpT_swo cmpT_tot h3 hK.ord (h2.nodup_iff.2 hn) (hK.perm.nodup_iff.2 hn) (fun x => by rw [h2.mem_iff, hK.perm.mem_iff])

/-- BLOCK u IS A Multi over the tally tb (map mb, counts M) and the chain cb (list l at (a, c)). -/
structure MulAt (w : World) (u tb mb cb : Nat) (M : List (TimeK × Int)) (a : Option Addr) (c : Nat) (l : List TimeK) : Prop where
  blk : w.heap[u]? = some (.cells #[.pointer (some ⟨tb, 0, none⟩), .pointer (some ⟨cb, 0, none⟩)] 171 (0, 0))
  t : TallyTk ekT w tb mb 105 M
  ch : ChainAt w cb a c l
section
variable {w w' : World} {u tb mb cb : Nat} {M : List (TimeK × Int)} {a : Option Addr} {c : Nat} {l : List TimeK}
theorem MulAt.c0 (h : MulAt w u tb mb cb M a c l) : w.cell? ⟨u, 0, none⟩ = some (.pointer (some ⟨tb, 0, none⟩)) := by simp [World.cell?, h.blk]
theorem MulAt.c1 (h : MulAt w u tb mb cb M a c l) : w.cell? ⟨u, 1, none⟩ = some (.pointer (some ⟨cb, 0, none⟩)) := by simp [World.cell?, h.blk]
theorem MulAt.keep {X : List Nat} (h : MulAt w u tb mb cb M a c l) (hu : Upd X w w') (h1 : ∀ b ∈ u :: tb :: mb :: cb :: ablk a, b ∉ X) : MulAt w' u tb mb cb M a c l :=
  ⟨hu.at h.blk (h1 _ (by simp)), h.t.keep hu (h1 _ (by simp)) (h1 _ (by simp)), h.ch.keep hu (h1 _ (by simp)) (fun b hb => h1 _ (by simp [hb]))⟩
theorem MulAt.keep0 (h : MulAt w u tb mb cb M a c l) (hu : Upd [] w w') : MulAt w' u tb mb cb M a c l := h.keep hu (by simp)
theorem MulAt.lt (h : MulAt w u tb mb cb M a c l) : ∀ b ∈ u :: tb :: mb :: cb :: ablk a, b < w.heap.size := fun b hb => by
  simp only [List.mem_cons] at hb
  rcases hb with rfl | rfl | rfl | rfl | hb
  · exact lt_of_block h.blk
  · exact h.t.lt.1
  · exact h.t.lt.2
  · exact lt_of_block h.ch.blk
  · exact h.ch.own.lt b hb
def rMul (u tb mb cb : Nat) (M : List (TimeK × Int)) (a : Option Addr) (c : Nat) (l : List TimeK) : Res :=
  ⟨u :: tb :: mb :: cb :: ablk a, fun w => MulAt w u tb mb cb M a c l, fun h hu hx => h.keep hu hx, fun h => h.lt⟩

/-- behind 'New' -/
def MadeM (w : World) (e : Ending) (w' : World) : Prop :=
  ∃ u tb mb cb, e = .returned (.pointer (some ⟨u, 0, none⟩)) ∧ MulAt w' u tb mb cb [] none 0 [] ∧ (∀ b ∈ [u, tb, mb, cb], w.heap.size ≤ b) ∧ Upd [] w w'
theorem newM (w : World) : Calls Try.prog 59 #[] w (MadeM w) := by
  go_enter Try.func59, Try.ntmps59
  go_wp2_with (first
    | (go_at_call 104; refine (newTk (ek := ekT) _ _).mono ?_; rintro e w1 ⟨rfl, ht, hu⟩; have HT := Lib.hid ht; have HU := Lib.hid hu; clear ht hu)
    | (go_at_call 106; refine (newC _).mono ?_; rintro e w2 ⟨rfl, hc, hu⟩; have HC := Lib.hid hc; have HU2 := Lib.hid hu; clear hc hu))
  go_ret
  have s1 := HU.out.size
  have s2 := HU2.out.size
  refine ⟨w2.heap.size, w.heap.size + 1, w.heap.size, w1.heap.size, rfl, ⟨(heap_alloc w2 _).1, (HT.out.keep HU2.out (by simp) (by simp)).keep ((Upd.refl [] w2).alloc _) (by simp) (by simp), HC.out.keep ((Upd.refl [] w2).alloc _) (by simp) (by simp)⟩, fun b hb => ?_, (HU.out.trans HU2.out).alloc _⟩
  simp at hb
  omega
/-- 'count' -/
theorem countC (h : TallyTk ekT w tb mb 105 M) (x : TimeK) : Calls Try.prog 113 #[.agg #[.pointer (some ⟨tb, 0, none⟩)], ekT x] w fun e w' => e = .returned (.int .i64 (cnt M x)) ∧ Upd [] w w' := by
  have hu := ((Upd.refl [] w).alloc (.cells #[.pointer (some ⟨tb, 0, none⟩)] 167)).alloc (.cells #[.int .u64 x.a, .int .u64 x.b, .int .u64 x.c] 50)
  have hs : (w.alloc (.cells #[.pointer (some ⟨tb, 0, none⟩)] 167)).heap.size = w.heap.size + 1 := by simp
  have e1 := ((Upd.refl [] (w.alloc (.cells #[.pointer (some ⟨tb, 0, none⟩)] 167))).alloc (.cells #[.int .u64 x.a, .int .u64 x.b, .int .u64 x.c] 50)).cellS (cell_new w #[.pointer (some ⟨tb, 0, none⟩)] 167 0 (v := .pointer (some ⟨tb, 0, none⟩)) rfl) (by simp)
  have x0 := cell_new (w.alloc (.cells #[.pointer (some ⟨tb, 0, none⟩)] 167)) #[.int .u64 x.a, .int .u64 x.b, .int .u64 x.c] 50 0 (v := .int .u64 x.a) rfl
  have x1 := cell_new (w.alloc (.cells #[.pointer (some ⟨tb, 0, none⟩)] 167)) #[.int .u64 x.a, .int .u64 x.b, .int .u64 x.c] 50 1 (v := .int .u64 x.b) rfl
  have x2 := cell_new (w.alloc (.cells #[.pointer (some ⟨tb, 0, none⟩)] 167)) #[.int .u64 x.a, .int .u64 x.b, .int .u64 x.c] 50 2 (v := .int .u64 x.c) rfl
  rw [hs] at x0 x1 x2
  have hg := Lib.hid (getTk kvTime tb mb _ M x _ (h.keep hu (by simp) (by simp)))
  have HU := Lib.hid hu
  generalize cnt M x = cx at hg ⊢
  clear hs h hu
  go_enter Try.func113, Try.ntmps113
  go_upto_region 1 with fail
  generalize (w.alloc (.cells #[.pointer (some ⟨tb, 0, none⟩)] 167)).alloc (.cells #[.int .u64 x.a, .int .u64 x.b, .int .u64 x.c] 50) = w2 at *
  go_wp2_with (go_at_call 138; refine hg.out.mono ?_; rintro e w3 ⟨rfl, hu⟩; have HU2 := Lib.hid hu; clear hu)
  go_ret
  exact ⟨rfl, HU.out.trans HU2.out⟩
theorem timesC (h : TallyTk ekT w tb mb 105 M) {K : List TimeK} (hK : KeyT M K) (hl : M.length ≤ 1000000) : Calls Try.prog 117 #[.agg #[.pointer (some ⟨tb, 0, none⟩)]] w (ToldT K w) := by
  have hu := (Upd.refl [] w).alloc (.cells #[.pointer (some ⟨tb, 0, none⟩)] 167)
  have e1 := cell_new w #[.pointer (some ⟨tb, 0, none⟩)] 167 0 (v := .pointer (some ⟨tb, 0, none⟩)) rfl
  have hk := Lib.hid (keysTk kvTime elemTi (fun _ => rfl) tb mb _ M cmpT ordTime _ (h.keep hu (by simp) (by simp)) (by omega))
  have HK := Lib.hid (fun l h2 h3 => hK.uniq (MapRep.nodup kvTime.ops h.map) (l := l) h2 h3)
  have HU := Lib.hid hu
  clear h hu hK
  go_enter Try.func117, Try.ntmps117
  go_upto_region 1 with fail
  generalize w.alloc (.cells #[.pointer (some ⟨tb, 0, none⟩)] 167) = w2 at *
  go_wp2_with (go_at_call 141; refine hk.out.mono ?_; rintro e w3 ⟨a, c, l, rfl, h1, h2, h3, h4, h5⟩; obtain rfl := HK.out l h2 h3; have H1 := Lib.hid h1; have H4 := Lib.hid h4; have H5 := Lib.hid h5; clear h1 h2 h3 h4 h5)
  go_ret
  have s1 := HU.out.size
  exact ⟨a, c, rfl, H1.out, fun b hb => by have := H4.out b hb; omega, HU.out.trans H5.out⟩
theorem sizeC (h : TallyTk ekT w tb mb 105 M) : Calls Try.prog 120 #[.agg #[.pointer (some ⟨tb, 0, none⟩)]] w fun e w' => e = .returned (.int .i64 M.length) ∧ Upd [] w w' := by
  have hu := (Upd.refl [] w).alloc (.cells #[.pointer (some ⟨tb, 0, none⟩)] 167)
  have e1 := cell_new w #[.pointer (some ⟨tb, 0, none⟩)] 167 0 (v := .pointer (some ⟨tb, 0, none⟩)) rfl
  have hk := Lib.hid (lenTk tb mb _ M _ (h.keep hu (by simp) (by simp)))
  have HU := Lib.hid hu
  clear h hu
  go_enter Try.func120, Try.ntmps120
  go_upto_region 1 with fail
  generalize w.alloc (.cells #[.pointer (some ⟨tb, 0, none⟩)] 167) = w2 at *
  go_wp2_with (go_at_call 148; refine hk.out.mono ?_; rintro e w3 ⟨rfl, rfl⟩)
  go_ret
  exact ⟨rfl, HU.out⟩
set_option maxRecDepth 20000 in
/-- 'Count' -/
theorem countM (h : MulAt w u tb mb cb M a c l) (x : TimeK) : Calls Try.prog 70 #[.pointer (some ⟨u, 0, none⟩), ekT x] w fun e w' => e = .returned (.int .i64 (cnt M x)) ∧ Upd [] w w' := by
  have hu := (Upd.refl [] w).alloc (.cells #[.int .u64 x.a, .int .u64 x.b, .int .u64 x.c] 50)
  have x0 := cell_new w #[.int .u64 x.a, .int .u64 x.b, .int .u64 x.c] 50 0 (v := .int .u64 x.a) rfl
  have x1 := cell_new w #[.int .u64 x.a, .int .u64 x.b, .int .u64 x.c] 50 1 (v := .int .u64 x.b) rfl
  have x2 := cell_new w #[.int .u64 x.a, .int .u64 x.b, .int .u64 x.c] 50 2 (v := .int .u64 x.c) rfl
  have h2 := h.keep0 hu
  have c0 := h2.c0
  have hg := Lib.hid (fun W (hW : Upd [] (w.alloc (.cells #[.int .u64 x.a, .int .u64 x.b, .int .u64 x.c] 50)) W) => countC (h2.t.keep hW (by simp) (by simp)) x)
  have HU := Lib.hid hu
  generalize cnt M x = cx at hg ⊢
  clear h h2 hu
  go_enter Try.func70, Try.ntmps70
  go_upto_region 3 with fail
  generalize w.alloc (.cells #[.int .u64 x.a, .int .u64 x.b, .int .u64 x.c] 50) = w2 at *
  go_region_held3 (fun w' => w'.cell? ⟨u, 0, none⟩ = some (.pointer (some ⟨tb, 0, none⟩)) ∧ w'.cell? ⟨w.heap.size, 0, none⟩ = some (.int .u64 x.a) ∧ w'.cell? ⟨w.heap.size, 1, none⟩ = some (.int .u64 x.b) ∧ w'.cell? ⟨w.heap.size, 2, none⟩ = some (.int .u64 x.c)) (go_keep)
    ((go_at_call 113; refine (hg.out _ (Upd.refl [] w2).drew).mono ?_; rintro e w3 ⟨rfl, hu⟩; have hk := fun (pp : Addr) v (h : w2.cell? pp = some v) => hu.cellS (show w2.drew.cell? pp = some v from h) (by simp); have k0 := hk _ _ c0; have k5 := hk _ _ x0; have k6 := hk _ _ x1; have k7 := hk _ _ x2; have HU2 := Lib.hid (HU.out.trans ((Upd.refl [] w2).drew.trans hu)); clear hu hk))
  go_wp2_with fail
  go_ret
  exact ⟨rfl, HU2.out⟩
/-- 'Len' -/
theorem lenM (h : MulAt w u tb mb cb M a c l) : Calls Try.prog 69 #[.pointer (some ⟨u, 0, none⟩)] w fun e w' => e = .returned (.int .i64 M.length) ∧ Upd [] w w' := by
  have c0 := h.c0
  have hg := Lib.hid (sizeC h.t)
  clear h
  go_enter Try.func69, Try.ntmps69
  go_wp2_with (go_at_call 120; refine hg.out.mono ?_; rintro e w3 ⟨rfl, hu⟩; have HU := Lib.hid hu; clear hu)
  go_ret
  exact ⟨rfl, HU.out⟩
/-- 'Times' -/
theorem timesM (h : MulAt w u tb mb cb M a c l) {K : List TimeK} (hK : KeyT M K) (hl : M.length ≤ 1000000) : Calls Try.prog 68 #[.pointer (some ⟨u, 0, none⟩)] w (ToldT K w) := by
  have c0 := h.c0
  have hg := Lib.hid (timesC h.t hK hl)
  clear h
  go_enter Try.func68, Try.ntmps68
  go_wp2_with (go_at_call 117; refine hg.out.mono ?_; rintro e w3 ⟨a2, c2, rfl, h2⟩; have H2 := Lib.hid h2; clear h2)
  go_ret
  exact ⟨a2, c2, rfl, H2.out⟩
/-- 'Front' -/
theorem frontM (h : MulAt w u tb mb cb M a c l) (hl : l.length ≤ 1000000000) : Calls Try.prog 67 #[.pointer (some ⟨u, 0, none⟩)] w (ToldT l w) := by
  have c1 := h.c1
  have hg := Lib.hid (listC h.ch hl)
  clear h
  go_enter Try.func67, Try.ntmps67
  go_wp2_with (go_at_call 115; refine hg.out.mono ?_; rintro e w3 ⟨a2, c2, rfl, h2⟩; have H2 := Lib.hid h2; clear h2)
  go_ret
  exact ⟨a2, c2, rfl, H2.out⟩
set_option maxRecDepth 20000 in
/-- 'Open' -/
theorem openM (h : MulAt w u tb mb cb M a c l) (hl : l.length ≤ 1000000000) (x : TimeK) : Calls Try.prog 72 #[.pointer (some ⟨u, 0, none⟩), ekT x] w fun e w' => e = .returned (.bool (l.any fun y => aheadT y x)) ∧ Upd [] w w' := by
  have hu := (Upd.refl [] w).alloc (.cells #[.int .u64 x.a, .int .u64 x.b, .int .u64 x.c] 50)
  have x0 := cell_new w #[.int .u64 x.a, .int .u64 x.b, .int .u64 x.c] 50 0 (v := .int .u64 x.a) rfl
  have x1 := cell_new w #[.int .u64 x.a, .int .u64 x.b, .int .u64 x.c] 50 1 (v := .int .u64 x.b) rfl
  have x2 := cell_new w #[.int .u64 x.a, .int .u64 x.b, .int .u64 x.c] 50 2 (v := .int .u64 x.c) rfl
  have h2 := h.keep0 hu
  have c1 := h2.c1
  have hg := Lib.hid (fun W (hW : Upd [] (w.alloc (.cells #[.int .u64 x.a, .int .u64 x.b, .int .u64 x.c] 50)) W) => coversC (h2.ch.keep hW (by simp) (by simp)) hl x)
  have HU := Lib.hid hu
  generalize (l.any fun y => aheadT y x) = r at hg ⊢
  clear h h2 hu
  go_enter Try.func72, Try.ntmps72
  go_upto_region 1 with fail
  generalize w.alloc (.cells #[.int .u64 x.a, .int .u64 x.b, .int .u64 x.c] 50) = w2 at *
  go_region_held3 (fun w' => w'.cell? ⟨u, 1, none⟩ = some (.pointer (some ⟨cb, 0, none⟩)) ∧ w'.cell? ⟨w.heap.size, 0, none⟩ = some (.int .u64 x.a) ∧ w'.cell? ⟨w.heap.size, 1, none⟩ = some (.int .u64 x.b) ∧ w'.cell? ⟨w.heap.size, 2, none⟩ = some (.int .u64 x.c)) (go_keep)
    ((go_at_call 121; refine (hg.out _ (Upd.refl [] w2).drew).mono ?_; rintro e w3 ⟨rfl, hu⟩; have hk := fun (pp : Addr) v (h : w2.cell? pp = some v) => hu.cellS (show w2.drew.cell? pp = some v from h) (by simp); have k0 := hk _ _ c1; have k5 := hk _ _ x0; have k6 := hk _ _ x1; have k7 := hk _ _ x2; have HU2 := Lib.hid (HU.out.trans ((Upd.refl [] w2).drew.trans hu)); clear hu hk))
  go_wp2_with fail
  go_ret
  exact ⟨rfl, HU2.out⟩
end
end Go.Proofs.Ytcdmdpgfadopcaa
