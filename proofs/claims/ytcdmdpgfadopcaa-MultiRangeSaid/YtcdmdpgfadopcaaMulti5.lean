/-
  multi: Contains, beyond, turned.
-/
import Derived.Test.YtcdmdpgfadopcaaMulti4
import Derived.Test.YtcdmdpgfadopcaaSortIdx
import Derived.Deep.RegionHeldLaw
namespace Go.Proofs.Ytcdmdpgfadopcaa
open Go.Slu Go.MapKept Go.RowKit Go.Sort

theorem time_cases {x y : TimeK} (h : x ≠ y) : x.a ≠ y.a ∨ (x.a = y.a ∧ x.b ≠ y.b) ∨ (x.a = y.a ∧ x.b = y.b ∧ x.c ≠ y.c) := by
  by_cases h1 : x.a = y.a
  · by_cases h2 : x.b = y.b
    · exact .inr (.inr ⟨h1, h2, fun h3 => h (TimeK.ext' h1 h2 h3)⟩)
    · exact .inr (.inl ⟨h1, h2⟩)
  · exact .inl h1
set_option maxRecDepth 20000 in
set_option maxHeartbeats 1000000 in
/-- slices.Index over times -/
theorem indexT {w : World} {a : Option Addr} {c : Nat} {xs : List TimeK} (hl : xs.length ≤ 1099511627776) (hrd : Rd 3 eeT w a xs) (x : TimeK) :
    Calls Try.prog 176 #[.slice a xs.length c, ekT x] w fun e w' => e = .returned (.int .i64 (ixF (fun y => decide (x = y)) xs)) ∧ Upd [] w w' := by
  have hu := (Upd.refl [] w).alloc (.cells #[.int .u64 x.a, .int .u64 x.b, .int .u64 x.c] 50)
  have x0 := cell_new w #[.int .u64 x.a, .int .u64 x.b, .int .u64 x.c] 50 0 (v := .int .u64 x.a) rfl
  have x1 := cell_new w #[.int .u64 x.a, .int .u64 x.b, .int .u64 x.c] 50 1 (v := .int .u64 x.b) rfl
  have x2 := cell_new w #[.int .u64 x.a, .int .u64 x.b, .int .u64 x.c] 50 2 (v := .int .u64 x.c) rfl
  have HRD := Lib.hid (hrd.keep' elemTi hu (by simp))
  have HU := Lib.hid hu
  have HX := Lib.hid (And.intro x0 (And.intro x1 x2))
  clear hrd hu
  go_enter Try.func176, Try.ntmps176
  go_upto_region 1 with fail
  generalize w.alloc (.cells #[.int .u64 x.a, .int .u64 x.b, .int .u64 x.c] 50) = w1 at *
  generalize w.heap.size = bx at *
  clear x0 x1 x2
  go_wp2_with fail
  go_loopg [5, 8] xs.length (fun m v5 v8 wz => ∃ i : Nat, m + i = xs.length ∧ v8 = .int .i64 i ∧ (∀ (j : Nat) (y : TimeK), j < i → xs[j]? = some y → decide (x = y) = false) ∧ Upd [] w1 wz)
  case atStart => exact ⟨0, rfl, rfl, by omega, Upd.refl _ _⟩
  case round =>
    obtain ⟨i, hm, rfl, hno, hu⟩ := hrel
    have HM := Lib.hid hm
    have HN := Lib.hid hno
    have HV := Lib.hid hu
    clear hm hno hu
    by_cases hi : i < xs.length
    · have hii : (i : Int) < xs.length := by omega
      obtain ⟨y, hy⟩ : ∃ y, xs[i]? = some y := ⟨xs[i], List.getElem?_eq_getElem hi⟩
      obtain ⟨b, off, rfl, hc⟩ := HRD.out i y hy
      have y0 := HV.out.cellS (hc 0 _ rfl) (by simp)
      have y1 := HV.out.cellS (hc 1 _ rfl) (by simp)
      have y2 := HV.out.cellS (hc 2 _ rfl) (by simp)
      simp only [Nat.add_zero] at y0
      have x0 := HV.out.cellS HX.out.1 (by simp)
      have x1 := HV.out.cellS HX.out.2.1 (by simp)
      have x2 := HV.out.cellS HX.out.2.2 (by simp)
      have HY := Lib.hid hy
      clear hc hy
      by_cases hq : x = y
      · subst hq
        go_wp2_with fail
        go_quiet (fail)
        go_wp2_with fail
        go_ret
        exact ⟨by rw [ixF_hit HY.out (by simp) HN.out]; rfl, HU.out.trans (HV.out.drewN _)⟩
      · have HQ := Lib.hid hq
        have hcs := time_cases hq
        clear hq
        obtain ⟨xa, xb, xc, hx1, hx2, hx3⟩ := x
        obtain ⟨ya, yb, yc, hy1, hy2, hy3⟩ := y
        simp only at x0 x1 x2 y0 y1 y2 hcs
        rcases hcs with h | ⟨rfl, h⟩ | ⟨rfl, rfl, h⟩
        all_goals
          go_wp2_with fail
          go_quiet (fail)
          go_wp2_with fail
          go_roundg (xs.length - (i + 1))
          case measure => have := HM.out; omega
          case rel => exact ⟨i + 1, by have := HM.out; omega, rfl, fun j z hj hz => by
            rcases Nat.lt_or_ge j i with h' | h'
            · exact HN.out j z h' hz
            · obtain rfl : j = i := by omega
              rw [HY.out] at hz; cases hz; exact decide_eq_false HQ.out, HV.out.drewN _⟩
    · have hii : ¬ (i : Int) < xs.length := by omega
      obtain rfl : i = xs.length := by have := HM.out; omega
      go_wp2_with fail
      go_ret
      exact ⟨by rw [ixF_miss (fun j y hy => HN.out j y (List.getElem?_eq_some_iff.1 hy).1 hy)]; rfl, HU.out.trans HV.out⟩
theorem any_mem (x : TimeK) (xs : List TimeK) : (xs.any fun y => decide (x = y)) = decide (x ∈ xs) := by
  rw [Bool.eq_iff_iff]
  simp
set_option maxRecDepth 20000 in
/-- slices.Contains over times -/
theorem containsT {w : World} {a : Option Addr} {c : Nat} {xs : List TimeK} (hl : xs.length ≤ 1099511627776) (hrd : Rd 3 eeT w a xs) (x : TimeK) :
    Calls Try.prog 145 #[.slice a xs.length c, ekT x] w fun e w' => e = .returned (.bool (decide (x ∈ xs))) ∧ Upd [] w w' := by
  have hu := (Upd.refl [] w).alloc (.cells #[.int .u64 x.a, .int .u64 x.b, .int .u64 x.c] 50)
  have x0 := cell_new w #[.int .u64 x.a, .int .u64 x.b, .int .u64 x.c] 50 0 (v := .int .u64 x.a) rfl
  have x1 := cell_new w #[.int .u64 x.a, .int .u64 x.b, .int .u64 x.c] 50 1 (v := .int .u64 x.b) rfl
  have x2 := cell_new w #[.int .u64 x.a, .int .u64 x.b, .int .u64 x.c] 50 2 (v := .int .u64 x.c) rfl
  have hi := Lib.hid (indexT (c := c) hl (hrd.keep' elemTi hu (by simp)) x)
  have HU := Lib.hid hu
  rw [← any_mem, ← ixF_any xs]
  generalize ixF (fun y => decide (x = y)) xs = r at hi ⊢
  clear hrd hu
  go_enter Try.func145, Try.ntmps145
  go_upto_region 1 with fail
  generalize w.alloc (.cells #[.int .u64 x.a, .int .u64 x.b, .int .u64 x.c] 50) = w1 at *
  go_wp2_with (go_at_call 176; refine hi.out.mono ?_; rintro e w2 ⟨rfl, hu⟩; have HU2 := Lib.hid hu; clear hu)
  go_ret
  exact ⟨rfl, HU.out.trans HU2.out⟩
/-- 'beyond' -/
theorem beyondM_any (n : Int) (w : World) : Calls Try.prog 112 #[.int .i64 n] w fun e w' => e = .returned (.bool (!okC n)) ∧ w = w' := by
  by_cases h1 : n < -2147483647
  · have hk : okC n = false := by unfold okC; exact decide_eq_false (by omega)
    rw [hk]
    go_enter Try.func112, Try.ntmps112
    go_wp2_with fail
    go_ret
    exact ⟨rfl, rfl⟩
  · by_cases h2 : 2147483647 < n
    · have hk : okC n = false := by unfold okC; exact decide_eq_false (by omega)
      rw [hk]
      go_enter Try.func112, Try.ntmps112
      go_wp2_with fail
      go_ret
      exact ⟨rfl, rfl⟩
    · have hk : okC n = true := by unfold okC; exact decide_eq_true (by omega)
      rw [hk]
      go_enter Try.func112, Try.ntmps112
      go_wp2_with fail
      go_ret
      exact ⟨rfl, rfl⟩

/-- a delta -/
abbrev eeD (p : TimeK × Int) : List Value := [.int .u64 p.1.a, .int .u64 p.1.b, .int .u64 p.1.c, .int .i64 p.2]
abbrev ekD (p : TimeK × Int) : Value := .agg #[.int .u64 p.1.a, .int .u64 p.1.b, .int .u64 p.1.c, .int .i64 p.2]
theorem infoD : (Try.prog.info? 117).map (fun i => (i.zero, i.size, i.bytes)) = some (some (.agg #[.int .u64 0, .int .u64 0, .int .u64 0, .int .i64 0]), 4, 32) := by kernel_rfl
theorem elemD : Elem Try.prog 112 117 4 32 eeD where
  ht := Try.underlying112
  info := by obtain ⟨i, h1, h2, h3, h4⟩ := info_parts infoD; exact ⟨i, _, h1, h2, h3, h4, rfl⟩
  pos := by omega
  len _ := rfl
  one _ u hu := by simp [eeD] at hu; rcases hu with rfl | rfl | rfl | rfl <;> rfl
theorem aggD (w : World) : (isAgg 117).run Try.prog w = .ok true w := by kernel_rfl
theorem sizeD (W : World) : (Go.sizeOf 117).run Try.prog W = .ok 4 W := by
  have := elem_size elemD W
  rwa [elem_eq elemD] at this
set_option maxRecDepth 20000 in
/-- 'func(a, b api.Delta) int' -/
theorem turned1 (x y : TimeK × Int) (w : World) : Calls Try.prog 147 #[ekD x, ekD y] w fun e w' => e = .returned (.int .i64 (cmpT x.1 y.1)) ∧ Grew w w' := by
  have hc := Lib.hid (fun W => stampCompare_any x.1 y.1 W)
  have hu := ((Grew.refl w).alloc (.cells #[.int .u64 x.1.a, .int .u64 x.1.b, .int .u64 x.1.c, .int .i64 x.2] 117)).alloc (.cells #[.int .u64 y.1.a, .int .u64 y.1.b, .int .u64 y.1.c, .int .i64 y.2] 117)
  have hs : (w.alloc (.cells #[.int .u64 x.1.a, .int .u64 x.1.b, .int .u64 x.1.c, .int .i64 x.2] 117)).heap.size = w.heap.size + 1 := by simp
  have hk := fun (p : Addr) v (h : (w.alloc (.cells #[.int .u64 x.1.a, .int .u64 x.1.b, .int .u64 x.1.c, .int .i64 x.2] 117)).cell? p = some v) => ((Upd.refl [] (w.alloc (.cells #[.int .u64 x.1.a, .int .u64 x.1.b, .int .u64 x.1.c, .int .i64 x.2] 117))).alloc (.cells #[.int .u64 y.1.a, .int .u64 y.1.b, .int .u64 y.1.c, .int .i64 y.2] 117)).cellS h (by simp)
  have x0 := cell_new w #[.int .u64 x.1.a, .int .u64 x.1.b, .int .u64 x.1.c, .int .i64 x.2] 117 0 (v := .int .u64 x.1.a) rfl
  have x1 := cell_new w #[.int .u64 x.1.a, .int .u64 x.1.b, .int .u64 x.1.c, .int .i64 x.2] 117 1 (v := .int .u64 x.1.b) rfl
  have x2 := cell_new w #[.int .u64 x.1.a, .int .u64 x.1.b, .int .u64 x.1.c, .int .i64 x.2] 117 2 (v := .int .u64 x.1.c) rfl
  have x3 := cell_new w #[.int .u64 x.1.a, .int .u64 x.1.b, .int .u64 x.1.c, .int .i64 x.2] 117 3 (v := .int .i64 x.2) rfl
  replace x0 := hk _ _ x0
  replace x1 := hk _ _ x1
  replace x2 := hk _ _ x2
  have y0 := cell_new (w.alloc (.cells #[.int .u64 x.1.a, .int .u64 x.1.b, .int .u64 x.1.c, .int .i64 x.2] 117)) #[.int .u64 y.1.a, .int .u64 y.1.b, .int .u64 y.1.c, .int .i64 y.2] 117 0 (v := .int .u64 y.1.a) rfl
  have y1 := cell_new (w.alloc (.cells #[.int .u64 x.1.a, .int .u64 x.1.b, .int .u64 x.1.c, .int .i64 x.2] 117)) #[.int .u64 y.1.a, .int .u64 y.1.b, .int .u64 y.1.c, .int .i64 y.2] 117 1 (v := .int .u64 y.1.b) rfl
  have y2 := cell_new (w.alloc (.cells #[.int .u64 x.1.a, .int .u64 x.1.b, .int .u64 x.1.c, .int .i64 x.2] 117)) #[.int .u64 y.1.a, .int .u64 y.1.b, .int .u64 y.1.c, .int .i64 y.2] 117 2 (v := .int .u64 y.1.c) rfl
  have y3 := cell_new (w.alloc (.cells #[.int .u64 x.1.a, .int .u64 x.1.b, .int .u64 x.1.c, .int .i64 x.2] 117)) #[.int .u64 y.1.a, .int .u64 y.1.b, .int .u64 y.1.c, .int .i64 y.2] 117 3 (v := .int .i64 y.2) rfl
  rw [hs] at y0 y1 y2
  clear hs hk x3 y3
  have HU := Lib.hid hu
  clear hu
  generalize cmpT x.1 y.1 = r at hc ⊢
  go_enter Try.func147, Try.ntmps147
  go_upto_region 1 with fail
  generalize (w.alloc (.cells #[.int .u64 x.1.a, .int .u64 x.1.b, .int .u64 x.1.c, .int .i64 x.2] 117)).alloc (.cells #[.int .u64 y.1.a, .int .u64 y.1.b, .int .u64 y.1.c, .int .i64 y.2] 117) = w2 at *
  go_wp2_with (go_at_call 105; refine (hc.out _).mono ?_; rintro e w3 ⟨rfl, hg⟩; have HG := Lib.hid hg; clear hg)
  go_ret
  exact ⟨rfl, HU.out.trans HG.out⟩
def cmpD (x y : TimeK × Int) : Int := cmpT x.1 y.1
theorem cmpD_swo : SWO (ltOf cmpD) := ⟨fun x => cmpT_swo.irrefl x.1, fun x y z => cmpT_swo.trans x.1 y.1 z.1, fun x y z => cmpT_swo.ntrans x.1 y.1 z.1⟩
/-- deltas of unlike times are sorted -/
theorem sortD {w : World} {a : Option Addr} {c : Nat} {xs : List (TimeK × Int)} (h : OwnAt 117 4 eeD w a c xs) (hsz : xs.length < 4611686018427387904) (hn : (xs.map (·.1)).Nodup) :
    Calls Try.prog 146 #[.slice a xs.length c, .func (.func 147) #[] #[]] w fun e' w' => e' = .returned (.tuple #[]) ∧
      ∃ l, OwnAt 117 4 eeD w' a c l ∧ l.Perm xs ∧ l.Pairwise (fun x y => 0 ≤ cmpD y x) ∧ Upd (ablk a) w w' :=
  sort_ownI Try.sortApiDelta aggD sizeD eeD elemD.len (by omega) elemD.one cmpD cmpD_swo (fun i j x y hi hj h1 h2 => by
    have he : x.1 = y.1 := cmpT_tot x.1 y.1 h1 h2
    obtain ⟨l1, g1⟩ := List.getElem?_eq_some_iff.1 hi
    obtain ⟨l2, g2⟩ := List.getElem?_eq_some_iff.1 hj
    exact (List.getElem_inj (i := i) (j := j) (h₀ := by simpa using l1) (h₁ := by simpa using l2) hn).1 (by simp [g1, g2, he])) _ #[] (enters_of Try.func147 (by kernel_rfl) rfl) (fun W x y => turned1 x y W) h hsz
end Go.Proofs.Ytcdmdpgfadopcaa
