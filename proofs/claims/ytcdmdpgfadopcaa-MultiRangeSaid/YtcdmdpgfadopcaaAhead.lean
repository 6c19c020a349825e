/-
  Own base: stamp.Ahead; slices.IndexFunc and ContainsFunc over times, whatever the function value.
-/
import Derived.Test.YtcdmdpgfadopcaaTimes
namespace Go.Slu
open Go.MapKept Go.RowKit
/-- a function value tells p of a value; old memory stays -/
def PredIn (P : Program) (g : Nat) (lb : Array Value) {α : Type} (ek : α → Value) (p : α → Bool) (w : World) : Prop :=
  ∀ (W : World) (x : α), Upd [] w W → Calls P g (#[ek x] ++ lb) W fun e w' => e = .returned (.bool (p x)) ∧ Upd [] w w'
/-- the first place of which p holds; -1 -/
def ixF {α : Type} (p : α → Bool) : List α → Int
  | [] => -1
  | x :: r => if p x then 0 else if ixF p r < 0 then -1 else ixF p r + 1
section
variable {α : Type} {p : α → Bool}
theorem ixF_hit : ∀ {xs : List α} {i : Nat} {x : α}, xs[i]? = some x → p x = true → (∀ (j : Nat) (y : α), j < i → xs[j]? = some y → p y = false) → ixF p xs = i
  | [], i, x, h, _, _ => by simp at h
  | z :: r, 0, x, h, hp, _ => by simp at h; subst h; simp [ixF, hp]
  | z :: r, i + 1, x, h, hp, hno => by
    have h0 := hno 0 z (by omega) rfl
    have ih := ixF_hit (xs := r) (i := i) (x := x) (by simpa using h) hp (fun j y hj hy => hno (j + 1) y (by omega) (by simpa using hy))
    simp only [ixF, h0, Bool.false_eq_true, if_false, ih]
    rw [if_neg (by omega)]
    omega
theorem ixF_miss : ∀ {xs : List α}, (∀ (j : Nat) (y : α), xs[j]? = some y → p y = false) → ixF p xs = -1
  | [], _ => rfl
  | z :: r, h => by
    have h0 := h 0 z rfl
    have ih := ixF_miss (xs := r) (fun j y hy => h (j + 1) y (by simpa using hy))
    simp only [ixF, h0, Bool.false_eq_true, if_false, ih]
    rfl
theorem ixF_any : ∀ (xs : List α), decide (0 ≤ ixF p xs) = xs.any p
  | [] => rfl
  | z :: r => by
    have ih := ixF_any r
    by_cases h : p z = true
    · have e : ixF p (z :: r) = 0 := by simp [ixF, h]
      rw [e, List.any_cons, h]; rfl
    · have h' : p z = false := by simpa using h
      have e : ixF p (z :: r) = if ixF p r < 0 then -1 else ixF p r + 1 := by simp [ixF, h']
      rw [e, List.any_cons, h', Bool.false_or, ← ih]
      by_cases h1 : ixF p r < 0
      · rw [if_pos h1, decide_eq_false (by omega), decide_eq_false (by omega)]
      · rw [if_neg h1, decide_eq_true (by omega), decide_eq_true (by omega)]
end
end Go.Slu
namespace Go.Proofs.Ytcdmdpgfadopcaa
open Go.Slu Go.MapKept Go.RowKit Go.Sort

/-- at or ahead of -/
def aheadT (x y : TimeK) : Bool := decide (x.a ≤ y.a) && (decide (x.b ≤ y.b) && decide (x.c ≤ y.c))
theorem ahead1_any (x y : Int) (w : World) : Calls Try.prog 135 #[.int .u64 x, .int .u64 y] w fun e w' => e = .returned (.bool (decide (x ≤ y))) ∧ w = w' := by
  go_enter Try.func135, Try.ntmps135
  go_wp2_with fail
  go_ret
  exact ⟨rfl, rfl⟩
theorem index3_0 (a b c : Int) (W : World) : (Instr.index 191 (.agg #[.int .u64 a, .int .u64 b, .int .u64 c]) (.int .i64 0)).run Try.prog W = .ok (.int .u64 a) W := by kernel_rfl
theorem index3_1 (a b c : Int) (W : World) : (Instr.index 191 (.agg #[.int .u64 a, .int .u64 b, .int .u64 c]) (.int .i64 1)).run Try.prog W = .ok (.int .u64 b) W := by kernel_rfl
theorem index3_2 (a b c : Int) (W : World) : (Instr.index 191 (.agg #[.int .u64 a, .int .u64 b, .int .u64 c]) (.int .i64 2)).run Try.prog W = .ok (.int .u64 c) W := by kernel_rfl
set_option maxRecDepth 20000 in
set_option maxHeartbeats 1000000 in
theorem all_any (x y : TimeK) (w : World) : Calls Try.prog 134 #[ekT x, ekT y, .func (.func 135) #[] #[]] w fun e w' => e = .returned (.bool (aheadT x y)) ∧ Upd [] w w' := by
  have h1 := Lib.hid (fun a b W => ahead1_any a b W)
  have hn := Lib.hid (fun a b c W => numbers_any a b c W)
  have hu := ((Upd.refl [] w).alloc (.cells #[.int .u64 x.a, .int .u64 x.b, .int .u64 x.c] 50)).alloc (.cells #[.int .u64 y.a, .int .u64 y.b, .int .u64 y.c] 50)
  have hs : (w.alloc (.cells #[.int .u64 x.a, .int .u64 x.b, .int .u64 x.c] 50)).heap.size = w.heap.size + 1 := by simp
  have hk := fun (p : Addr) v (h : (w.alloc (.cells #[.int .u64 x.a, .int .u64 x.b, .int .u64 x.c] 50)).cell? p = some v) => ((Upd.refl [] (w.alloc (.cells #[.int .u64 x.a, .int .u64 x.b, .int .u64 x.c] 50))).alloc (.cells #[.int .u64 y.a, .int .u64 y.b, .int .u64 y.c] 50)).cellS h (by simp)
  have x0 := cell_new w #[.int .u64 x.a, .int .u64 x.b, .int .u64 x.c] 50 0 (v := .int .u64 x.a) rfl
  have x1 := cell_new w #[.int .u64 x.a, .int .u64 x.b, .int .u64 x.c] 50 1 (v := .int .u64 x.b) rfl
  have x2 := cell_new w #[.int .u64 x.a, .int .u64 x.b, .int .u64 x.c] 50 2 (v := .int .u64 x.c) rfl
  replace x0 := hk _ _ x0
  replace x1 := hk _ _ x1
  replace x2 := hk _ _ x2
  have y0 := cell_new (w.alloc (.cells #[.int .u64 x.a, .int .u64 x.b, .int .u64 x.c] 50)) #[.int .u64 y.a, .int .u64 y.b, .int .u64 y.c] 50 0 (v := .int .u64 y.a) rfl
  have y1 := cell_new (w.alloc (.cells #[.int .u64 x.a, .int .u64 x.b, .int .u64 x.c] 50)) #[.int .u64 y.a, .int .u64 y.b, .int .u64 y.c] 50 1 (v := .int .u64 y.b) rfl
  have y2 := cell_new (w.alloc (.cells #[.int .u64 x.a, .int .u64 x.b, .int .u64 x.c] 50)) #[.int .u64 y.a, .int .u64 y.b, .int .u64 y.c] 50 2 (v := .int .u64 y.c) rfl
  rw [hs] at y0 y1 y2
  clear hs hk
  have HU := Lib.hid hu
  clear hu
  go_enter Try.func134, Try.ntmps134
  go_upto_region 1 with fail
  generalize (w.alloc (.cells #[.int .u64 x.a, .int .u64 x.b, .int .u64 x.c] 50)).alloc (.cells #[.int .u64 y.a, .int .u64 y.b, .int .u64 y.c] 50) = w2 at *
  go_wp2_with (first
    | (go_at_call 132; have _q := HG3; refine (hn.out _ _ _ _).mono ?_; rintro e w4 ⟨rfl, hg⟩; replace a0 := hg.upd.cellS a0 (by simp); replace a1 := hg.upd.cellS a1 (by simp); replace a2 := hg.upd.cellS a2 (by simp); have HG4 := Lib.hid ((HU.out.trans HG3.out.upd).trans (((Upd.refl [] w3).alloc (.cells #[.int .u64 y.a, .int .u64 y.b, .int .u64 y.c] 191)).trans hg.upd)); clear hg)
    | (go_at_call 132; refine (hn.out _ _ _ _).mono ?_; rintro e w3 ⟨rfl, hg⟩; replace x0 := ((Upd.refl [] w3).alloc (.cells #[.int .u64 y.a, .int .u64 y.b, .int .u64 y.c] 191)).cellS (hg.upd.cellS x0 (by simp)) (by simp); replace x1 := ((Upd.refl [] w3).alloc (.cells #[.int .u64 y.a, .int .u64 y.b, .int .u64 y.c] 191)).cellS (hg.upd.cellS x1 (by simp)) (by simp); replace x2 := ((Upd.refl [] w3).alloc (.cells #[.int .u64 y.a, .int .u64 y.b, .int .u64 y.c] 191)).cellS (hg.upd.cellS x2 (by simp)) (by simp); have a0 := cell_new w3 #[.int .u64 y.a, .int .u64 y.b, .int .u64 y.c] 191 0 (v := .int .u64 y.a) rfl; have a1 := cell_new w3 #[.int .u64 y.a, .int .u64 y.b, .int .u64 y.c] 191 1 (v := .int .u64 y.b) rfl; have a2 := cell_new w3 #[.int .u64 y.a, .int .u64 y.b, .int .u64 y.c] 191 2 (v := .int .u64 y.c) rfl; have HG3 := Lib.hid hg; clear hg))
  have HA := Lib.hid (And.intro a0 (And.intro a1 a2))
  clear a0 a1 a2 x0 x1 x2 y0 y1 y2 hn
  generalize w3.heap.size = ab at *
  go_loopg [8, 9, 14] 3 (fun m v8 v9 v14 wz => ∃ i : Nat, m + i = 3 ∧ v14 = .int .i64 i ∧ (0 < i → x.a ≤ y.a) ∧ (1 < i → x.b ≤ y.b) ∧ (2 < i → x.c ≤ y.c) ∧ Upd [] w4 wz)
  case atStart => exact ⟨0, rfl, rfl, by omega, by omega, by omega, Upd.refl _ _⟩
  case round =>
    obtain ⟨i, hm, rfl, hp0, hp1, hp2, hu⟩ := hrel
    have HV := Lib.hid hu
    have q0 := hu.cellS HA.out.1 (by simp)
    have q1 := hu.cellS HA.out.2.1 (by simp)
    have q2 := hu.cellS HA.out.2.2 (by simp)
    have HP := Lib.hid (And.intro hp0 (And.intro hp1 hp2))
    clear hu hp0 hp1 hp2
    have hi : i = 0 ∨ i = 1 ∨ i = 2 ∨ i = 3 := by omega
    rcases hi with rfl | rfl | rfl | rfl
    · have hix := index3_0 x.a x.b x.c
      have h := Lib.hid (h1.out x.a y.a wr)
      by_cases hq : x.a ≤ y.a
      · rw [decide_eq_true hq] at h
        have HQ := Lib.hid hq
        clear hq
        go_wp2_with (go_at_call 135; refine h.out.mono ?_; rintro e w5 ⟨rfl, rfl⟩)
        go_roundg 2
        case measure => omega
        case rel => exact ⟨1, rfl, rfl, fun _ => HQ.out, by omega, by omega, HV.out⟩
      · rw [decide_eq_false hq] at h
        have HQ := Lib.hid hq
        clear hq
        go_wp2_with (go_at_call 135; refine h.out.mono ?_; rintro e w5 ⟨rfl, rfl⟩)
        go_ret
        exact ⟨by (have hq' := HQ.out; simp [aheadT]; intros; omega), HG4.out.trans HV.out⟩
    · have hix := index3_1 x.a x.b x.c
      have h := Lib.hid (h1.out x.b y.b wr)
      by_cases hq : x.b ≤ y.b
      · rw [decide_eq_true hq] at h
        have HQ := Lib.hid hq
        clear hq
        go_wp2_with (go_at_call 135; refine h.out.mono ?_; rintro e w5 ⟨rfl, rfl⟩)
        go_roundg 1
        case measure => omega
        case rel => exact ⟨2, rfl, rfl, fun _ => HP.out.1 (by omega), fun _ => HQ.out, by omega, HV.out⟩
      · rw [decide_eq_false hq] at h
        have HQ := Lib.hid hq
        clear hq
        go_wp2_with (go_at_call 135; refine h.out.mono ?_; rintro e w5 ⟨rfl, rfl⟩)
        go_ret
        exact ⟨by (have hq' := HQ.out; simp [aheadT]; intros; omega), HG4.out.trans HV.out⟩
    · have hix := index3_2 x.a x.b x.c
      have h := Lib.hid (h1.out x.c y.c wr)
      by_cases hq : x.c ≤ y.c
      · rw [decide_eq_true hq] at h
        have HQ := Lib.hid hq
        clear hq
        go_wp2_with (go_at_call 135; refine h.out.mono ?_; rintro e w5 ⟨rfl, rfl⟩)
        go_roundg 0
        case measure => omega
        case rel => exact ⟨3, rfl, rfl, fun _ => HP.out.1 (by omega), fun _ => HP.out.2.1 (by omega), fun _ => HQ.out, HV.out⟩
      · rw [decide_eq_false hq] at h
        have HQ := Lib.hid hq
        clear hq
        go_wp2_with (go_at_call 135; refine h.out.mono ?_; rintro e w5 ⟨rfl, rfl⟩)
        go_ret
        exact ⟨by (have hq' := HQ.out; simp [aheadT]; intros; omega), HG4.out.trans HV.out⟩
    · go_wp2_with fail
      go_ret
      exact ⟨by simp [aheadT, HP.out.1 (by omega), HP.out.2.1 (by omega), HP.out.2.2 (by omega)], HG4.out.trans HV.out⟩
set_option maxRecDepth 20000 in
/-- 'Ahead' -/
theorem ahead_any (x y : TimeK) (w : World) : Calls Try.prog 107 #[ekT x, ekT y] w fun e w' => e = .returned (.bool (aheadT x y)) ∧ Upd [] w w' := by
  have ha := Lib.hid (fun W => all_any x y W)
  have hu := ((Upd.refl [] w).alloc (.cells #[.int .u64 x.a, .int .u64 x.b, .int .u64 x.c] 50)).alloc (.cells #[.int .u64 y.a, .int .u64 y.b, .int .u64 y.c] 50)
  have hs : (w.alloc (.cells #[.int .u64 x.a, .int .u64 x.b, .int .u64 x.c] 50)).heap.size = w.heap.size + 1 := by simp
  have hk := fun (p : Addr) v (h : (w.alloc (.cells #[.int .u64 x.a, .int .u64 x.b, .int .u64 x.c] 50)).cell? p = some v) => ((Upd.refl [] (w.alloc (.cells #[.int .u64 x.a, .int .u64 x.b, .int .u64 x.c] 50))).alloc (.cells #[.int .u64 y.a, .int .u64 y.b, .int .u64 y.c] 50)).cellS h (by simp)
  have x0 := cell_new w #[.int .u64 x.a, .int .u64 x.b, .int .u64 x.c] 50 0 (v := .int .u64 x.a) rfl
  have x1 := cell_new w #[.int .u64 x.a, .int .u64 x.b, .int .u64 x.c] 50 1 (v := .int .u64 x.b) rfl
  have x2 := cell_new w #[.int .u64 x.a, .int .u64 x.b, .int .u64 x.c] 50 2 (v := .int .u64 x.c) rfl
  replace x0 := hk _ _ x0
  replace x1 := hk _ _ x1
  replace x2 := hk _ _ x2
  have y0 := cell_new (w.alloc (.cells #[.int .u64 x.a, .int .u64 x.b, .int .u64 x.c] 50)) #[.int .u64 y.a, .int .u64 y.b, .int .u64 y.c] 50 0 (v := .int .u64 y.a) rfl
  have y1 := cell_new (w.alloc (.cells #[.int .u64 x.a, .int .u64 x.b, .int .u64 x.c] 50)) #[.int .u64 y.a, .int .u64 y.b, .int .u64 y.c] 50 1 (v := .int .u64 y.b) rfl
  have y2 := cell_new (w.alloc (.cells #[.int .u64 x.a, .int .u64 x.b, .int .u64 x.c] 50)) #[.int .u64 y.a, .int .u64 y.b, .int .u64 y.c] 50 2 (v := .int .u64 y.c) rfl
  rw [hs] at y0 y1 y2
  clear hs hk
  have HU := Lib.hid hu
  clear hu
  generalize aheadT x y = r at ha ⊢
  go_enter Try.func107, Try.ntmps107
  go_upto_region 1 with fail
  generalize (w.alloc (.cells #[.int .u64 x.a, .int .u64 x.b, .int .u64 x.c] 50)).alloc (.cells #[.int .u64 y.a, .int .u64 y.b, .int .u64 y.c] 50) = w2 at *
  go_wp2_with (go_at_call 134; refine (ha.out _).mono ?_; rintro e w3 ⟨rfl, hu⟩; have HU2 := Lib.hid hu; clear hu)
  go_ret
  exact ⟨rfl, HU.out.trans HU2.out⟩

set_option maxHeartbeats 1000000 in
/-- slices.IndexFunc over times -/
theorem indexFuncT {w : World} {a : Option Addr} {c : Nat} {xs : List TimeK} (hl : xs.length ≤ 1099511627776) (hrd : Rd 3 eeT w a xs) (g : Nat) (lb : Array Value) (eg : ∀ args W, (callFunc g args).run Try.prog W = .ok (.enter g args) W) (p : TimeK → Bool) (hp : PredIn Try.prog g lb ekT p w) :
    Calls Try.prog 143 #[.slice a xs.length c, .func (.func g) #[] lb] w fun e w' => e = .returned (.int .i64 (ixF p xs)) ∧ Upd [] w w' := by
  have HRD := Lib.hid hrd
  have HP := Lib.hid hp
  clear hrd hp
  go_enter Try.func143, Try.ntmps143
  go_wp2_with fail
  go_loopg [5, 8] xs.length (fun m v5 v8 wz => ∃ i : Nat, m + i = xs.length ∧ v8 = .int .i64 i ∧ (∀ (j : Nat) (y : TimeK), j < i → xs[j]? = some y → p y = false) ∧ Upd [] w wz)
  case atStart => exact ⟨0, rfl, rfl, by omega, Upd.refl _ _⟩
  case round =>
    obtain ⟨i, hm, rfl, hno, hu⟩ := hrel
    have HM := Lib.hid hm
    have HN := Lib.hid hno
    have HU := Lib.hid hu
    clear hm hno hu
    by_cases hi : i < xs.length
    · have hii : (i : Int) < xs.length := by omega
      obtain ⟨x, hx⟩ : ∃ x, xs[i]? = some x := ⟨xs[i], List.getElem?_eq_getElem hi⟩
      obtain ⟨b, off, rfl, hc⟩ := HRD.out i x hx
      have y0 := HU.out.cellS (hc 0 _ rfl) (by simp)
      have y1 := HU.out.cellS (hc 1 _ rfl) (by simp)
      have y2 := HU.out.cellS (hc 2 _ rfl) (by simp)
      simp only [Nat.add_zero] at y0
      have HX := Lib.hid hx
      have hcall := HP.out wr x HU.out
      clear hc hx
      cases hq : p x with
      | true =>
        rw [hq] at hcall
        have hc2 := Lib.hid hcall
        have HQ := Lib.hid hq
        clear hcall hq
        go_wp2_with (go_at_fn g; refine hc2.out.mono ?_; rintro e w' ⟨rfl, hu⟩; have HU2 := Lib.hid hu; clear hu)
        go_ret
        exact ⟨by rw [ixF_hit HX.out HQ.out HN.out]; rfl, HU2.out⟩
      | false =>
        rw [hq] at hcall
        have hc2 := Lib.hid hcall
        have HQ := Lib.hid hq
        clear hcall hq
        go_wp2_with (go_at_fn g; refine hc2.out.mono ?_; rintro e w' ⟨rfl, hu⟩; have HU2 := Lib.hid hu; clear hu)
        go_roundg (xs.length - (i + 1))
        case measure => have := HM.out; omega
        case rel => exact ⟨i + 1, by have := HM.out; omega, rfl, fun j y hj hy => by
          rcases Nat.lt_or_ge j i with h | h
          · exact HN.out j y h hy
          · obtain rfl : j = i := by omega
            rw [HX.out] at hy; cases hy; exact HQ.out, HU2.out⟩
    · have hii : ¬ (i : Int) < xs.length := by omega
      obtain rfl : i = xs.length := by have := HM.out; omega
      go_wp2_with fail
      go_ret
      exact ⟨by rw [ixF_miss (fun j y hy => HN.out j y (List.getElem?_eq_some_iff.1 hy).1 hy)]; rfl, HU.out⟩
/-- slices.ContainsFunc over times -/
theorem containsFuncT {w : World} {a : Option Addr} {c : Nat} {xs : List TimeK} (hl : xs.length ≤ 1099511627776) (hrd : Rd 3 eeT w a xs) (g : Nat) (lb : Array Value) (eg : ∀ args W, (callFunc g args).run Try.prog W = .ok (.enter g args) W) (p : TimeK → Bool) (hp : PredIn Try.prog g lb ekT p w) :
    Calls Try.prog 149 #[.slice a xs.length c, .func (.func g) #[] lb] w fun e w' => e = .returned (.bool (xs.any p)) ∧ Upd [] w w' := by
  have hi := Lib.hid (indexFuncT (c := c) hl hrd g lb eg p hp)
  rw [← ixF_any xs]
  generalize ixF p xs = r at hi ⊢
  clear hrd hp
  go_enter Try.func149, Try.ntmps149
  go_wp2_with (go_at_call 143; refine hi.out.mono ?_; rintro e w2 ⟨rfl, hu⟩; have HU := Lib.hid hu; clear hu)
  go_ret
  exact ⟨rfl, HU.out⟩
end Go.Proofs.Ytcdmdpgfadopcaa
