/-
  Stamps as keys and as elements; ledger.order: the order of stamps.
-/
import Derived.Test.YtcdmdpgfadopcaaTimes
import Derived.Test.YtcdmdpgfadopcaaTallyMK
import Derived.Test.YtcdmdpgfadopcaaLawRow
namespace Go.Proofs.Ytcdmdpgfadopcaa
open Go.Slu Go.MapKept Go.RowKit Go.Sort Go.WideMaps

/-- a stamp -/
structure StampK where
  n : Int
  t : TimeK
  hn : -9223372036854775808 ≤ n ∧ n ≤ 9223372036854775807
theorem StampK.ext' {x y : StampK} (h1 : x.n = y.n) (h2 : x.t = y.t) : x = y := by cases x; cases y; cases h1; cases h2; rfl
instance : DecidableEq StampK := fun x y => decidable_of_iff (x.n = y.n ∧ x.t = y.t) ⟨fun h => StampK.ext' h.1 h.2, fun h => h ▸ ⟨rfl, rfl⟩⟩
instance : Inhabited StampK := ⟨⟨0, default, by omega⟩⟩
abbrev eeM (p : StampK) : List Value := [.int .i64 p.n, .int .u64 p.t.a, .int .u64 p.t.b, .int .u64 p.t.c]
abbrev ekM (p : StampK) : Value := .agg #[.int .i64 p.n, .int .u64 p.t.a, .int .u64 p.t.b, .int .u64 p.t.c]
theorem skI : Try.prog.cellsOf 3 = 1 := by kernel_rfl
theorem skM : Try.prog.cellsOf 52 = 4 := by kernel_rfl
theorem skT : Try.prog.cellsOf 50 = 3 := by kernel_rfl
theorem skU : Try.prog.cellsOf 48 = 1 := by kernel_rfl
theorem wideM : (match Try.prog.underlying 52 with | some (.array _ _) | some (.struct _) => true | _ => false) = true := by kernel_rfl
set_option maxRecDepth 100000 in
theorem klawM : KeyLaw Try.prog 52 := deep_law_laid laidOutP (m := 3) (by omega) (of_decide_eq_true (by kernel_rfl)) (by kernel_rfl) wideM
theorem sk_big : ∃ m, Try.prog.types.size + 1 = m + 4 := ⟨Try.prog.types.size + 1 - 4, by
  have : 4 ≤ Try.prog.types.size := of_decide_eq_true (by kernel_rfl)
  omega⟩
theorem wfI {n : Int} (h : -9223372036854775808 ≤ n ∧ n ≤ 9223372036854775807) : (Lit.int .i64 n).wf = true := by simp [Lit.wf, IntKind.min, IntKind.max, IntKind.signed, IntKind.bits, h]
theorem wfU64 {n : Int} (h : 0 ≤ n ∧ n ≤ 18446744073709551615) : (Lit.int .u64 n).wf = true := by simp [Lit.wf, IntKind.min, IntKind.max, IntKind.signed, IntKind.bits, h]
theorem u64_of_wf {n : Int} (h : (Lit.int .u64 n).wf = true) : 0 ≤ n ∧ n ≤ 18446744073709551615 := by
  simpa [Lit.wf, IntKind.min, IntKind.max, IntKind.signed, IntKind.bits] using h
theorem klitsM (p : StampK) (m : Nat) : Try.prog.keyLits (m + 4) 52 (eeM p) = some [.int .i64 p.n, .int .u64 p.t.a, .int .u64 p.t.b, .int .u64 p.t.c] := by
  simp [Program.keyLits, Try.underlying52, Try.underlying50, Try.underlying48, Try.underlying3, skM, skT, skU, skI, wfI p.hn, wfU64 p.t.ha, wfU64 p.t.hb, wfU64 p.t.hc]
  rw [if_pos (by decide)]
  rfl
theorem keyofM (p : StampK) : ∃ l, keyOf Try.prog 52 (ekM p) = some l := by
  have hk : Try.prog.keyType 52 = true := by kernel_rfl
  obtain ⟨m, hm⟩ := sk_big
  have hf : (ekM p).formed Try.prog 52 = true := by simp [Value.formed, Try.underlying52, skM]
  unfold keyOf
  rw [Try.underlying52]
  simp only [hk, hf, hm, Bool.and_self, if_true]
  exact ⟨_, by rw [show (ekM p).cells.toList = eeM p from rfl, klitsM]; rfl⟩
theorem kvStamp : KVMk ekM := ⟨KeyOps.of_law klawM (fun x y h => by
  simp only [ekM, Value.agg.injEq, Array.mk.injEq, List.cons.injEq, Value.int.injEq, true_and, and_true] at h
  exact StampK.ext' h.1 (TimeK.ext' h.2.1 h.2.2.1 h.2.2.2)) keyofM, fun x => ⟨_, _, _, _, rfl⟩⟩
theorem infoM : (Try.prog.info? 52).map (fun i => (i.zero, i.size, i.bytes)) = some (some (.agg #[.int .i64 0, .int .u64 0, .int .u64 0, .int .u64 0]), 4, 32) := by kernel_rfl
theorem elemM : Elem Try.prog 68 52 4 32 eeM where
  ht := Try.underlying68
  info := by obtain ⟨i, h1, h2, h3, h4⟩ := info_parts infoM; exact ⟨i, _, h1, h2, h3, h4, rfl⟩
  pos := by omega
  len _ := rfl
  one _ u hu := by simp [eeM] at hu; rcases hu with rfl | rfl | rfl | rfl <;> rfl

/-! the order, in plain -/
theorem cmpI_lt {x y : Int} : cmpI x y < 0 ↔ x < y := by unfold cmpI; split <;> (try split) <;> omega
theorem cmpI_zero {x y : Int} : cmpI x y = 0 ↔ x = y := by unfold cmpI; split <;> (try split) <;> omega
/-- one list's numbers ahead of another's -/
def LexLt : List Int → List Int → Prop
  | x :: r, y :: s => x < y ∨ (x = y ∧ LexLt r s)
  | _, _ => False
theorem cmpL_lt : ∀ (xs ys : List Int), cmpL xs ys < 0 ↔ LexLt xs ys
  | [], _ => by simp [cmpL, LexLt]
  | _ :: _, [] => by simp [cmpL, LexLt]
  | x :: r, y :: s => by
    have ih := cmpL_lt r s
    simp only [cmpL, LexLt]
    by_cases h : cmpI x y = 0
    · rw [if_neg (by simpa using h)]
      have := cmpI_zero.1 h
      rw [ih]
      constructor
      · intro h2; exact .inr ⟨this, h2⟩
      · rintro (h2 | ⟨_, h2⟩)
        · omega
        · exact h2
    · rw [if_pos (by simpa using h), cmpI_lt]
      have : x ≠ y := fun e => h (cmpI_zero.2 e)
      constructor
      · exact .inl
      · rintro (h2 | ⟨h2, _⟩)
        · exact h2
        · exact absurd h2 this
theorem LexLt.irr : ∀ xs : List Int, ¬ LexLt xs xs
  | [] => by simp [LexLt]
  | x :: r => by have := LexLt.irr r; simp [LexLt, this]
theorem LexLt.trans : ∀ {xs ys zs : List Int}, LexLt xs ys → LexLt ys zs → LexLt xs zs
  | [], _, _, h, _ => by simp [LexLt] at h
  | _ :: _, [], _, h, _ => by simp [LexLt] at h
  | _ :: _, _ :: _, [], _, h => by simp [LexLt] at h
  | x :: r, y :: s, z :: t, h1, h2 => by
    simp only [LexLt] at *
    rcases h1 with h1 | ⟨rfl, h1⟩ <;> rcases h2 with h2 | ⟨rfl, h2⟩
    · left; omega
    · left; exact h1
    · left; exact h2
    · right; exact ⟨rfl, h1.trans h2⟩
theorem LexLt.tot : ∀ {xs ys : List Int}, xs.length = ys.length → ¬ LexLt xs ys → ¬ LexLt ys xs → xs = ys
  | [], [], _, _, _ => rfl
  | [], _ :: _, h, _, _ => by simp at h
  | _ :: _, [], h, _, _ => by simp at h
  | x :: r, y :: s, h, h1, h2 => by
    simp only [LexLt, not_or, not_and] at h1 h2
    have : x = y := by omega
    subst this
    rw [LexLt.tot (by simpa using h) (h1.2 rfl) (h2.2 rfl)]
def numsT (x : TimeK) : List Int := [x.a, x.b, x.c]
def numsM (x : StampK) : List Int := [x.n, x.t.a, x.t.b, x.t.c]
theorem numsT_inj {x y : TimeK} (h : numsT x = numsT y) : x = y := by
  simp [numsT] at h; exact TimeK.ext' h.1 h.2.1 h.2.2
theorem numsM_inj {x y : StampK} (h : numsM x = numsM y) : x = y := by
  simp [numsM] at h; exact StampK.ext' h.1 (TimeK.ext' h.2.1 h.2.2.1 h.2.2.2)
theorem cmpT_lt {x y : TimeK} : cmpT x y < 0 ↔ LexLt (numsT x) (numsT y) := cmpL_lt _ _
/-- the order of stamps -/
def cmpM (x y : StampK) : Int := cmpL (numsM x) (numsM y)
theorem cmpM_lt {x y : StampK} : cmpM x y < 0 ↔ LexLt (numsM x) (numsM y) := cmpL_lt _ _
theorem cmpM_eq (x y : StampK) : cmpM x y = if cmpI x.n y.n ≠ 0 then cmpI x.n y.n else cmpT x.t y.t := rfl
theorem cmpM_tot (x y : StampK) (h1 : ltOf cmpM x y = false) (h2 : ltOf cmpM y x = false) : x = y := by
  simp only [ltOf, decide_eq_false_iff_not, cmpM_lt] at h1 h2
  exact numsM_inj (LexLt.tot rfl h1 h2)
theorem cmpM_swo : SWO (ltOf cmpM) := SWO.of_total (fun x => by simpa [ltOf, cmpM_lt] using LexLt.irr _) (fun x y z h1 h2 => by
    simp only [ltOf, decide_eq_true_eq, cmpM_lt] at h1 h2 ⊢
    exact h1.trans h2) cmpM_tot
end Go.Proofs.Ytcdmdpgfadopcaa
