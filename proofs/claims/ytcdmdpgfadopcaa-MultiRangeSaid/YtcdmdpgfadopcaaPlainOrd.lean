/-
  Plain: the orders of texts and keys, strict and total.
-/
import Derived.Test.YtcdmdpgfadopcaaRefTally
namespace Go.Slu
open Go.Sort Go.Proofs
theorem SWO.of_total {α : Type} {lt : α → α → Bool} (irr : ∀ x, lt x x = false) (tr : ∀ x y z, lt x y = true → lt y z = true → lt x z = true) (tot : ∀ x y, lt x y = false → lt y x = false → x = y) : SWO lt where
  irrefl := irr
  trans := tr
  ntrans x y z h1 h2 := by
    cases h3 : lt x z with
    | false => rfl
    | true =>
      cases h4 : lt y x with
      | true => rw [tr y x z h4 h3] at h2; cases h2
      | false => have := tot x y h1 h4; subst this; rw [h3] at h2; cases h2

theorem bl_irr : ∀ l : List UInt8, Op.bytesLess l l = false
  | [] => rfl
  | a :: l => by simp [Op.bytesLess, bl_irr l]
theorem bl_trans : ∀ x y z : List UInt8, Op.bytesLess x y = true → Op.bytesLess y z = true → Op.bytesLess x z = true
  | _, [], _, h, _ => by unfold Op.bytesLess at h; cases h
  | _, _ :: _, [], _, h => by unfold Op.bytesLess at h; cases h
  | [], _ :: _, _ :: _, _, _ => rfl
  | a :: x, b :: y, c :: z, h1, h2 => by
    simp only [Op.bytesLess, Bool.or_eq_true, decide_eq_true_eq, Bool.and_eq_true, beq_iff_eq] at h1 h2 ⊢
    rcases h1 with h1 | ⟨rfl, h1⟩
    · rcases h2 with h2 | ⟨rfl, h2⟩
      · exact .inl (UInt8.lt_trans h1 h2)
      · exact .inl h1
    · rcases h2 with h2 | ⟨rfl, h2⟩
      · exact .inl h2
      · exact .inr ⟨rfl, bl_trans x y z h1 h2⟩
theorem bl_tot : ∀ x y : List UInt8, Op.bytesLess x y = false → Op.bytesLess y x = false → x = y
  | [], [], _, _ => rfl
  | [], _ :: _, h, _ => by unfold Op.bytesLess at h; cases h
  | _ :: _, [], _, h => by unfold Op.bytesLess at h; cases h
  | a :: x, b :: y, h1, h2 => by
    simp only [Op.bytesLess, Bool.or_eq_false_iff, decide_eq_false_iff_not, Bool.and_eq_false_iff, beq_eq_false_iff_ne] at h1 h2
    have hab : a = b := by
      have h3 := h1.1
      have h4 := h2.1
      rw [UInt8.lt_iff_toNat_lt] at h3 h4
      exact UInt8.toNat_inj.1 (by omega)
    subst hab
    have h5 : Op.bytesLess x y = false := h1.2.resolve_left (by simp)
    have h6 : Op.bytesLess y x = false := h2.2.resolve_left (by simp)
    rw [bl_tot x y h5 h6]

/-- keys, by the text, then by the number -/
def KLt (a b : List UInt8 × Int) : Prop := Op.bytesLess a.1 b.1 = true ∨ (a.1 = b.1 ∧ a.2 < b.2)
theorem risingF_neg (a b : List UInt8 × Int) : risingF a b < 0 ↔ KLt a b := by
  unfold risingF KLt
  split
  · rename_i h
    exact ⟨fun _ => h, fun _ => by omega⟩
  · rename_i h
    split
    · rename_i h2; exact ⟨fun h3 => by omega, fun h3 => absurd h3 h⟩
    · exact ⟨fun h3 => by omega, fun h3 => absurd h3 h⟩
theorem risingF_zero (a b : List UInt8 × Int) : risingF a b = 0 ↔ a = b := by
  unfold risingF
  constructor
  · intro h
    split at h
    · cases h
    · split at h
      · rename_i h2; exact Prod.ext h2.1 h2.2
      · cases h
  · rintro rfl
    simp [bl_irr]
theorem KLt.irr (a : List UInt8 × Int) : ¬ KLt a a := by simp [KLt, bl_irr]
theorem KLt.trans {a b c : List UInt8 × Int} (h1 : KLt a b) (h2 : KLt b c) : KLt a c := by
  obtain ⟨a1, a2⟩ := a
  obtain ⟨b1, b2⟩ := b
  obtain ⟨c1, c2⟩ := c
  unfold KLt at *
  simp only at *
  rcases h1 with h1 | ⟨rfl, h1⟩
  · rcases h2 with h2 | ⟨rfl, h2⟩
    · exact .inl (bl_trans _ _ _ h1 h2)
    · exact .inl h1
  · rcases h2 with h2 | ⟨rfl, h2⟩
    · exact .inl h2
    · exact .inr ⟨rfl, by omega⟩
theorem KLt.tot {a b : List UInt8 × Int} (h1 : ¬ KLt a b) (h2 : ¬ KLt b a) : a = b := by
  obtain ⟨a1, a2⟩ := a
  obtain ⟨b1, b2⟩ := b
  simp only [KLt, not_or, not_and, Bool.not_eq_true] at h1 h2
  have := bl_tot _ _ h1.1 h2.1
  subst this
  have h3 := h1.2 rfl
  have h4 := h2.2 rfl
  exact Prod.ext rfl (by simp at *; omega)
end Go.Slu

namespace Go.Proofs.Ytcdmdpgfadopcaa
open Go.Slu Go.Sort
theorem str_inj {a b : Str} (h : a.s.toList = b.s.toList) : a = b := by
  rw [ByteArray.toList_eq, ByteArray.toList_eq] at h
  have h2 : a.s = b.s := ByteArray.ext (Array.toList_inj.1 h)
  cases a; cases b; cases h2; rfl
/-- key of a text -/
def ky (s : Str) (n : Int) : List UInt8 × Int := (s.s.toList, n)
theorem ky_inj {a b : Str} {n m : Int} (h : ky a n = ky b m) : a = b ∧ n = m := by
  exact ⟨str_inj (congrArg Prod.fst h), congrArg Prod.snd h⟩
theorem orderF_neg (k : Int) (a b : Str) (n m : Int) : orderF k a n b m < 0 ↔ (if k = 1 then KLt (ky b m) (ky a n) else if k = 0 then KLt (ky a n) (ky b m) else a.s.size < b.s.size ∨ (a.s.size = b.s.size ∧ KLt (ky a n) (ky b m))) := by
  unfold orderF ky
  by_cases h1 : k = 1
  · simp only [h1, if_true]; exact risingF_neg _ _
  · by_cases h0 : k = 0
    · simp [h0]; exact risingF_neg _ _
    · simp only [h1, if_false, h0, not_false_iff, ne_eq, true_and]
      by_cases hs : a.s.size = b.s.size
      · simp [hs, risingF_neg]
      · simp [hs]; omega
/-- the law's orders, on texts -/
def cfO (k : Int) (a b : Str) : Int := orderF k a 0 b 0
theorem cfO_lt (k : Int) (a b : Str) : ltOf (cfO k) a b = true ↔ (if k = 1 then KLt (ky b 0) (ky a 0) else if k = 0 then KLt (ky a 0) (ky b 0) else a.s.size < b.s.size ∨ (a.s.size = b.s.size ∧ KLt (ky a 0) (ky b 0))) := by
  rw [← orderF_neg]; unfold ltOf cfO; exact decide_eq_true_iff
theorem cfO_tot (k : Int) (x y : Str) (h1 : ltOf (cfO k) x y = false) (h2 : ltOf (cfO k) y x = false) : x = y := by
  have h1' : ¬ ltOf (cfO k) x y = true := by simp [h1]
  have h2' : ¬ ltOf (cfO k) y x = true := by simp [h2]
  rw [cfO_lt] at h1' h2'
  have key : ky x 0 = ky y 0 := by
    by_cases k1 : k = 1
    · simp only [k1, if_true] at h1' h2'; exact KLt.tot h2' h1'
    · by_cases k0 : k = 0
      · simp [k0] at h1' h2'; exact KLt.tot h1' h2'
      · simp only [k1, k0, if_false, not_or, not_and] at h1' h2'
        have : x.s.size = y.s.size := by omega
        exact KLt.tot (h1'.2 this) (h2'.2 this.symm)
  exact (ky_inj key).1
theorem cfO_swo (k : Int) : SWO (ltOf (cfO k)) := by
  refine SWO.of_total (fun x => ?_) (fun x y z h1 h2 => ?_) (cfO_tot k)
  · cases h : ltOf (cfO k) x x with
    | false => rfl
    | true =>
      rw [cfO_lt] at h
      by_cases k1 : k = 1
      · simp only [k1, if_true] at h; exact absurd h (KLt.irr _)
      · by_cases k0 : k = 0
        · simp [k0] at h; exact absurd h (KLt.irr _)
        · simp only [k1, k0, if_false] at h
          rcases h with h | h
          · omega
          · exact absurd h.2 (KLt.irr _)
  · rw [cfO_lt] at h1 h2 ⊢
    by_cases k1 : k = 1
    · simp only [k1, if_true] at *; exact KLt.trans h2 h1
    · by_cases k0 : k = 0
      · simp [k0] at *; exact KLt.trans h1 h2
      · simp only [k1, k0, if_false] at *
        rcases h1 with h1 | ⟨e1, h1⟩ <;> rcases h2 with h2 | ⟨e2, h2⟩
        · left; omega
        · left; omega
        · left; omega
        · exact .inr ⟨by omega, KLt.trans h1 h2⟩
end Go.Proofs.Ytcdmdpgfadopcaa
