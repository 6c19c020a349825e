/-
  The document's tally (sluiceref04): contracts of the orders.
-/
import Derived.Test.YtcdmdpgfadopcaaTallyS3
namespace Go.Slu
/-- a key of the document's: a text and a number -/
def risingF (a b : List UInt8 × Int) : Int := if Op.bytesLess a.1 b.1 = true ∨ (a.1 = b.1 ∧ a.2 < b.2) then -1 else if a.1 = b.1 ∧ a.2 = b.2 then 0 else 1
end Go.Slu
namespace Go.Proofs.Ytcdmdpgfadopcaa
open Go.Slu Go.MapKept Go.RowKit Go.Sort

theorem beyond_any (n : Int) (w : World) : Calls Try.prog 86 #[.int .i64 n] w fun e w' => e = .returned (.bool (!okC n)) ∧ w = w' := by
  unfold okC
  by_cases h : -2147483647 ≤ n
  all_goals by_cases h2 : n ≤ 2147483647
  all_goals (go_enter Try.func86, Try.ntmps86; go_wp2; go_ret)
  all_goals refine ⟨?_, rfl⟩
  all_goals simp [h, h2]
  all_goals omega

theorem text_any (s : ByteArray) (w : World) : Calls Try.prog 78 #[.string s] w fun e w' => e = .returned (.agg #[.string s, .int .i64 0]) ∧ Grew w w' := by
  go_enter Try.func78, Try.ntmps78
  go_wp2
  exact bodyPost_ret (v := .agg #[.string s, .int .i64 0]) (by simp [results, Try.results78, go_sem]) rfl ⟨rfl, (Grew.refl _).alloc _⟩

theorem rising_any (s1 s2 : ByteArray) (n1 n2 : Int) (w : World) : Calls Try.prog 122 #[.agg #[.string s1, .int .i64 n1], .agg #[.string s2, .int .i64 n2]] w fun e w' => e = .returned (.int .i64 (risingF (s1.toList, n1) (s2.toList, n2))) ∧ Grew w w' := by
  unfold risingF
  generalize hr : (if Op.bytesLess s1.toList s2.toList = true ∨ (s1.toList = s2.toList ∧ n1 < n2) then (-1 : Int) else if s1.toList = s2.toList ∧ n1 = n2 then 0 else 1) = r
  have H := Lib.hid hr; clear hr
  go_enter Try.func122, Try.ntmps122
  go_wp2
  all_goals go_ret
  all_goals have h := H.out
  all_goals refine ⟨?_, ((Grew.refl _).alloc _).alloc _⟩
  all_goals simp_all
  all_goals (rw [if_neg (by omega)] at h; exact h)

/-- Order: its answer -/
def orderF (kind : Int) (s1 : Str) (n1 : Int) (s2 : Str) (n2 : Int) : Int :=
  if kind = 1 then risingF (s2.s.toList, n2) (s1.s.toList, n1)
  else if kind ≠ 0 ∧ s1.s.size ≠ s2.s.size then (s1.s.size : Int) - s2.s.size
  else risingF (s1.s.toList, n1) (s2.s.toList, n2)

theorem order_any (kind : Int) (s1 s2 : Str) (n1 n2 : Int) (w : World) : Calls Try.prog 83 #[.int .i64 kind, .agg #[.string s1.s, .int .i64 n1], .agg #[.string s2.s, .int .i64 n2]] w fun e w' => e = .returned (.int .i64 (orderF kind s1 n1 s2 n2)) ∧ Grew w w' := by
  have b1 := s1.ok
  have b2 := s2.ok
  unfold maxLen at b1 b2
  have hr1 := fun W => rising_any s1.s s2.s n1 n2 W
  have hr2 := fun W => rising_any s2.s s1.s n2 n1 W
  have H1 : Hid (∀ x, orderF 1 s1 n1 s2 n2 = x → risingF (s2.s.toList, n2) (s1.s.toList, n1) = x) := fun x h => by simpa [orderF] using h
  generalize ha : risingF (s1.s.toList, n1) (s2.s.toList, n2) = ra at hr1
  generalize hb : risingF (s2.s.toList, n2) (s1.s.toList, n1) = rb at hr2 H1
  have HA := Lib.hid ha; clear ha
  have HB := Lib.hid hb; clear hb
  by_cases h1 : kind = 1
  · subst h1
    have e1 : orderF 1 s1 n1 s2 n2 = rb := by simp [orderF, HB.out]
    rw [e1]
    clear H1
    go_enter Try.func83, Try.ntmps83
    go_wp2_with (go_at_call 122; refine (hr2 _).mono ?_; rintro e w1 ⟨rfl, hg1⟩)
    go_ret
    exact ⟨rfl, (((Grew.refl w).alloc _).alloc _).trans hg1⟩
  · clear H1
    have k1 : (kind == 1) = false := by simpa using h1
    by_cases h0 : kind = 0
    · subst h0
      have e1 : orderF 0 s1 n1 s2 n2 = ra := by simp [orderF, HA.out]
      rw [e1]
      go_enter Try.func83, Try.ntmps83
      go_wp2_with (go_at_call 122; refine (hr1 _).mono ?_; rintro e w1 ⟨rfl, hg1⟩)
      go_ret
      exact ⟨rfl, (((Grew.refl w).alloc _).alloc _).trans hg1⟩
    · have k0 : (kind != 0) = true := by simpa using h0
      by_cases hs : s1.s.size = s2.s.size
      · have ks : ((s1.s.size : Int) != s2.s.size) = false := by simp [hs]
        have e1 : orderF kind s1 n1 s2 n2 = ra := by simp [orderF, HA.out, h1, h0, hs]
        rw [e1]
        have HS := Lib.hid hs; clear hs
        go_enter Try.func83, Try.ntmps83
        go_wp2_with (go_at_call 122; refine (hr1 _).mono ?_; rintro e w1 ⟨rfl, hg1⟩)
        go_ret
        exact ⟨rfl, (((Grew.refl w).alloc _).alloc _).trans hg1⟩
      · have ks : ((s1.s.size : Int) != s2.s.size) = true := by simp; omega
        have e1 : orderF kind s1 n1 s2 n2 = (s1.s.size : Int) - s2.s.size := by simp [orderF, h1, h0, hs]
        rw [e1]
        go_enter Try.func83, Try.ntmps83
        go_wp2_with (go_at_call 122; refine (hr1 _).mono ?_; rintro e w1 ⟨rfl, hg1⟩)
        go_ret
        exact ⟨rfl, ((Grew.refl w).alloc _).alloc _⟩
end Go.Proofs.Ytcdmdpgfadopcaa
