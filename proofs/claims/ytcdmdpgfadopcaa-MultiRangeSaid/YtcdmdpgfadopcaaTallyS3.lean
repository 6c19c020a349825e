/-
  The tally of texts: Keys.
-/
import Derived.Test.YtcdmdpgfadopcaaTallyS2
import Derived.Test.YtcdmdpgfadopcaaBaseSort
import Derived.Test.YtcdmdpgfadopcaaLays
namespace Go.Slu
open Go.MapKept Go.RowKit Go.Sort Go.Proofs
/-- WHAT IS ASKED OF A TALLY's ORDER FUNCTION. -/
structure OrdOk (P : Program) (g : Nat) {α : Type} (ev : α → Value) (cf : α → α → Int) : Prop where
  enters : ∀ args w, (callFunc g args).run P w = .ok (.enter g args) w
  pays : Pays P g ev cf
  swo : SWO (ltOf cf)
  tot : ∀ x y, ltOf cf x y = false → ltOf cf y x = false → x = y
end Go.Slu
namespace Go.Proofs.Ytcdmdpgfadopcaa
open Go.Slu Go.MapKept Go.RowKit Go.Sort

theorem info9 : (Try.prog.info? 9).map (fun i => (i.zero, i.size, i.bytes)) = some (some (.string .empty), 1, 16) := by kernel_rfl
abbrev eeS (x : Str) : List Value := [.string x.s]
theorem elemS : Elem Try.prog 72 9 1 16 eeS where
  ht := Try.underlying72
  info := by obtain ⟨i, h1, h2, h3, h4⟩ := info_parts info9; exact ⟨i, _, h1, h2, h3, h4, rfl⟩
  pos := by omega
  len _ := rfl
  one _ u hu := by simp [eeS] at hu; subst hu; rfl

/-- what Keys leaves -/
def KeysS (cf : Str → Str → Int) (M : List (Str × Int)) (w : World) (e : Ending) (w' : World) : Prop :=
  ∃ a c l, e = .returned (.slice a l.length c) ∧ OwnAt 9 1 eeS w' a c l ∧ l.Perm (M.map (·.1)) ∧ l.Pairwise (fun x y => 0 ≤ cf y x) ∧ (∀ b ∈ ablk a, w.heap.size ≤ b) ∧ Upd [] w w'

theorem iter_own {κ ν : Type} {ek : κ → Value} {ev : ν → Value} {w : World} {r b : Nat} {left : List (κ × ν)} {e : TypeId} {k : Nat} {α : Type} {ee : α → List Value} {a : Option Addr} {c : Nat} {xs : List α}
    (hi : Iter ek ev w r b left) (h : OwnAt e k ee w a c xs) : (∀ x ∈ ablk a, x ≠ r) ∧ (∀ x ∈ ablk a, x ≠ b) := by
  obtain ⟨_, es, clock, seen, since, c0, hb, _, hr, _⟩ := hi
  rcases h.cases with ⟨rfl, _, _⟩ | ⟨g, rfl, _⟩
  · simp [ablk]
  · obtain ⟨cur, h3, _⟩ := h.block
    refine ⟨fun x hx e => ?_, fun x hx e => ?_⟩ <;> simp [ablk] at hx <;> subst hx <;> subst e
    · rw [hr] at h3; cases h3
    · rw [hb] at h3; cases h3

set_option maxHeartbeats 1000000 in
theorem keysS_any (tb mb g : Nat) (M : List (Str × Int)) (cf : Str → Str → Int) (ho : OrdOk Try.prog g ekS cf) (w : World) (h : TallyS w tb mb g M) (hlen : M.length ≤ 1099511627776) :
    Calls Try.prog 34 #[.pointer (some ⟨tb, 0, none⟩)] w (KeysS cf M w) := by
  have c1 := h.c1
  have hM := h.map
  go_enter Try.func34, Try.ntmps34
  go_wp2_with (refine wpList_range_rep rfl _ 150 2 rfl Try.underlying150 hM rfl ?_; intro w1 hi1 hu1)
  go_frame
  have H := Lib.hid h; clear h
  go_loopg [3] M.length (fun k v wr => ∃ (left : List (Str × Int)) (done : List Str) (a : Option Addr) (c : Nat), left.length = k ∧ Iter ekS (Value.int .i64) wr w.heap.size mb left ∧ v = .slice a done.length c ∧ OwnAt 9 1 eeS wr a c done ∧
    (done ++ left.map (fun p => p.1)).Perm (M.map (fun p => p.1)) ∧ (∀ b ∈ ablk a, w.heap.size ≤ b) ∧ Upd [] w wr)
  case atStart => exact ⟨M, [], none, 0, rfl, hi1, rfl, OwnAt.nil _ _ _ _, by simp, by simp [ablk], hu1⟩
  case round =>
    obtain ⟨left, done, a, c, hk, hi, rfl, hown, hperm, hfr, hu⟩ := hrel
    have hne := iter_own hi hown
    have HP := Lib.hid hperm; clear hperm
    have HK := Lib.hid hk; clear hk
    have HF := Lib.hid hfr; clear hfr
    have HN := Lib.hid hne; clear hne
    go_wp2_with (refine wpList_next_rep rfl _ rfl hi rfl ?_ ?_)
    · intro hl
      have hT := H.out.keep hu (by simp) (by simp)
      have d0 := hT.c0
      have hsort := sort_own1 Try.sortString ekS (fun _ => rfl) cf ho.swo ho.tot g ho.enters ho.pays hown (by have := HP.out.length_eq; simp at this; omega)
      change Calls Try.prog 92 _ _ _ at hsort
      have HH := Lib.hid hT; clear hT
      go_wp2_with (go_at_call 92; refine hsort.mono ?_; rintro e w2 ⟨rfl, hw2⟩)
      have HW := Lib.hid hw2; clear hw2 hsort
      go_wp2
      go_ret
      obtain ⟨l, ho2, hp2, hs2, hu2⟩ := HW.out
      have hp := HP.out
      rw [hl] at hp
      simp only [List.map_nil, List.append_nil] at hp
      exact ⟨a, c, l, by rw [hp2.length_eq]; rfl, ho2, hp2.trans hp, hs2, HF.out, hu.then hu2 (fun i hi hlt => absurd (HF.out i hi) (by omega))⟩
    · intro x n l1 l2 w2 hl hi2 hat hu2
      have hx : ∀ b ∈ ablk a, b ∉ [w.heap.size] := fun b hb => by simpa using HN.out.1 b hb
      have hown2 := hown.keep hu2 hx
      have hlb : Hid (done.length + 1 ≤ 1099511627776) := by
        have h1 := HP.out.length_eq
        rw [hl] at h1
        simp at h1
        unfold Hid; omega
      have HL := Lib.hid hl; clear hl
      have HX := Lib.hid hx; clear hx
      have hlit : OwnAt 9 1 eeS (w2.alloc (.cells #[.string x.s] 9)) (some ⟨w2.heap.size, 0, none⟩) 1 [x] := OwnAt.lit (fun _ => rfl) w2 [x] (by simp [maxLen]) _ rfl
      go_wp2_with (first
        | (refine wpList_entry_rep rfl _ rfl hat rfl ?_)
        | (at_builtin; refine wpList_append_rep rfl _ _ 72 rfl elemS (hown2.keep ((Upd.refl [] _).alloc _) (by simp)) (hlit.rd (fun _ => rfl)) rfl rfl (by have := hlb.out; simp [maxLen]; omega) (by have := hlb.out; simp; omega) ?_; intro a' c' w3 ho3 hu3 hor hnn))
      have hl := HL.out
      have hk := HK.out
      have hp := HP.out
      go_roundg (l1 ++ l2).length
      case measure => rw [hl] at hk; simp at hk ⊢; omega
      case rel =>
        refine ⟨l1 ++ l2, done ++ [x], a', c', rfl, (hi2.keep ((Upd.refl [] _).alloc _) (by simp) (by simp)).keep hu3 (fun h => HN.out.1 _ h rfl) (fun h => HN.out.2 _ h rfl), by simp, ho3, ?_, ?_, ?_⟩
        · refine List.Perm.trans ?_ hp
          rw [hl]
          simp only [List.map_append, List.map_cons, List.append_assoc, List.singleton_append]
          exact List.Perm.append_left _ List.perm_middle.symm
        · rcases hor with rfl | rfl
          · exact HF.out
          · intro b hb
            simp [ablk] at hb
            have := hu.size
            have := hu2.size
            omega
        · exact ((hu.then hu2 (by simp)).alloc _).then hu3 (fun i hi hlt => absurd (HF.out i hi) (by omega))

theorem keysS_nil (w : World) :
    Calls Try.prog 34 #[.pointer none] w fun e w' => e = .returned (.slice none 0 0) ∧ w = w' := by
  go_enter Try.func34, Try.ntmps34
  go_wp2
  go_ret
  exact ⟨rfl, rfl⟩
end Go.Proofs.Ytcdmdpgfadopcaa
