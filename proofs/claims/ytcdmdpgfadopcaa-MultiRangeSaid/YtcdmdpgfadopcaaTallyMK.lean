/-
  The tally of keys that are structs (api.Stamp): Keys.
-/
import Derived.Test.YtcdmdpgfadopcaaTallyM
import Derived.Test.YtcdmdpgfadopcaaTallyS3
namespace Go.Proofs.Ytcdmdpgfadopcaa
open Go.Slu Go.MapKept Go.RowKit Go.Sort

section
variable {κ : Type} [DecidableEq κ] [Inhabited κ] {ek : κ → Value} {ee : κ → List Value}
theorem aggSMk (w : World) : (isAgg 52).run Try.prog w = .ok true w := by kernel_rfl
omit [DecidableEq κ] in
theorem sortMk (E : Elem Try.prog 68 52 4 32 ee) (hee : ∀ x, ek x = .agg (ee x).toArray) (cf : κ → κ → Int) {g : Nat} (ho : OrdOk Try.prog g ek cf) {w : World} {a : Option Addr} {c : Nat} {xs : List κ} (h : OwnAt 52 4 ee w a c xs) (hsz : xs.length < 4611686018427387904) :
    Calls Try.prog 91 #[.slice a xs.length c, .func (.func g) #[] #[]] w fun e' w' => e' = .returned (.tuple #[]) ∧
      ∃ l, OwnAt 52 4 ee w' a c l ∧ l.Perm xs ∧ l.Pairwise (fun x y => 0 ≤ cf y x) ∧ Upd (ablk a) w w' := by
  have hE : ∀ w, (Go.sizeOf 52).run Try.prog w = .ok 4 w := fun w => by
    have := elem_size E w
    rwa [elem_eq E] at this
  exact sort_ownK Try.sortApiStamp aggSMk hE ee E.len (by omega) E.one cf ho.swo ho.tot g #[] ho.enters (fun W x y => by
    have := ho.pays W x y
    rw [hee, hee] at this
    exact this) h hsz

/-- what Keys leaves -/
def KeysMk (ee : κ → List Value) (cf : κ → κ → Int) (M : List (κ × Int)) (w : World) (e : Ending) (w' : World) : Prop :=
  ∃ a c l, e = .returned (.slice a l.length c) ∧ OwnAt 52 4 ee w' a c l ∧ l.Perm (M.map (·.1)) ∧ l.Pairwise (fun x y => 0 ≤ cf y x) ∧ (∀ b ∈ ablk a, w.heap.size ≤ b) ∧ Upd [] w w'

set_option maxHeartbeats 1000000 in
theorem keysMk (KV : KVMk ek) (E : Elem Try.prog 68 52 4 32 ee) (hee : ∀ x, ek x = .agg (ee x).toArray) (tb mb g : Nat) (M : List (κ × Int)) (cf : κ → κ → Int) (ho : OrdOk Try.prog g ek cf) (w : World) (h : TallyMk ek w tb mb g M) (hlen : M.length ≤ 1099511627776) :
    Calls Try.prog 32 #[.pointer (some ⟨tb, 0, none⟩)] w (KeysMk ee cf M w) := by
  have c1 := h.c1
  have hM := h.map
  have HO := Lib.hid ho
  have HEE := Lib.hid hee
  clear ho hee
  go_enter Try.func32, Try.ntmps32
  go_wp2_with (refine wpList_range_rep rfl _ 139 2 rfl Try.underlying139 hM rfl ?_; intro w1 hi1 hu1)
  go_frame
  have H := Lib.hid h; clear h
  go_loopg [3, 4] M.length (fun k v v4 wr => ∃ (left : List (κ × Int)) (done : List κ) (a : Option Addr) (c : Nat), left.length = k ∧ Iter ek (Value.int .i64) wr w.heap.size mb left ∧ v = .slice a done.length c ∧ OwnAt 52 4 ee wr a c done ∧
    (done ++ left.map (fun p => p.1)).Perm (M.map (fun p => p.1)) ∧ (∀ b ∈ ablk a, w.heap.size ≤ b) ∧ Upd [] w wr)
  case atStart => exact ⟨M, [], none, 0, rfl, hi1, rfl, OwnAt.nil _ _ _ _, by simp, by simp [ablk], hu1⟩
  case round =>
    obtain ⟨left, done, a, c, hk, hi, rfl, hown, hperm, hfr, hu⟩ := hrel
    have hne := iter_own hi hown
    have HP := Lib.hid hperm; clear hperm
    have HK := Lib.hid hk; clear hk
    have HF := Lib.hid hfr; clear hfr
    have HN := Lib.hid hne; clear hne
    go_wp2_with (refine wpList_next_rep rfl _ rfl hi rfl ?_ ?_)
    · intro hl
      have hT := H.out.keep hu (by simp) (by simp)
      have d0 := hT.c0
      have hsort := sortMk E HEE.out cf HO.out hown (by have := HP.out.length_eq; simp at this; omega)
      have HH := Lib.hid hT; clear hT
      go_wp2_with (go_at_call 91; refine hsort.mono ?_; rintro e w2 ⟨rfl, hw2⟩)
      have HW := Lib.hid hw2; clear hw2 hsort
      go_wp2
      go_ret
      obtain ⟨l, ho2, hp2, hs2, hu2⟩ := HW.out
      have hp := HP.out
      rw [hl] at hp
      simp only [List.map_nil, List.append_nil] at hp
      exact ⟨a, c, l, by rw [hp2.length_eq]; rfl, ho2, hp2.trans hp, hs2, HF.out, hu.then hu2 (fun i hi hlt => absurd (HF.out i hi) (by omega))⟩
    · intro x n l1 l2 w2 hl hi2 hat hu2
      have hx : ∀ b ∈ ablk a, b ∉ [w.heap.size] := fun b hb => by simpa using HN.out.1 b hb
      have hown2 := Lib.hid (hown.keep hu2 hx)
      have hlb : Hid (done.length + 1 ≤ 1099511627776) := by
        have h1 := HP.out.length_eq
        rw [hl] at h1
        simp at h1
        unfold Hid; omega
      have HL := Lib.hid hl; clear hl
      have HX := Lib.hid hx; clear hx
      obtain ⟨n0, n1, n2, n3, hxv⟩ := KV.val x
      have hex : Hid (ee x = [.int .i64 n0, .int .u64 n1, .int .u64 n2, .int .u64 n3]) := by
        have h1 := (HEE.out x).symm.trans hxv
        simp only [Value.agg.injEq] at h1
        exact congrArg Array.toList h1
      have hlit := Lib.hid (fun W => OwnAt.lit (e := 52) E.len W [x] (by simp [maxLen]) #[.int .i64 n0, .int .u64 n1, .int .u64 n2, .int .u64 n3] (by simp [hex.out]))
      have HA := Lib.hid hat
      have HI2 := Lib.hid hi2
      have HXV := Lib.hid hxv
      clear hown hat hi hi2 hxv
      go_wp2_with (first
        | (refine wpList_entry_rep rfl _ rfl HA.out rfl ?_; rw [HXV.out])
        | (at_builtin; refine wpList_append_rep rfl _ _ 68 rfl E (xs := done) (ys := [x]) (aa := a) (c := c) (c2 := 1) ((hown2.out.keep ((Upd.refl [] w2).alloc _) (by simp)).keep ((Upd.refl [] _).alloc _) (by simp)) ((hlit.out _).rd E.len) (by simp [Act.eval]) (by simp [Act.eval]) (by have := hlb.out; simp [maxLen]; omega) (by have := hlb.out; simp; omega) ?_; intro a' c' w3 ho3 hu3 hor hnn))
      have hl := HL.out
      have hk := HK.out
      have hp := HP.out
      go_roundg (l1 ++ l2).length
      case measure => rw [hl] at hk; simp at hk ⊢; omega
      case rel =>
        refine ⟨l1 ++ l2, done ++ [x], a', c', rfl, ((HI2.out.keep ((Upd.refl [] _).alloc _) (by simp) (by simp)).keep ((Upd.refl [] _).alloc _) (by simp) (by simp)).keep hu3 (fun h => HN.out.1 _ h rfl) (fun h => HN.out.2 _ h rfl), by simp, ho3, ?_, ?_, ?_⟩
        · refine List.Perm.trans ?_ hp
          rw [hl]
          simp only [List.map_append, List.map_cons, List.append_assoc, List.singleton_append]
          exact List.Perm.append_left _ List.perm_middle.symm
        · rcases hor with rfl | rfl
          · exact HF.out
          · intro b hb
            simp [ablk] at hb
            have := hu.size
            have := hu2.size
            omega
        · exact (((hu.then hu2 (by simp)).alloc _).alloc _).then hu3 (fun i hi hlt => absurd (HF.out i hi) (by omega))
end
end Go.Proofs.Ytcdmdpgfadopcaa
