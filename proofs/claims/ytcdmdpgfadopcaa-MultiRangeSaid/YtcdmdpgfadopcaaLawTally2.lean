/-
  sluicelaw04: known.
-/
import Derived.Test.YtcdmdpgfadopcaaLawTally1
namespace Go.Proofs.Ytcdmdpgfadopcaa
open Go.Slu Go.MapKept Go.RowKit Go.Sort

theorem addS_nil (x : Str) (n : Int) (w : World) :
    Calls Try.prog 36 #[.pointer none, .string x.s, .int .i64 n] w fun e w' => e = .returned (.int .i64 0) ∧ w = w' := by
  go_enter Try.func36, Try.ntmps36
  go_wp2
  go_ret
  exact ⟨rfl, rfl⟩

/-- the texts of the examples -/
abbrev sA : Str := ⟨⟨#[97]⟩, by simp [maxLen, ByteArray.size]⟩
abbrev sB : Str := ⟨⟨#[98]⟩, by simp [maxLen, ByteArray.size]⟩
abbrev sC : Str := ⟨⟨#[99]⟩, by simp [maxLen, ByteArray.size]⟩

variable {tb mb g : Nat}
def K1 (tb mb g : Nat) (M : List (Str × Int)) (r : Int) (w : World) (e : Ending) (w' : World) : Prop := e = .returned (.int .i64 r) ∧ TallyS w' tb mb g M ∧ Upd [mb] w w'
theorem kAdd (M : List (Str × Int)) (x : Str) (n : Int) (M' : List (Str × Int)) (r : Int) (hc : okC (cnt M x) = true) (hr : (if okC n && okC (cnt M x + n) then (0 : Int) else 12) = r) (hM : (if okC n && okC (cnt M x + n) then setM M x (cnt M x + n) else M) = M') (w : World) (h : TallyS w tb mb g M) :
    Calls Try.prog 36 #[.pointer (some ⟨tb, 0, none⟩), .string x.s, .int .i64 n] w (K1 tb mb g M' r w) := by
  subst hr hM
  exact addS tb mb g M x n w h hc

/-- the keys of the examples -/
def K2 (tb mb g : Nat) (M : List (Str × Int)) (l : List Str) (w : World) (e : Ending) (w' : World) : Prop := ∃ a c, e = .returned (.slice (some a) l.length c) ∧ OwnAt 9 1 eeS w' (some a) c l ∧ TallyS w' tb mb g M ∧ Upd [] w w'
theorem kKeys (w : World) (h : TallyS w tb mb 75 [(sB, 2), (sA, -1)]) :
    Calls Try.prog 34 #[.pointer (some ⟨tb, 0, none⟩)] w (K2 tb mb 75 [(sB, 2), (sA, -1)] [sA, sB] w) := by
  refine (keysS_any tb mb _ _ (cfO 0) (ordOk_of 0 (.inl rfl)) w h (by simp)).mono ?_
  rintro e w' ⟨a, c, l, rfl, ho, hp, hs, hf, hu⟩
  have hl : l = [sA, sB] := by
    have hlen := hp.length_eq
    match l, hlen with
    | [x, y], _ =>
      have hx := hp.mem_iff.1 (List.mem_cons_self (a := x) (l := [y]))
      have hy := hp.mem_iff.1 (List.mem_cons_of_mem x (List.mem_cons_self (a := y) (l := [])))
      have hxy := (List.pairwise_cons.1 hs).1 y (by simp)
      have hnd : [x, y].Nodup := hp.nodup_iff.2 (by decide)
      simp only [List.map_cons, List.map_nil, List.mem_cons, List.not_mem_nil, or_false] at hx hy
      rcases hx with rfl | rfl <;> rcases hy with rfl | rfl
      · simp at hnd
      · have : cfO 0 sA sB = -1 := by simp [cfO, orderF, risingF, ByteArray.toList_eq, Op.bytesLess]
        omega
      · rfl
      · simp at hnd
  subst hl
  rcases ho.cases with ⟨_, _, h3⟩ | ⟨g, rfl, _⟩
  · cases h3
  · exact ⟨_, c, rfl, ho, h.keep hu (by simp) (by simp), hu⟩

def K3 (tb mb g : Nat) (M : List (Str × Int)) (w : World) (e : Ending) (w' : World) : Prop := ∃ M', e = .returned (.int .i64 0) ∧ TallyS w' tb mb g M' ∧ (∀ x, cnt M' x = cnt M x + cnt M x) ∧ Upd [mb] w w'
theorem kJoin (w : World) (h : TallyS w tb mb g [(sB, 2), (sA, -1)]) :
    Calls Try.prog 41 #[.pointer (some ⟨tb, 0, none⟩), .pointer (some ⟨tb, 0, none⟩)] w (K3 tb mb g [(sB, 2), (sA, -1)] w) := by
  refine (joinS tb mb g tb mb g _ _ w h h (fun x => ?_)).mono ?_
  · by_cases h1 : x = sB
    · subst h1; decide
    · by_cases h2 : x = sA
      · subst h2; decide
      · have : cnt [(sB, (2 : Int)), (sA, -1)] x = 0 := by simp [cnt, lk, Ne.symm h1, Ne.symm h2]
        rw [this]; decide
  · intro e w' hj
    unfold JoinedS at hj
    rw [if_pos (by decide)] at hj
    obtain ⟨he, M', h1, h2, h3⟩ := hj
    exact ⟨M', he, h1, h2, h3⟩

theorem kGet (M : List (Str × Int)) (x : Str) (r : Int) (hr : cnt M x = r) (w : World) (h : TallyS w tb mb g M) :
    Calls Try.prog 42 #[.pointer (some ⟨tb, 0, none⟩), .string x.s] w fun e w' => e = .returned (.int .i64 r) ∧ w = w' := by
  subst hr
  exact getS tb mb g M x w h
theorem own_some {e : TypeId} {k : Nat} {α : Type} {ee : α → List Value} {w : World} {a : Addr} {c : Nat} {xs : List α} (h : OwnAt e k ee w (some a) c xs) : ∃ b, a = ⟨b, 0, none⟩ := by
  rcases h.cases with ⟨h1, _, _⟩ | ⟨b, h1, _⟩
  · cases h1
  · exact ⟨b, Option.some.inj h1⟩
theorem own_ne {κ ν : Type} {ek : κ → Value} {ev : ν → Value} {e : TypeId} {k : Nat} {α : Type} {ee : α → List Value} {w : World} {b m : Nat} {c : Nat} {xs : List α} {M : List (κ × ν)} (h : OwnAt e k ee w (some ⟨b, 0, none⟩) c xs) (hM : MapRep ek ev w m M) (he : b = m) : False := by
  subst he
  obtain ⟨cur, h3, _⟩ := h.block
  obtain ⟨es, cl, hb, _⟩ := hM
  rw [hb] at h3
  cases h3

set_option maxHeartbeats 1000000 in
set_option maxRecDepth 20000 in
theorem known_any (w : World) : Calls Try.prog 15 #[] w fun e w' => e = .returned (.bool true) ∧ Upd [] w w' := by
  have hm := Lib.hid (made_any 0 (.inl rfl) w)
  have a1 := Lib.hid (fun tb mb W h => kAdd (tb := tb) (mb := mb) (g := 75) [] sB 2 [(sB, 2)] 0 (by decide) (by decide) (by decide) W h)
  have a2 := Lib.hid (fun tb mb W h => kAdd (tb := tb) (mb := mb) (g := 75) [(sB, 2)] sA (-1) [(sB, 2), (sA, -1)] 0 (by decide) (by decide) (by decide) W h)
  have a3 := Lib.hid (fun tb mb W h => kAdd (tb := tb) (mb := mb) (g := 75) [(sB, 2), (sA, -1)] sC 0 [(sB, 2), (sA, -1)] 0 (by decide) (by decide) (by decide) W h)
  have a4 := Lib.hid (fun tb mb W (n : Int) (hn : n = 2147483647) h => kAdd (tb := tb) (mb := mb) (g := 75) [(sB, 2), (sA, -1)] sB n [(sB, 2), (sA, -1)] 12 (by decide) (by subst hn; decide) (by subst hn; decide) W h)
  have a5 := Lib.hid (fun tb mb W h => kGet (tb := tb) (mb := mb) (g := 75) [(sB, 2), (sA, -1)] sA (-1) (by decide) W h)
  go_enter Try.func15, Try.ntmps15
  go_wp2_with (first
    | (go_at_call 14; refine hm.out.mono ?_; rintro e w0 ⟨tb, mb, rfl, hT, htb, hmb, hU⟩; have S0 := Lib.hid hT; have HU := Lib.hid hU; have HB := Lib.hid (And.intro htb hmb); clear hT hU htb hmb)
    | (go_at_call_of 39 (Value.pointer none); refine (clearS_nil _).mono ?_; rintro e w1 ⟨rfl, rfl⟩)
    | (go_at_call_of 36 (Value.pointer none); refine (addS_nil sA 1 _).mono ?_; rintro e w1 ⟨rfl, rfl⟩)
    | (go_at_call_of 42 (Value.pointer none); refine (getS_nil sA _).mono ?_; rintro e w1 ⟨rfl, rfl⟩)
    | (go_at_call_of 40 (Value.pointer none); refine (lenS_nil _).mono ?_; rintro e w1 ⟨rfl, rfl⟩)
    | (go_at_call_of 34 (Value.pointer none); refine (keysS_nil _).mono ?_; rintro e w1 ⟨rfl, rfl⟩)
    | (go_at_call_of 41 (Value.pointer none); refine (joinS_nil _ _).mono ?_; rintro e w1 ⟨rfl, rfl⟩)
    | (go_at_call_of 35 (Value.pointer none); refine (copyS_nil _).mono ?_; rintro e w1 ⟨rfl, rfl⟩)
    | (go_at_call 36; refine (a1.out tb mb _ S0.out).mono ?_; rintro e w1 ⟨rfl, hT, hu⟩; have S1 := Lib.hid hT; replace HU := Lib.hid (HU.out.then hu (by simp; have := HB.out.2; omega)); clear S0 hT hu)
    | (go_at_call 36; refine (a2.out tb mb _ S1.out).mono ?_; rintro e w1 ⟨rfl, hT, hu⟩; have S2 := Lib.hid hT; replace HU := Lib.hid (HU.out.then hu (by simp; have := HB.out.2; omega)); clear S1 hT hu)
    | (go_at_call 36; refine (a3.out tb mb _ S2.out).mono ?_; rintro e w1 ⟨rfl, hT, hu⟩; have S3 := Lib.hid hT; replace HU := Lib.hid (HU.out.then hu (by simp; have := HB.out.2; omega)); clear S2 hT hu)
    | (go_at_call 40; refine (lenS tb mb _ _ _ S3.out).mono ?_; rintro e w1 ⟨rfl, rfl⟩)
    | (go_at_call 42; refine (a5.out tb mb _ S3.out).mono ?_; rintro e w1 ⟨rfl, rfl⟩)
    | (go_at_call 34; refine (kKeys _ S3.out).mono ?_; rintro e w1 ⟨al, cl, rfl, ho, hT, hu⟩; have S4 := Lib.hid hT; obtain ⟨gl, hgl⟩ := own_some ho; subst hgl; have hr0 := ho.rd elemS.len 0 sA rfl; have hr1 := ho.rd elemS.len 1 sB rfl; obtain ⟨_, _, hq, hc0⟩ := hr0; cases hq; obtain ⟨_, _, hq, hc1⟩ := hr1; cases hq; have l0 := hc0 0 _ rfl; have l1 := hc1 0 _ rfl; simp only [Nat.zero_mul, Nat.add_zero, Nat.one_mul, Nat.zero_add] at l0 l1; clear hc0 hc1; replace HU := Lib.hid (HU.out.then hu (by simp)); have HGL := Lib.hid (show gl ≠ mb from fun e => own_ne ho hT.map e); clear S3 hT hu ho))
  go_wp2_with (first
    | (go_at_call 36; refine (a4.out tb mb _ _ (by simp) S4.out).mono ?_; rintro e w1 ⟨rfl, hT, hu⟩; have S5 := Lib.hid hT; replace HU := Lib.hid (HU.out.then hu (by simp; have := HB.out.2; omega)); clear S4 hT hu)
    | (go_at_call 41; refine (kJoin _ S6.out).mono ?_; rintro e w1 ⟨M', rfl, hT, hcn, hu⟩; have S7 := Lib.hid hT; replace HU := Lib.hid (HU.out.then hu (by simp; have := HB.out.2; omega)); have h4 : cnt M' sB = 4 := (hcn sB).trans (by decide); clear S6 hT hu hcn)
    | (go_at_call 41; refine (joinS_none tb _).mono ?_; rintro e w1 ⟨rfl, rfl⟩; have S6 := S5; clear S5)
    | (go_at_call 42; refine (kGet M' sB 4 h4 _ S7.out).mono ?_; rintro e w1 ⟨rfl, rfl⟩))
  go_ret
  exact ⟨rfl, HU.out⟩
end Go.Proofs.Ytcdmdpgfadopcaa
