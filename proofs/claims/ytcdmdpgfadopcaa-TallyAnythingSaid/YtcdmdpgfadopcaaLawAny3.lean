/-
  sluicelaw04: TallyAnything: the state.
-/
import Derived.Test.YtcdmdpgfadopcaaLawAny2
namespace Go.Proofs.Ytcdmdpgfadopcaa
open Go.Slu Go.MapKept Go.RowKit Go.Sort

/-- how much is added for a key, as it comes in -/
structure CountK where
  k : PairK
  n : Int
abbrev eeCt (c : CountK) : List Value := [.int .i64 c.k.a, .int .u8 (c.k.b0.toNat : Int), .int .u8 (c.k.b1.toNat : Int), .int .i64 c.n]

/-- the place i -/
def plc (i : Nat) : PlaceK := if h : i < 1000 then ⟨i, h⟩ else ⟨0, by omega⟩
theorem plc_n {i : Nat} (h : i < 1000) : (plc i).n = i := by simp [plc, h]
theorem plc_self (p : PlaceK) : plc p.n = p := by
  apply PlaceK.ext'
  rw [plc_n p.hn]
/-- the places below i -/
def plcs (i : Nat) : List PlaceK := (List.range i).map plc
theorem plcs_mem {i : Nat} (h : i ≤ 1000) (p : PlaceK) : p ∈ plcs i ↔ p.n < i := by
  unfold plcs
  rw [List.mem_map]
  constructor
  · rintro ⟨n, hn, rfl⟩
    have := List.mem_range.1 hn
    rw [plc_n (by omega)]; exact this
  · intro hp
    exact ⟨p.n, List.mem_range.2 hp, plc_self p⟩
theorem plcs_sorted {i : Nat} (h : i ≤ 1000) : (plcs i).Pairwise fun x y => x.n < y.n := by
  unfold plcs
  rw [List.pairwise_map]
  refine (List.pairwise_lt_range).imp_of_mem fun {a b} ha hb hab => ?_
  have := List.mem_range.1 ha
  have := List.mem_range.1 hb
  rw [plc_n (by omega), plc_n (by omega)]
  exact hab
theorem plcs_at {i j : Nat} (h : j < i) : (plcs i)[j]? = some (plc j) := by simp [plcs, h]

/-- pairs: a count more on both sides -/
theorem sameP_add {M : List (PairK × Int)} {L : List (RKey × Int)} (hL : LOk L) (hs : SameP M L) (k : PairK) (n : Int) :
    LOk (if okC n && okC (cnt M k + n) then put L (rkP k) (cnt M k + n) else L) ∧ SameP (if okC n && okC (cnt M k + n) then setM M k (cnt M k + n) else M) (if okC n && okC (cnt M k + n) then put L (rkP k) (cnt M k + n) else L) ∧ (if okC n && okC (cnt M k + n) then put L (rkP k) (cnt M k + n) else L).length ≤ L.length + 1 := by
  by_cases hok : (okC n && okC (cnt M k + n)) = true
  · rw [if_pos hok, if_pos hok]
    simp only [Bool.and_eq_true] at hok
    refine ⟨hL.put _ hok.2, ⟨fun q hq => ?_, fun x => ?_⟩, put_length_le _ _ _⟩
    · rw [put_keys_perm] at hq
      split at hq
      · exact hs.img q hq
      · rcases List.mem_append.1 hq with h1 | h1
        · exact hs.img q h1
        · simp at h1; exact ⟨k, h1⟩
    · rw [cnt_setM, cnt_put]
      by_cases hx : x = k
      · subst hx; simp
      · rw [if_neg hx, if_neg (fun e => hx (rkP_inj e))]; exact hs.eq x
  · rw [if_neg hok, if_neg hok]
    exact ⟨hL, hs, by omega⟩
theorem setM_lenK {κ : Type} [DecidableEq κ] (M : List (κ × Int)) (x : κ) (n : Int) : (setM M x n).length ≤ M.length + 1 := by
  unfold setM
  split
  · have := List.length_filter_le (fun p : κ × Int => decide (p.1 ≠ x)) M
    unfold del; omega
  · have := congrArg List.length (put_keys_perm M x n)
    simp only [List.length_map] at this
    rw [this]
    split <;> simp

/-- what there is: the pairs' tally and the document's; the places' tally -/
structure AnyS (B : Nat) (w : World) (tb mb rb tu mu : Nat) (F : List Nat) (i : Nat) (M : List (PairK × Int)) (L : List (RKey × Int)) (U : List (PlaceK × Int)) : Prop where
  t : TallyPk ekP2 w tb mb 20 M
  r : RefF F w rb 0 L
  l : LOk L
  s : SameP M L
  ml : M.length ≤ i
  ll : L.length ≤ i
  u : TallyMk ekM2 w tu mu 22 U
  uc : ∀ p : PlaceK, cnt U p = if p.n < i then (p.n : Int) + 1 else 0
  ul : U.length = i
  dF : tb ∉ F ∧ mb ∉ F ∧ tu ∉ F ∧ mu ∉ F
  dM : mb ≠ tu ∧ mb ≠ mu ∧ mu ≠ tb
  lo : B ≤ mb ∧ B ≤ mu ∧ ∀ b ∈ F, B ≤ b
theorem AnyS.keep {B : Nat} {w w' : World} {tb mb rb tu mu : Nat} {F : List Nat} {i : Nat} {M : List (PairK × Int)} {L : List (RKey × Int)} {U : List (PlaceK × Int)} (h : AnyS B w tb mb rb tu mu F i M L U) (hu : Upd [] w w') : AnyS B w' tb mb rb tu mu F i M L U :=
  ⟨h.t.keep hu (by simp) (by simp), h.r.keep hu (by simp), h.l, h.s, h.ml, h.ll, h.u.keep hu (by simp) (by simp), h.uc, h.ul, h.dF, h.dM, h.lo⟩
/-- the pairs' side has turned: 'Add' on both -/
theorem AnyS.pair {B : Nat} {w w2 w3 w4 : World} {tb mb rb tu mu : Nat} {F : List Nat} {i : Nat} {M : List (PairK × Int)} {L : List (RKey × Int)} {U : List (PlaceK × Int)} (h : AnyS B w tb mb rb tu mu F i M L U) (hB : B ≤ w.heap.size) {M' : List (PairK × Int)} {L' : List (RKey × Int)}
    (ht : TallyPk ekP2 w2 tb mb 20 M') (hu2 : Upd [mb] w w2) (hu3 : Upd [] w2 w3) (hst : StepR F w3 w4 rb 0 L') (hl : LOk L') (hs : SameP M' L') (hml : M'.length ≤ i + 1) (hll : L'.length ≤ i + 1) :
    ∃ F', UpdB B w w4 ∧ TallyPk ekP2 w4 tb mb 20 M' ∧ RefF F' w4 rb 0 L' ∧ TallyMk ekM2 w4 tu mu 22 U ∧ (tb ∉ F' ∧ mb ∉ F' ∧ tu ∉ F' ∧ mu ∉ F') ∧ (∀ b ∈ F', B ≤ b) ∧ LOk L' ∧ SameP M' L' ∧ M'.length ≤ i + 1 ∧ L'.length ≤ i + 1 := by
  obtain ⟨F', hr, hin, hu4⟩ := hst
  have s2 := hu2.size
  have s3 := hu3.size
  have lt := h.t.lt
  have lu := h.u.lt
  have hnew : ∀ b, b < w.heap.size → b ∉ F → b ∉ F' := fun b hb hF hF' => by
    rcases hin b hF' with h1 | h1
    · exact hF h1
    · omega
  have hB2 : UpdB B w w2 := ⟨_, fun b hb => by simp at hb; subst hb; exact h.lo.1, hu2⟩
  have hB3 : UpdB B w w3 := hB2.trans (Upd.updB hu3)
  have hB4 : UpdB B w w4 := hB3.trans ⟨F, h.lo.2.2, hu4⟩
  refine ⟨F', hB4, (ht.keep hu3 (by simp) (by simp)).keep hu4 h.dF.1 h.dF.2.1, hr, ((h.u.keep hu2 (by simpa using h.dM.1.symm) (by simpa using h.dM.2.1.symm)).keep hu3 (by simp) (by simp)).keep hu4 h.dF.2.2.1 h.dF.2.2.2, ⟨hnew _ lt.1 h.dF.1, hnew _ lt.2 h.dF.2.1, hnew _ lu.1 h.dF.2.2.1, hnew _ lu.2 h.dF.2.2.2⟩, fun b hb => ?_, hl, hs, hml, hll⟩
  rcases hin b hb with h1 | h1
  · exact h.lo.2.2 b h1
  · omega
/-- the places' side: one more -/
theorem places_more {U : List (PlaceK × Int)} {i : Nat} (hi : i < 300) (uc : ∀ p : PlaceK, cnt U p = if p.n < i then (p.n : Int) + 1 else 0) (ul : U.length = i) :
    (∀ p : PlaceK, cnt (setM U (plc i) ((i : Int) + 1)) p = if p.n < i + 1 then (p.n : Int) + 1 else 0) ∧ ((∀ p ∈ U, p.2 ≠ 0) → (U.map (·.1)).Nodup → (setM U (plc i) ((i : Int) + 1)).length = i + 1) := by
  have hp := plc_n (i := i) (by omega)
  refine ⟨fun p => ?_, fun hz hnd => ?_⟩
  · rw [cnt_setM, uc p]
    by_cases e : p = plc i
    · subst e; rw [if_pos rfl, if_pos (by omega), hp]
    · rw [if_neg e]
      have : p.n ≠ i := fun e2 => e (by rw [← e2, plc_self])
      by_cases h1 : p.n < i
      · rw [if_pos h1, if_pos (by omega)]
      · rw [if_neg h1, if_neg (by omega)]
  · unfold setM
    rw [if_neg (by omega)]
    have hno : plc i ∉ U.map (·.1) := fun hx => by
      obtain ⟨q, hq, he⟩ := List.mem_map.1 hx
      have h1 : cnt U q.1 = q.2 := by unfold cnt; rw [lk_of_mem hnd (v := q.2) hq]; rfl
      rw [uc, he, hp, if_neg (by omega)] at h1
      exact hz q hq h1.symm
    have := congrArg List.length (put_keys_perm U (plc i) ((i : Int) + 1))
    rw [if_neg hno] at this
    simp at this
    rw [this, ul]
theorem ekM2_plc {i : Nat} (h : i < 1000) : ekM2 (plc i) = .agg #[.int .i64 (i : Int), .int .u64 0, .int .u64 0, .int .u64 0] := by
  simp only [ekM2, plc_n h]
/-- one more place -/
def Placed (tu mu i : Nat) (w : World) (e : Ending) (w' : World) : Prop :=
  ∃ U', e = .returned (.int .i64 0) ∧ TallyMk ekM2 w' tu mu 22 U' ∧ (∀ p : PlaceK, cnt U' p = if p.n < i + 1 then (p.n : Int) + 1 else 0) ∧ U'.length = i + 1 ∧ Upd [mu] w w'
theorem u_add {tu mu : Nat} {U : List (PlaceK × Int)} {i : Nat} (hi : i ≤ 200) (uc : ∀ p : PlaceK, cnt U p = if p.n < i then (p.n : Int) + 1 else 0) (ul : U.length = i) (w : World) (h : TallyMk ekM2 w tu mu 22 U) :
    Calls Try.prog 29 #[.pointer (some ⟨tu, 0, none⟩), .agg #[.int .i64 (i : Int), .int .u64 0, .int .u64 0, .int .u64 0], .int .i64 ((i : Int) + 1)] w (Placed tu mu i w) := by
  have h0 : cnt U (plc i) = 0 := by rw [uc, plc_n (by omega), if_neg (by omega)]
  have h1 : okC ((i : Int) + 1) = true := okC_in (by omega) (by omega)
  rw [← ekM2_plc (by omega)]
  refine (addMk kvM tu mu _ U (plc i) ((i : Int) + 1) w h (by rw [h0]; rfl)).mono ?_
  rintro e w' ⟨rfl, ht, hu⟩
  rw [h0, Int.zero_add, h1] at ht
  have hp := places_more (by omega : i < 300) uc ul
  exact ⟨_, by rw [h0, Int.zero_add, h1]; rfl, ht, hp.1, hp.2 (fun p hp => (h.nz p hp).1) (MapRep.nodup kvM.ops h.map), hu⟩
theorem u_get {tu mu : Nat} {U : List (PlaceK × Int)} {i : Nat} (hi : i ≤ 200) (uc : ∀ p : PlaceK, cnt U p = if p.n < i + 1 then (p.n : Int) + 1 else 0) (w : World) (h : TallyMk ekM2 w tu mu 22 U) :
    Calls Try.prog 30 #[.pointer (some ⟨tu, 0, none⟩), .agg #[.int .i64 (i : Int), .int .u64 0, .int .u64 0, .int .u64 0]] w fun e w' => e = .returned (.int .i64 ((i : Int) + 1)) ∧ Upd [] w w' := by
  rw [← ekM2_plc (by omega)]
  have h0 : cnt U (plc i) = (i : Int) + 1 := by rw [uc, plc_n (by omega), if_pos (by omega)]
  rw [← h0]
  exact getMk kvM tu mu _ U (plc i) w h
theorem u_keys {tu mu : Nat} {U : List (PlaceK × Int)} {i : Nat} (hi : i ≤ 200) (uc : ∀ p : PlaceK, cnt U p = if p.n < i then (p.n : Int) + 1 else 0) (ul : U.length = i) (w : World) (h : TallyMk ekM2 w tu mu 22 U) :
    Calls Try.prog 32 #[.pointer (some ⟨tu, 0, none⟩)] w fun e w' => ∃ a c, e = .returned (.slice a i c) ∧ OwnAt 52 4 eeM2 w' a c (plcs i) ∧ Upd [] w w' := by
  refine (keysMk kvM elemM2 (fun _ => rfl) tu mu _ U cfM ordM w h (by omega)).mono ?_
  rintro e w' ⟨a, c, l, rfl, h1, h2, h3, _, h5⟩
  have hn := h2.nodup_iff.2 (MapRep.nodup kvM.ops h.map)
  obtain rfl : l = plcs i := by
    refine order_ext cfM_swo (fun x y h1 h2 => by simp only [ltOf, cfM, decide_eq_false_iff_not] at h1 h2; exact PlaceK.ext' (by omega)) h3 ((plcs_sorted (by omega)).imp (fun {x y} hxy => by simp only [cfM]; omega)) hn ((plcs_sorted (by omega)).imp (fun {x y} hxy e => by subst e; omega)) (fun p => ?_)
    rw [h2.mem_iff, tally_keysK kvM.ops h, uc, plcs_mem (by omega)]
    split
    · simp_all; omega
    · simp_all
  exact ⟨a, c, by simp [plcs], h1, h5⟩
end Go.Proofs.Ytcdmdpgfadopcaa
