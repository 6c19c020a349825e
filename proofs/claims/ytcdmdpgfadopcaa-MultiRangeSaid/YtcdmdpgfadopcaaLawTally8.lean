/-
  sluicelaw04: TallyPlays.
-/
import Derived.Test.YtcdmdpgfadopcaaLawTally7
import Derived.Test.YtcdmdpgfadopcaaBaseRow
namespace Go.Proofs.Ytcdmdpgfadopcaa
open Go.Slu Go.MapKept Go.RowKit Go.Sort

/-- a step as it comes in -/
structure OpS where
  kd : Int
  iv : Int
  jv : Int
  key : Str
  n : Int
  bi : -9223372036854775808 ≤ iv ∧ iv ≤ 9223372036854775807
  bj : -9223372036854775808 ≤ jv ∧ jv ≤ 9223372036854775807
  bn : -9223372036854775808 ≤ n ∧ n ≤ 9223372036854775807
abbrev eeO (o : OpS) : List Value := [.int .i64 o.kd, .int .i64 o.iv, .int .i64 o.jv, .string o.key.s, .int .i64 o.n]

/-- the state while it is laid -/
structure Pre (B k : Nat) (w : World) (at_ : Option Addr) (ct : Nat) (ar : Option Addr) (cr : Nat) (D : Nat → Duo) : Prop where
  ok : ∀ i, i < k → (D i).Ok w []
  dis : ∀ i j, i < k → j < k → i ≠ j → ∀ b ∈ (D i).foot, b ∉ (D j).foot
  ts : OwnAt 25 1 eeP w at_ ct ((List.range k).map fun i => (D i).tb)
  rs : OwnAt 27 1 eeP w ar cr ((List.range k).map fun i => (D i).rb)
  fr : ∀ i, i < k → (∀ b ∈ ablk at_, b ∉ (D i).foot) ∧ (∀ b ∈ ablk ar, b ∉ (D i).foot)
  lo : (∀ b ∈ ablk at_, B ≤ b) ∧ (∀ b ∈ ablk ar, B ≤ b) ∧ ∀ i, i < k → ∀ b ∈ (D i).foot, B ≤ b
  ne : ∀ b ∈ ablk at_, b ∉ ablk ar

theorem Pre.st {B : Nat} {w : World} {at_ ar : Option Addr} {ct cr : Nat} {D : Nat → Duo} (h : Pre B 3 w at_ ct ar cr D) : ∃ gt gr, at_ = some ⟨gt, 0, none⟩ ∧ ar = some ⟨gr, 0, none⟩ ∧ St B w [] gt ct gr cr D := by
  rcases h.ts.cases with ⟨_, _, h3⟩ | ⟨gt, rfl, _⟩
  · simp at h3
  rcases h.rs.cases with ⟨_, _, h3⟩ | ⟨gr, rfl, _⟩
  · simp at h3
  exact ⟨gt, gr, rfl, rfl, h.ok, h.dis, h.ts, h.rs, fun i hi => ⟨(h.fr i hi).1 gt (by simp [ablk]), (h.fr i hi).2 gr (by simp [ablk])⟩, h.lo.1 gt (by simp [ablk]), h.lo.2.1 gr (by simp [ablk]), h.lo.2.2⟩

/-- one more -/
theorem Pre.more {B k : Nat} {w w2 w3 w4 : World} {at_ ar a3 a4 : Option Addr} {ct cr c3 c4 tb mb rb : Nat} {D : Nat → Duo} (h : Pre B k w at_ ct ar cr D) (hk : kOk k) (hB : B ≤ w.heap.size)
    (hu2 : Upd [] w w2) (ht : TallyS w2 tb mb (gOf k) []) (htb : w.heap.size ≤ tb) (hmb : w.heap.size ≤ mb) (hu3 : Upd (ablk at_) w2 w3) (hts : OwnAt 25 1 eeP w3 a3 c3 (((List.range k).map fun i => (D i).tb) ++ [tb])) (ha3 : a3 = at_ ∨ ∃ g, a3 = some ⟨g, 0, none⟩ ∧ w2.heap.size ≤ g)
    (hrb : w3.heap.size ≤ rb) (hu4 : Upd (ablk ar) w3 w4) (hr : w4.heap[rb]? = some (.cells #[.int .i64 k, .slice none 0 0, .slice none 0 0] 31 (0, 0))) (hrs : OwnAt 27 1 eeP w4 a4 c4 (((List.range k).map fun i => (D i).rb) ++ [rb])) (ha4 : a4 = ar ∨ ∃ g, a4 = some ⟨g, 0, none⟩ ∧ rb < g) :
    Pre B (k + 1) w4 a3 c3 a4 c4 (fun n => if n = k then ⟨tb, mb, [rb], rb, k, [], []⟩ else D n) := by
  have s2 := hu2.size
  have s3 := hu3.size
  have s4 := hu4.size
  have t2 := ht.lt
  have hatl := h.ts.lt
  have harl := h.rs.lt
  have hu : Upd (ablk at_ ++ ablk ar) w w4 := ((((Upd.refl _ w).then hu2 (by simp)).then hu3 (fun i hi _ => List.mem_append_left _ hi))).then hu4 (fun i hi _ => List.mem_append_right _ hi)
  have hold : ∀ n, n < k → ∀ b ∈ (D n).foot, b ∉ ablk at_ ++ ablk ar := fun n hn b hb hx => by
    rcases List.mem_append.1 hx with h1 | h1
    · exact (h.fr n hn).1 b h1 hb
    · exact (h.fr n hn).2 b h1 hb
  have hrange : ∀ (f g : Duo → Nat) (y : Nat), (List.range (k + 1)).map (fun i => f (if i = k then (⟨tb, mb, [rb], rb, k, [], []⟩ : Duo) else D i)) = ((List.range k).map fun i => f (D i)) ++ [f ⟨tb, mb, [rb], rb, k, [], []⟩] := fun f g y => by
    rw [List.range_succ, List.map_append]
    congr 1
    · apply List.map_congr_left
      intro i hi
      have : i ≠ k := by have := List.mem_range.1 hi; omega
      rw [if_neg this]
    · simp
  have hn3 : ∀ b ∈ ablk a3, b ∈ ablk at_ ∨ w2.heap.size ≤ b := fun b hb => by
    rcases ha3 with rfl | ⟨g, rfl, hg⟩
    · exact .inl hb
    · simp [ablk] at hb; subst hb; exact .inr hg
  have hl3 := hts.lt
  have hn4 : ∀ b ∈ ablk a4, b ∈ ablk ar ∨ rb < b := fun b hb => by
    rcases ha4 with rfl | ⟨g, rfl, hg⟩
    · exact .inl hb
    · simp [ablk] at hb; subst hb; exact .inr hg
  have hfoot : ∀ b ∈ (⟨tb, mb, [rb], rb, k, [], []⟩ : Duo).foot, b = tb ∨ b = mb ∨ b = rb := fun b hb => by simpa [Duo.foot] using hb
  have hnew : ∀ b ∈ (⟨tb, mb, [rb], rb, k, [], []⟩ : Duo).foot, w.heap.size ≤ b := fun b hb => by
    rcases hfoot b hb with rfl | rfl | rfl <;> omega
  refine ⟨fun n hn => ?_, fun n m hn hm hne b hb => ?_, ?_, ?_, fun n hn => ?_, ⟨fun b hb => ?_, fun b hb => ?_, fun n hn b hb => ?_⟩, fun b hb hb2 => ?_⟩
  · by_cases e : n = k
    · simp only [e, if_true]
      refine ⟨(ht.keep hu3 (fun hx => by have := hatl _ hx; omega) (fun hx => by have := hatl _ hx; omega)).keep hu4 (fun hx => by have := harl _ hx; omega) (fun hx => by have := harl _ hx; omega), ⟨none, 0, none, 0, ⟨hr, OwnAt.nil _ _ _ _, OwnAt.nil _ _ _ _⟩, fun b => by simp [ablk]⟩, ⟨by simp, by simp⟩, ⟨by simp, fun x => rfl⟩, hk, by simp⟩
    · simp only [e, if_false]
      exact (h.ok n (by omega)).keep hu (hold n (by omega))
  · by_cases e : n = k
    · subst e
      have e2 : m ≠ n := Ne.symm hne
      simp only [if_true, e2, if_false] at hb ⊢
      intro hb2
      have := (h.ok m (by omega)).lt b hb2
      have := hnew b hb
      omega
    · simp only [e, if_false] at hb
      by_cases e2 : m = k
      · simp only [e2, if_true]
        intro hb2
        have := (h.ok n (by omega)).lt b hb
        have := hnew b hb2
        omega
      · simp only [e2, if_false]; exact h.dis n m (by omega) (by omega) hne b hb
  · rw [hrange Duo.tb Duo.tb 0]
    exact hts.keep hu4 (fun b hb hx => by
      rcases hn3 b hb with h1 | h1
      · exact h.ne b h1 hx
      · have := harl b hx; omega)
  · rw [hrange Duo.rb Duo.rb 0]; exact hrs
  · by_cases e : n = k
    · simp only [e, if_true]
      refine ⟨fun b hb hx => ?_, fun b hb hx => ?_⟩
      · have h5 := hl3 b hb
        rcases hn3 b hb with h1 | h1
        · have := hatl b h1; have := hnew b hx; omega
        · rcases hfoot b hx with rfl | rfl | rfl <;> omega
      · rcases hn4 b hb with h1 | h1
        · have := harl b h1; have := hnew b hx; omega
        · rcases hfoot b hx with rfl | rfl | rfl <;> omega
    · simp only [e, if_false]
      refine ⟨fun b hb hx => ?_, fun b hb hx => ?_⟩
      · rcases hn3 b hb with h1 | h1
        · exact (h.fr n (by omega)).1 b h1 hx
        · have := (h.ok n (by omega)).lt b hx; omega
      · rcases hn4 b hb with h1 | h1
        · exact (h.fr n (by omega)).2 b h1 hx
        · have := (h.ok n (by omega)).lt b hx; omega
  · rcases hn3 b hb with h1 | h1
    · exact h.lo.1 b h1
    · omega
  · rcases hn4 b hb with h1 | h1
    · exact h.lo.2.1 b h1
    · omega
  · by_cases e : n = k
    · simp only [e, if_true] at hb; have := hnew b hb; omega
    · simp only [e, if_false] at hb; exact h.lo.2.2 n (by omega) b hb
  · have h5 := hl3 b hb
    rcases hn3 b hb with h1 | h1
    · rcases hn4 b hb2 with h2 | h2
      · exact h.ne b h1 h2
      · have := hatl b h1; omega
    · rcases hn4 b hb2 with h2 | h2
      · have := harl b h2; omega
      · omega
end Go.Proofs.Ytcdmdpgfadopcaa
