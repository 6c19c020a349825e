/-
  sluicelaw04: same; four tallies side by side; sums of what is added.
-/
import Derived.Test.YtcdmdpgfadopcaaLawRow
namespace Go.Slu
/-- the sum of what a list adds to a key -/
def tot {κ : Type} [DecidableEq κ] (l : List (κ × Int)) (x : κ) : Int := (l.map fun p => if p.1 = x then p.2 else 0).sum
section
variable {κ : Type} [DecidableEq κ]
theorem tot_nil (x : κ) : tot ([] : List (κ × Int)) x = 0 := rfl
theorem tot_append (l m : List (κ × Int)) (x : κ) : tot (l ++ m) x = tot l x + tot m x := by simp [tot, List.sum_append]
theorem tot_one (p : κ × Int) (x : κ) : tot [p] x = if p.1 = x then p.2 else 0 := by simp [tot]
theorem tot_cons (p : κ × Int) (l : List (κ × Int)) (x : κ) : tot (p :: l) x = (if p.1 = x then p.2 else 0) + tot l x := by simp [tot]
theorem tot_reverse (l : List (κ × Int)) (x : κ) : tot l.reverse x = tot l x := by
  induction l with
  | nil => rfl
  | cons p r ih => rw [List.reverse_cons, tot_append, tot_one, tot_cons p r, ih]; omega
theorem tot_take {l : List (κ × Int)} {i : Nat} {p : κ × Int} (h : l[i]? = some p) (x : κ) : tot (l.take (i + 1)) x = tot (l.take i) x + if p.1 = x then p.2 else 0 := by
  rw [List.take_add_one, h, Option.toList_some, tot_append, tot_one]
theorem tot_bound {b : Int} : ∀ {l : List (κ × Int)}, (∀ p ∈ l, -b ≤ p.2 ∧ p.2 ≤ b) → 0 ≤ b → ∀ x, -(b * l.length) ≤ tot l x ∧ tot l x ≤ b * l.length
  | [], _, _, x => by simp [tot_nil]
  | p :: r, h, hb, x => by
    have h1 := tot_bound (l := r) (fun q hq => h q (by simp [hq])) hb x
    have h2 := h p (by simp)
    rw [tot_cons, List.length_cons, show b * ((r.length + 1 : Nat) : Int) = b * (r.length : Int) + b by rw [Int.natCast_add, Int.mul_add]; simp]
    split <;> omega
theorem tot_no {l : List (κ × Int)} {x : κ} (h : x ∉ l.map (·.1)) : tot l x = 0 := by
  induction l with
  | nil => rfl
  | cons p r ih =>
    simp only [List.map_cons, List.mem_cons, not_or] at h
    rw [tot_cons, if_neg (fun e => h.1 e.symm), ih h.2]; rfl
end
/-- lists in one order with the same members, each once, are the same -/
theorem order_ext {α : Type} {cf : α → α → Int} (hO : Go.Sort.SWO (Go.Proofs.ltOf cf)) (hT : ∀ x y, Go.Proofs.ltOf cf x y = false → Go.Proofs.ltOf cf y x = false → x = y) {l m : List α} (hl : l.Pairwise (fun x y => 0 ≤ cf y x)) (hm : m.Pairwise (fun x y => 0 ≤ cf y x)) (nl : l.Nodup) (nm : m.Nodup) (h : ∀ x, x ∈ l ↔ x ∈ m) : l = m := by
  have key : ∀ {l : List α}, l.Pairwise (fun x y => 0 ≤ cf y x) → l.Nodup → l.Pairwise (fun x y => Go.Proofs.ltOf cf x y = true) := fun {l} h n => (h.and n).imp fun {a b} hab => by
    cases hlt : Go.Proofs.ltOf cf a b with
    | true => rfl
    | false =>
      have : Go.Proofs.ltOf cf b a = false := by simpa [Go.Proofs.ltOf] using hab.1
      exact absurd (hT a b hlt this) hab.2
  refine sorted_ext (R := fun x y => Go.Proofs.ltOf cf x y = true) (fun x hx => ?_) (fun x y z a b => hO.trans x y z a b) (key hl nl) (key hm nm) h
  have := hO.irrefl x
  rw [this] at hx; cases hx
end Go.Slu
namespace Go.Proofs.Ytcdmdpgfadopcaa
open Go.Slu Go.MapKept Go.RowKit Go.Sort

set_option maxHeartbeats 1000000 in
theorem same_any (w : World) (a b : Option Addr) (ca cb : Nat) (l : List Str) (hlen : l.length ≤ 1099511627776) (ha : Rd 1 eeS w a l) (hb : Rd 1 eeS w b l) :
    Calls Try.prog 37 #[.slice a l.length ca, .slice b l.length cb] w fun e w' => e = .returned (.bool true) ∧ Upd [] w w' := by
  have HA := Lib.hid ha
  have HB := Lib.hid hb
  clear ha hb
  go_enter Try.func37, Try.ntmps37
  go_wp2_with fail
  go_loopg [5, 13] l.length (fun m v5 v13 wr => ∃ i : Nat, m + i = l.length ∧ v13 = .int .i64 i ∧ Upd [] w wr)
  case atStart => exact ⟨0, rfl, rfl, Upd.refl _ _⟩
  case round =>
    obtain ⟨i, hmi, rfl, hu⟩ := hrel
    have HM := Lib.hid hmi
    clear hmi
    by_cases hi : i < l.length
    · have hii : (i : Int) < l.length := by omega
      obtain ⟨x, hx⟩ : ∃ x, l[i]? = some x := ⟨l[i], List.getElem?_eq_getElem hi⟩
      obtain ⟨g1, o1, rfl, hc⟩ := HA.out i x hx
      have y0 := hu.cellS (hc 0 _ rfl) (by simp)
      clear hc
      obtain ⟨g2, o2, rfl, hc⟩ := HB.out i x hx
      have z0 := hu.cellS (hc 0 _ rfl) (by simp)
      clear hc hx
      simp only [Nat.add_zero, Nat.mul_one] at y0 z0
      go_wp2_with fail
      go_quiet (fail)
      go_wp2_with fail
      have hm := HM.out
      go_roundg (l.length - (i + 1))
      case measure => omega
      case rel => exact ⟨i + 1, by omega, rfl, hu.drewN _⟩
    · have hii : ¬ (i : Int) < l.length := by omega
      go_wp2_with fail
      go_ret
      exact ⟨rfl, hu⟩

/-- the order of the tally number k of four -/
def kd4 (k : Nat) : Int := if k = 1 then 1 else if k = 3 then 2 else 0
theorem kd4_ok (k : Nat) : kOk (kd4 k) := by
  unfold kd4 kOk
  split
  · exact .inr (.inl rfl)
  · split
    · exact .inr (.inr rfl)
    · exact .inl rfl
/-- FOUR TALLIES, none of which meets another; C: what each counts; ks: all their keys -/
structure Quad (B : Nat) (w : World) (tb mb : Nat → Nat) (ks : List Str) (C : Nat → Str → Int) : Prop where
  t : ∀ k, k < 4 → ∃ M, TallyS w (tb k) (mb k) (gOf (kd4 k)) M ∧ ∀ x, cnt M x = C k x
  dis : ∀ i j, i < 4 → j < 4 → i ≠ j → mb i ≠ tb j ∧ mb i ≠ mb j
  lo : ∀ k, k < 4 → B ≤ mb k
  fin : ∀ k x, k < 4 → C k x ≠ 0 → x ∈ ks
  len : ks.length ≤ 1000000
theorem Quad.keep {B : Nat} {w w' : World} {tb mb : Nat → Nat} {ks : List Str} {C : Nat → Str → Int} {X : List Nat} (h : Quad B w tb mb ks C) (hu : Upd X w w') (hx : ∀ k, k < 4 → tb k ∉ X ∧ mb k ∉ X) : Quad B w' tb mb ks C :=
  ⟨fun k hk => let ⟨M, h1, h2⟩ := h.t k hk; ⟨M, h1.keep hu (hx k hk).1 (hx k hk).2, h2⟩, h.dis, h.lo, h.fin, h.len⟩
/-- one of the four has turned -/
theorem Quad.turn {B : Nat} {w w' : World} {tb mb : Nat → Nat} {ks : List Str} {C : Nat → Str → Int} (h : Quad B w tb mb ks C) {k : Nat} (hk : k < 4) {M' : List (Str × Int)} (ht : TallyS w' (tb k) (mb k) (gOf (kd4 k)) M') (hu : Upd [mb k] w w') (C' : Nat → Str → Int) (hC : ∀ x, cnt M' x = C' k x) (hC' : ∀ j x, j < 4 → j ≠ k → C' j x = C j x) (hf : ∀ x, C' k x ≠ 0 → x ∈ ks) : Quad B w' tb mb ks C' := by
  refine ⟨fun j hj => ?_, h.dis, h.lo, fun j x hj hx => ?_, h.len⟩
  · by_cases e : j = k
    · subst e; exact ⟨M', ht, hC⟩
    · obtain ⟨M, h1, h2⟩ := h.t j hj
      have hd := h.dis k j hk hj (fun h => e h.symm)
      exact ⟨M, h1.keep hu (by simpa using hd.1.symm) (by simpa using hd.2.symm), fun x => (h2 x).trans (hC' j x hj e).symm⟩
  · by_cases e : j = k
    · subst e; exact hf x hx
    · rw [hC' j x hj e] at hx; exact h.fin j x hj hx

def addC (C : Nat → Str → Int) (k : Nat) (x : Str) (n : Int) : Nat → Str → Int := fun j y => C j y + if j = k then (if y = x then n else 0) else 0
theorem qAdd {B : Nat} {w : World} {tb mb : Nat → Nat} {ks : List Str} {C : Nat → Str → Int} (h : Quad B w tb mb ks C) (k : Nat) (hk : k < 4) (x : Str) (hx : x ∈ ks) (n : Int) (h1 : okC n = true) (h2 : okC (C k x) = true) (h3 : okC (C k x + n) = true) :
    Calls Try.prog 36 #[.pointer (some ⟨tb k, 0, none⟩), .string x.s, .int .i64 n] w fun e w' => e = .returned (.int .i64 0) ∧ Quad B w' tb mb ks (addC C k x n) ∧ Upd [mb k] w w' := by
  obtain ⟨M, ht, hc⟩ := h.t k hk
  refine (addS _ _ _ M x n w ht (by rw [hc]; exact h2)).mono ?_
  rintro e w' ⟨rfl, ht', hu⟩
  rw [hc, h1, h3] at ht'
  refine ⟨by rw [hc, h1, h3]; rfl, h.turn hk ht' hu _ (fun y => ?_) (fun j y _ hj => by simp [addC, hj]) (fun y hy => ?_), hu⟩
  · simp only [Bool.and_self, if_true, cnt_setM, addC, hc]
    split
    · rename_i e; rw [e]
    · simp
  · by_cases e : y = x
    · subst e; exact hx
    · simp [addC, e] at hy; exact h.fin k y hk hy

/-- what Keys tells -/
def KeysQ (k : Nat) (C : Str → Int) (w : World) (e : Ending) (w' : World) : Prop :=
  ∃ a c l, e = .returned (.slice a l.length c) ∧ OwnAt 9 1 eeS w' a c l ∧ l.Pairwise (fun x y => 0 ≤ cfO (kd4 k) y x) ∧ l.Nodup ∧ (∀ x, x ∈ l ↔ C x ≠ 0) ∧ (∀ b ∈ ablk a, w.heap.size ≤ b) ∧ Upd [] w w'
theorem qLenM {B : Nat} {w : World} {tb mb : Nat → Nat} {ks : List Str} {C : Nat → Str → Int} (h : Quad B w tb mb ks C) {k : Nat} (hk : k < 4) {M : List (Str × Int)} (ht : TallyS w (tb k) (mb k) (gOf (kd4 k)) M) (hc : ∀ x, cnt M x = C k x) : M.length ≤ 1000000 := by
  have h1 := nodup_len (MapRep.nodup keysS ht.map) (U := ks) (fun x hx => h.fin k x hk (by rw [← hc]; exact (tally_keys ht x).1 hx))
  have := h.len
  simp at h1
  omega
theorem qKeys {B : Nat} {w : World} {tb mb : Nat → Nat} {ks : List Str} {C : Nat → Str → Int} (h : Quad B w tb mb ks C) (k : Nat) (hk : k < 4) :
    Calls Try.prog 34 #[.pointer (some ⟨tb k, 0, none⟩)] w (KeysQ k (C k) w) := by
  obtain ⟨M, ht, hc⟩ := h.t k hk
  refine (keysS_any _ _ _ M _ (ordOk_of (kd4 k) (kd4_ok k)) w ht (by have := qLenM h hk ht hc; omega)).mono ?_
  rintro e w' ⟨a, c, l, rfl, h1, h2, h3, h4, h5⟩
  exact ⟨a, c, l, rfl, h1, h3, h2.nodup_iff.2 (MapRep.nodup keysS ht.map), fun x => by rw [h2.mem_iff, tally_keys ht, hc], h4, h5⟩
theorem qLen {B : Nat} {w : World} {tb mb : Nat → Nat} {ks : List Str} {C : Nat → Str → Int} (h : Quad B w tb mb ks C) (k : Nat) (hk : k < 4) (l : List Str) (hn : l.Nodup) (hm : ∀ x, x ∈ l ↔ C k x ≠ 0) :
    Calls Try.prog 40 #[.pointer (some ⟨tb k, 0, none⟩)] w fun e w' => e = .returned (.int .i64 l.length) ∧ w = w' := by
  obtain ⟨M, ht, hc⟩ := h.t k hk
  have hl : l.length = M.length := by
    have := ((List.perm_ext_iff_of_nodup hn (MapRep.nodup keysS ht.map)).2 (fun x => by rw [hm, tally_keys ht, hc])).length_eq
    simpa using this
  rw [hl]
  exact lenS _ _ _ M w ht
theorem qGet {B : Nat} {w : World} {tb mb : Nat → Nat} {ks : List Str} {C : Nat → Str → Int} (h : Quad B w tb mb ks C) (k : Nat) (hk : k < 4) (x : Str) :
    Calls Try.prog 42 #[.pointer (some ⟨tb k, 0, none⟩), .string x.s] w fun e w' => e = .returned (.int .i64 (C k x)) ∧ w = w' := by
  obtain ⟨M, ht, hc⟩ := h.t k hk
  rw [← hc]
  exact getS _ _ _ M x w ht
theorem qJoin {B : Nat} {w : World} {tb mb : Nat → Nat} {ks : List Str} {C : Nat → Str → Int} (h : Quad B w tb mb ks C) (i j : Nat) (hi : i < 4) (hj : j < 4) (h1 : ∀ x, okC (C i x) = true) (h2 : ∀ x, okC (C i x + C j x) = true) :
    Calls Try.prog 41 #[.pointer (some ⟨tb i, 0, none⟩), .pointer (some ⟨tb j, 0, none⟩)] w fun e w' => e = .returned (.int .i64 0) ∧ Quad B w' tb mb ks (fun k x => if k = i then C i x + C j x else C k x) ∧ Upd [mb i] w w' := by
  obtain ⟨M, ht, hc⟩ := h.t i hi
  obtain ⟨M2, ht2, hc2⟩ := h.t j hj
  refine (joinS _ _ _ _ _ _ M M2 w ht ht2 (fun x => by rw [hc]; exact h1 x)).mono ?_
  intro e w' hJ
  unfold JoinedS at hJ
  rw [if_pos (fun p hp => by
    have : cnt M2 p.1 = p.2 := by unfold cnt; rw [lk_of_mem (MapRep.nodup keysS ht2.map) (v := p.2) hp]; rfl
    rw [← this, hc, hc2]; exact h2 _)] at hJ
  obtain ⟨he, M', h3, h4, h5⟩ := hJ
  refine ⟨he, h.turn hi h3 h5 _ (fun x => by rw [h4, hc, hc2, if_pos rfl]) (fun k x _ hk => by rw [if_neg hk]) (fun x hx => ?_), h5⟩
  rw [if_pos rfl] at hx
  by_cases e : C i x = 0
  · exact h.fin j x hj (by omega)
  · exact h.fin i x hi e
end Go.Proofs.Ytcdmdpgfadopcaa
