/-
  sluicelaw04: TallyAdds: the counts, in plain; what is at hand ahead of the walk.
-/
import Derived.Test.YtcdmdpgfadopcaaLawTally11
namespace Go.Slu
open Go.MapKept Go.RowKit Go.ChangeShapes Go.WideShapes
theorem open_cap {H : Type} {enc : TypeId × Value → H} {P : Program} {w : World} {base : Nat} {spare : Nat → Bool} {held : Bool} {t e : TypeId} {a : Option Addr} {n c : Nat} {d : DataW H} {ps : List MemPlace} (ht : P.underlying t = some (.slice e)) (h : DataW.Trod enc P w base spare held t (.slice a n c) d ps) : n ≤ c := by
  obtain ⟨fuel, hf⟩ := h
  rcases Deep.open_slice ht hf with ⟨hcs, _⟩ | ⟨a', len', cap', m, n', D, Pl, hcs, _, hlc, _⟩
  · simp [Value.cells] at hcs; omega
  · simp [Value.cells] at hcs; omega
end Go.Slu
namespace Go.Proofs.Ytcdmdpgfadopcaa
open Go.Slu Go.MapKept Go.RowKit Go.Sort

theorem info34 : (Try.prog.info? 34).map (fun i => (i.zero, i.size, i.bytes)) = some (some (.agg #[.int .i64 0, .int .i64 0, .int .i64 0, .string .empty, .int .i64 0]), 5, 48) := by kernel_rfl
theorem elemO : Elem Try.prog 22 34 5 48 eeO where
  ht := Try.underlying22
  info := by obtain ⟨i, h1, h2, h3, h4⟩ := info_parts info34; exact ⟨i, _, h1, h2, h3, h4, rfl⟩
  pos := by omega
  len _ := rfl
  one _ u hu := by simp [eeO] at hu; rcases hu with rfl | rfl | rfl | rfl | rfl <;> rfl

/-- what a step adds -/
def prOf (o : OpS) : Str × Int := (o.key, o.n.tmod 1000)
theorem prOf_in (o : OpS) : -999 ≤ (prOf o).2 ∧ (prOf o).2 ≤ 999 := by
  have t1 : -1000 < o.n.tmod 1000 := Int.lt_tmod_of_pos o.n (by omega)
  have t2 : o.n.tmod 1000 < 1000 := Int.tmod_lt_of_pos o.n (by omega)
  exact ⟨by simp only [prOf]; omega, by simp only [prOf]; omega⟩
theorem prs_in (ys : List OpS) : ∀ p ∈ ys.map prOf, -999 ≤ p.2 ∧ p.2 ≤ 999 := fun p hp => by
  obtain ⟨o, _, rfl⟩ := List.mem_map.1 hp
  exact prOf_in o
theorem tot_take_in {ys : List OpS} (hy : ys.length ≤ 60) (i : Nat) (x : Str) : -59940 ≤ tot ((ys.map prOf).take i) x ∧ tot ((ys.map prOf).take i) x ≤ 59940 := by
  have h := tot_bound (b := 999) (l := (ys.map prOf).take i) (fun p hp => prs_in ys p (List.mem_of_mem_take hp)) (by omega) x
  have : ((ys.map prOf).take i).length ≤ 60 := by simp; omega
  omega
theorem tot_take_rin {ys : List OpS} (hy : ys.length ≤ 60) (i : Nat) (x : Str) : -59940 ≤ tot ((ys.map prOf).reverse.take i) x ∧ tot ((ys.map prOf).reverse.take i) x ≤ 59940 := by
  have h := tot_bound (b := 999) (l := (ys.map prOf).reverse.take i) (fun p hp => prs_in ys p (List.mem_reverse.1 (List.mem_of_mem_take hp))) (by omega) x
  have : ((ys.map prOf).reverse.take i).length ≤ 60 := by simp; omega
  omega
theorem okC_in {n : Int} (h1 : -1000000 ≤ n) (h2 : n ≤ 1000000) : okC n = true := by
  unfold okC; exact decide_eq_true (by omega)

/-- the counts after i steps -/
structure CI (ys : List OpS) (i : Nat) (C : Nat → Str → Int) : Prop where
  c0 : ∀ x, C 0 x = tot ((ys.map prOf).take i) x
  c1 : ∀ x, C 1 x = tot ((ys.map prOf).reverse.take i) x
  c23 : ∀ x, C 2 x + C 3 x = tot ((ys.map prOf).take i) x
  b2 : ∀ x, -(999 * (i : Int)) ≤ C 2 x ∧ C 2 x ≤ 999 * i
  b3 : ∀ x, -(999 * (i : Int)) ≤ C 3 x ∧ C 3 x ≤ 999 * i
theorem CI.zero (ys : List OpS) : CI ys 0 (fun _ _ => 0) := ⟨by simp [tot], by simp [tot], by simp [tot], by simp, by simp⟩
theorem CI.step {ys : List OpS} {i : Nat} {C : Nat → Str → Int} (h : CI ys i C) {o p : OpS} (ho : ys[i]? = some o) (hp : ys.reverse[i]? = some p) {k : Nat} (hk : k = 2 ∨ k = 3) :
    CI ys (i + 1) (addC (addC (addC C 0 o.key (prOf o).2) 1 p.key (prOf p).2) k o.key (prOf o).2) := by
  have e0 := fun x => tot_take (l := ys.map prOf) (i := i) (p := prOf o) (by simp [ho]) x
  have e1 := fun x => tot_take (l := (ys.map prOf).reverse) (i := i) (p := prOf p) (by rw [← List.map_reverse, List.getElem?_map, hp]; rfl) x
  have hb : ∀ x, -999 ≤ (if (prOf o).1 = x then (prOf o).2 else 0) ∧ (if (prOf o).1 = x then (prOf o).2 else 0) ≤ 999 := fun x => by
    have := prOf_in o
    split <;> omega
  have hco : ∀ x, (if x = o.key then (prOf o).2 else 0) = if (prOf o).1 = x then (prOf o).2 else 0 := fun x => by
    by_cases q : x = o.key
    · rw [if_pos q]; exact (if_pos q.symm).symm
    · rw [if_neg q]; exact (if_neg (fun e => q e.symm)).symm
  have hcp : ∀ x, (if x = p.key then (prOf p).2 else 0) = if (prOf p).1 = x then (prOf p).2 else 0 := fun x => by
    by_cases q : x = p.key
    · rw [if_pos q]; exact (if_pos q.symm).symm
    · rw [if_neg q]; exact (if_neg (fun e => q e.symm)).symm
  rcases hk with rfl | rfl
  all_goals refine ⟨fun x => ?_, fun x => ?_, fun x => ?_, fun x => ?_, fun x => ?_⟩
  all_goals have a0 := h.c0 x
  all_goals have a1 := h.c1 x
  all_goals have a2 := h.c23 x
  all_goals have a3 := h.b2 x
  all_goals have a4 := h.b3 x
  all_goals have f0 := e0 x
  all_goals have f1 := e1 x
  all_goals have f2 := hb x
  all_goals simp [addC]
  all_goals (try rw [hco])
  all_goals (try rw [hcp])
  all_goals generalize (if (prOf o).1 = x then (prOf o).2 else 0) = A at *
  all_goals generalize (if (prOf p).1 = x then (prOf p).2 else 0) = A' at *
  all_goals omega
theorem CI.ok {ys : List OpS} {i : Nat} {C : Nat → Str → Int} (h : CI ys i C) (hy : ys.length ≤ 60) (hi : i ≤ 60) (k : Nat) (hk : k < 4) (x : Str) : -59940 ≤ C k x ∧ C k x ≤ 59940 := by
  match k, hk with
  | 0, _ => rw [h.c0]; exact tot_take_in hy i x
  | 1, _ => rw [h.c1]; exact tot_take_rin hy i x
  | 2, _ => have := h.b2 x; omega
  | 3, _ => have := h.b3 x; omega
theorem addC_ne {C : Nat → Str → Int} {k j : Nat} (h : j ≠ k) (x : Str) (n : Int) (y : Str) : addC C k x n j y = C j y := by simp [addC, h]
theorem qAdd2 {B : Nat} {w : World} {tb mb : Nat → Nat} {ks : List Str} {C : Nat → Str → Int} (h : Quad B w tb mb ks C) (k : Nat) (hk : k < 4) (x : Str) (hx : x ∈ ks) (n : Int) (hb : -59940 ≤ C k x ∧ C k x ≤ 59940) (hn : -999 ≤ n ∧ n ≤ 999) :
    Calls Try.prog 36 #[.pointer (some ⟨tb k, 0, none⟩), .string x.s, .int .i64 n] w fun e w' => e = .returned (.int .i64 0) ∧ Quad B w' tb mb ks (addC C k x n) ∧ Upd [mb k] w w' :=
  qAdd h k hk x hx n (okC_in (by omega) (by omega)) (okC_in (by omega) (by omega)) (okC_in (by omega) (by omega))
/-- after all steps -/
theorem CI.all {ys : List OpS} {C : Nat → Str → Int} (h : CI ys ys.length C) : (∀ x, C 1 x = C 0 x) ∧ (∀ x, C 2 x + C 3 x = C 0 x) ∧ ∀ x, C 0 x = tot (ys.map prOf) x := by
  have e : (ys.map prOf).take ys.length = ys.map prOf := List.take_of_length_le (by simp)
  have e' : (ys.map prOf).reverse.take ys.length = (ys.map prOf).reverse := List.take_of_length_le (by simp)
  refine ⟨fun x => ?_, fun x => ?_, fun x => ?_⟩
  · rw [h.c0, h.c1, e, e', tot_reverse]
  · rw [h.c0, h.c23]
  · rw [h.c0, e]
def joinC (C : Nat → Str → Int) : Nat → Str → Int := fun k x => if k = 2 then C 2 x + C 3 x else C k x
theorem tot_take_prs {ys : List OpS} {i : Nat} {o : OpS} (ho : ys[i]? = some o) (x : Str) : tot ((ys.map prOf).take (i + 1)) x = tot ((ys.map prOf).take i) x + if x = o.key then o.n.tmod 1000 else 0 := by
  have e0 := tot_take (l := ys.map prOf) (i := i) (p := prOf o) (by simp [ho]) x
  rw [e0]
  congr 1
  by_cases q : x = o.key
  · rw [if_pos q]; exact if_pos q.symm
  · rw [if_neg q]; exact if_neg (fun e => q e.symm)
theorem prs_key {ys : List OpS} {i : Nat} {o : OpS} (ho : ys[i]? = some o) : o.key ∈ ys.map (·.key) := List.mem_map.2 ⟨o, List.mem_of_getElem? ho, rfl⟩
end Go.Proofs.Ytcdmdpgfadopcaa
