/-
  sluiceref14: the document's ledger: Behind, Get, Add, Copy.
-/
import Derived.Test.YtcdmdpgfadopcaaLedger10
import Derived.Test.YtcdmdpgfadopcaaEqOp
import Derived.Deep.RegionLaw
namespace Go.Slu
section
variable {α : Type} {cf : α → α → Int}
/-- put in where it belongs -/
def insBy (cf : α → α → Int) (x : α) : List α → List α
  | [] => [x]
  | z :: r => if cf z x < 0 then z :: insBy cf x r else x :: z :: r
theorem mem_insBy {x y : α} : ∀ {l : List α}, y ∈ insBy cf x l ↔ y = x ∨ y ∈ l
  | [] => by simp [insBy]
  | z :: r => by
    unfold insBy
    split
    · rw [List.mem_cons, mem_insBy (l := r), List.mem_cons]
      constructor
      · rintro (h | h | h)
        · exact .inr (.inl h)
        · exact .inl h
        · exact .inr (.inr h)
      · rintro (h | h | h)
        · exact .inr (.inl h)
        · exact .inl h
        · exact .inr (.inr h)
    · simp
theorem insBy_sorted (htr : ∀ x y z, cf x y < 0 → cf y z < 0 → cf x z < 0) (htot : ∀ x y, x ≠ y → ¬ cf x y < 0 → cf y x < 0) {x : α} : ∀ {l : List α}, l.Pairwise (fun a b => cf a b < 0) → x ∉ l → (insBy cf x l).Pairwise (fun a b => cf a b < 0)
  | [], _, _ => by simp [insBy]
  | z :: r, h, hx => by
    rw [List.pairwise_cons] at h
    simp only [List.mem_cons, not_or] at hx
    unfold insBy
    split
    · rename_i hz
      refine List.pairwise_cons.2 ⟨fun y hy => ?_, insBy_sorted htr htot h.2 hx.2⟩
      rcases mem_insBy.1 hy with rfl | hy
      · exact hz
      · exact h.1 y hy
    · rename_i hz
      have hxz := htot z x (fun e => hx.1 e.symm) hz
      refine List.pairwise_cons.2 ⟨fun y hy => ?_, List.pairwise_cons.2 h⟩
      rcases List.mem_cons.1 hy with rfl | hy
      · exact hxz
      · exact htr x z y hxz (h.1 y hy)
theorem insBy_at {x : α} : ∀ (l : List α) (j : Nat), j ≤ l.length → (∀ k y, k < j → l[k]? = some y → cf y x < 0) → (∀ y, l[j]? = some y → ¬ cf y x < 0) → insBy cf x l = l.take j ++ x :: l.drop j
  | [], j, hj, _, _ => by simp at hj; subst hj; rfl
  | z :: r, 0, _, _, h2 => by
    unfold insBy
    rw [if_neg (h2 z rfl)]; rfl
  | z :: r, j + 1, hj, h1, h2 => by
    unfold insBy
    rw [if_pos (h1 0 z (by omega) rfl), insBy_at r j (by simpa using hj) (fun k y hk hy => h1 (k + 1) y (by omega) (by simpa using hy)) (fun y hy => h2 y (by simpa using hy))]
    rfl
end
end Go.Slu
namespace Go.Proofs.Ytcdmdpgfadopcaa
open Go.Slu Go.MapKept Go.RowKit Go.Sort

set_option maxRecDepth 100000 in
theorem eqLawM : EqLaw Try.prog 52 ekM :=
  EqLaw.of_deep (m := 3) (by omega) (of_decide_eq_true (by kernel_rfl)) wideM klawM (fun x y h => by
    simp only [ekM, Value.agg.injEq, Array.mk.injEq, List.cons.injEq, Value.int.injEq, true_and, and_true] at h
    exact StampK.ext' h.1 (TimeK.ext' h.2.1 h.2.2.1 h.2.2.2)) keyofM (by kernel_rfl) (fun _ => ⟨_, rfl⟩)

/-- BLOCK rb IS A LEDGER OF THE DOCUMENT's with the list L. -/
structure RefL (w : World) (rb : Nat) (a : Option Addr) (c : Nat) (L : List (StampK × Int)) : Prop where
  blk : w.heap[rb]? = some (.cells #[.slice a L.length c] 97 (0, 0))
  own : OwnAt 105 5 eeCh w a c L
section
variable {w w' : World} {rb : Nat} {a : Option Addr} {c : Nat} {L : List (StampK × Int)}
theorem RefL.c0 (h : RefL w rb a c L) : w.cell? ⟨rb, 0, none⟩ = some (.slice a L.length c) := by simp [World.cell?, h.blk]
theorem RefL.keep {X : List Nat} (h : RefL w rb a c L) (hu : Upd X w w') (h1 : rb ∉ X) (h2 : ∀ b ∈ ablk a, b ∉ X) : RefL w' rb a c L := ⟨hu.at h.blk h1, h.own.keep hu h2⟩
theorem RefL.far (h : RefL w rb a c L) : ∀ b ∈ ablk a, b ≠ rb := fun b hb e => by
  rcases h.own.cases with ⟨h1, _, _⟩ | ⟨g, h1, _⟩
  · rw [h1] at hb; simp [ablk] at hb
  · have ho := h.own
    rw [h1] at ho hb
    obtain ⟨cur, hc, _⟩ := ho.block
    simp [ablk] at hb
    have := h.blk
    rw [← e, hb, hc] at this
    cases this
end
def rRef (rb : Nat) (a : Option Addr) (c : Nat) (L : List (StampK × Int)) : Res :=
  ⟨rb :: ablk a, fun w => RefL w rb a c L, fun h hu hx => h.keep hu (hx _ (by simp)) (fun b hb => hx _ (by simp [hb])), fun h b hb => by
    rcases List.mem_cons.1 hb with rfl | hb
    · exact lt_of_block h.blk
    · exact h.own.lt b hb⟩

set_option maxRecDepth 20000 in
/-- 'Behind' -/
theorem behind_any (x y : StampK) (w : World) : Calls Try.prog 131 #[ekM x, ekM y] w fun e w' => e = .returned (.bool (decide (cmpM y x < 0))) ∧ Upd [] w w' := by
  have hu := Lib.hid (((Upd.refl [] w).alloc (.cells #[.int .i64 x.n, .int .u64 x.t.a, .int .u64 x.t.b, .int .u64 x.t.c] 52)).alloc (.cells #[.int .i64 y.n, .int .u64 y.t.a, .int .u64 y.t.b, .int .u64 y.t.c] 52))
  have hs : (w.alloc (.cells #[.int .i64 x.n, .int .u64 x.t.a, .int .u64 x.t.b, .int .u64 x.t.c] 52)).heap.size = w.heap.size + 1 := by simp
  have hk := fun (p : Addr) v (h : (w.alloc (.cells #[.int .i64 x.n, .int .u64 x.t.a, .int .u64 x.t.b, .int .u64 x.t.c] 52)).cell? p = some v) => ((Upd.refl [] (w.alloc (.cells #[.int .i64 x.n, .int .u64 x.t.a, .int .u64 x.t.b, .int .u64 x.t.c] 52))).alloc (.cells #[.int .i64 y.n, .int .u64 y.t.a, .int .u64 y.t.b, .int .u64 y.t.c] 52)).cellS h (by simp)
  have x0 := cell_new w #[.int .i64 x.n, .int .u64 x.t.a, .int .u64 x.t.b, .int .u64 x.t.c] 52 0 (v := .int .i64 x.n) rfl
  have x1 := cell_new w #[.int .i64 x.n, .int .u64 x.t.a, .int .u64 x.t.b, .int .u64 x.t.c] 52 1 (v := .int .u64 x.t.a) rfl
  have x2 := cell_new w #[.int .i64 x.n, .int .u64 x.t.a, .int .u64 x.t.b, .int .u64 x.t.c] 52 2 (v := .int .u64 x.t.b) rfl
  have x3 := cell_new w #[.int .i64 x.n, .int .u64 x.t.a, .int .u64 x.t.b, .int .u64 x.t.c] 52 3 (v := .int .u64 x.t.c) rfl
  replace x0 := hk _ _ x0
  replace x1 := hk _ _ x1
  replace x2 := hk _ _ x2
  replace x3 := hk _ _ x3
  have y0 := cell_new (w.alloc (.cells #[.int .i64 x.n, .int .u64 x.t.a, .int .u64 x.t.b, .int .u64 x.t.c] 52)) #[.int .i64 y.n, .int .u64 y.t.a, .int .u64 y.t.b, .int .u64 y.t.c] 52 0 (v := .int .i64 y.n) rfl
  have y1 := cell_new (w.alloc (.cells #[.int .i64 x.n, .int .u64 x.t.a, .int .u64 x.t.b, .int .u64 x.t.c] 52)) #[.int .i64 y.n, .int .u64 y.t.a, .int .u64 y.t.b, .int .u64 y.t.c] 52 1 (v := .int .u64 y.t.a) rfl
  have y2 := cell_new (w.alloc (.cells #[.int .i64 x.n, .int .u64 x.t.a, .int .u64 x.t.b, .int .u64 x.t.c] 52)) #[.int .i64 y.n, .int .u64 y.t.a, .int .u64 y.t.b, .int .u64 y.t.c] 52 2 (v := .int .u64 y.t.b) rfl
  have y3 := cell_new (w.alloc (.cells #[.int .i64 x.n, .int .u64 x.t.a, .int .u64 x.t.b, .int .u64 x.t.c] 52)) #[.int .i64 y.n, .int .u64 y.t.a, .int .u64 y.t.b, .int .u64 y.t.c] 52 3 (v := .int .u64 y.t.c) rfl
  rw [hs] at y0 y1 y2 y3
  clear hs hk
  have hd : ∀ b : Bool, (b = true ↔ LexLt (numsM y) (numsM x)) → decide (cmpM y x < 0) = b := fun b h => by
    cases b
    · simpa [cmpM_lt] using h
    · simpa [cmpM_lt] using h
  have HD := Lib.hid hd
  clear hd
  go_enter Try.func131, Try.ntmps131
  go_upto_region 1 with fail
  generalize (w.alloc (.cells #[.int .i64 x.n, .int .u64 x.t.a, .int .u64 x.t.b, .int .u64 x.t.c] 52)).alloc (.cells #[.int .i64 y.n, .int .u64 y.t.a, .int .u64 y.t.b, .int .u64 y.t.c] 52) = w2 at *
  by_cases h0 : x.n = y.n
  · by_cases h1 : x.t.a = y.t.a
    · by_cases h2 : x.t.b = y.t.b
      · have HE := Lib.hid (And.intro h0 (And.intro h1 h2))
        have q0 : decide (x.n ≠ y.n) = false := by simpa using h0
        have q1 : decide (x.t.a ≠ y.t.a) = false := by simpa using h1
        have q2 : decide (x.t.b ≠ y.t.b) = false := by simpa using h2
        go_wp2_with fail
        go_ret
        have e := HD.out (decide (y.t.c < x.t.c)) (by simp [numsM, LexLt, HE.out.1, HE.out.2.1, HE.out.2.2])
        exact ⟨by rw [e]; rfl, hu.out⟩
      · have q0 : decide (x.n ≠ y.n) = false := by simpa using h0
        have q1 : decide (x.t.a ≠ y.t.a) = false := by simpa using h1
        have q2 : decide (x.t.b ≠ y.t.b) = true := by simpa using h2
        have HE := Lib.hid (And.intro h0 (And.intro h1 h2))
        go_wp2_with fail
        go_ret
        have e := HD.out (decide (y.t.b < x.t.b)) (by have hne := HE.out.2.2; simp [numsM, LexLt, HE.out.1, HE.out.2.1]; intros; omega)
        exact ⟨by rw [e]; rfl, hu.out⟩
    · have HE := Lib.hid (And.intro h0 h1)
      go_wp2_with fail
      go_ret
      have e := HD.out (decide (y.t.a < x.t.a)) (by have hne := HE.out.2; simp [numsM, LexLt, HE.out.1]; intros; omega)
      exact ⟨by rw [e]; rfl, hu.out⟩
  · have HE := Lib.hid h0
    go_wp2_with fail
    go_ret
    have e := HD.out (decide (y.n < x.n)) (by have hne := HE.out; simp [numsM, LexLt]; intros; omega)
    exact ⟨by rw [e]; rfl, hu.out⟩
/-- what the document's ledger counts: makings and usings -/
def ROk (L : List (StampK × Int)) : Prop := ∀ p ∈ L, -1 ≤ p.2 ∧ p.2 ≤ 1
theorem ROk.tot {L : List (StampK × Int)} (h : ROk L) (x : StampK) : -(L.length : Int) ≤ tot L x ∧ tot L x ≤ L.length := totL_in h x

set_option maxHeartbeats 1000000 in
set_option maxRecDepth 20000 in
/-- 'Get' -/
theorem rGet {w : World} {rb : Nat} {a : Option Addr} {c : Nat} {L : List (StampK × Int)} (h : RefL w rb a c L) (hL : ROk L) (hl : L.length ≤ 1000000) (x : StampK) :
    Calls Try.prog 99 #[.pointer (some ⟨rb, 0, none⟩), ekM x] w fun e w' => e = .returned (.int .i64 (tot L x)) ∧ Upd [] w w' := by
  have hu := (Upd.refl [] w).alloc (.cells #[.int .i64 x.n, .int .u64 x.t.a, .int .u64 x.t.b, .int .u64 x.t.c] 52)
  have c0 := (h.keep hu (by simp) (by simp)).c0
  have HA := Lib.hid (h.own.keep hu (by simp))
  have z0 := cell_new w #[.int .i64 x.n, .int .u64 x.t.a, .int .u64 x.t.b, .int .u64 x.t.c] 52 0 (v := .int .i64 x.n) rfl
  have z1 := cell_new w #[.int .i64 x.n, .int .u64 x.t.a, .int .u64 x.t.b, .int .u64 x.t.c] 52 1 (v := .int .u64 x.t.a) rfl
  have z2 := cell_new w #[.int .i64 x.n, .int .u64 x.t.a, .int .u64 x.t.b, .int .u64 x.t.c] 52 2 (v := .int .u64 x.t.b) rfl
  have z3 := cell_new w #[.int .i64 x.n, .int .u64 x.t.a, .int .u64 x.t.b, .int .u64 x.t.c] 52 3 (v := .int .u64 x.t.c) rfl
  have HU := Lib.hid hu
  have HL := Lib.hid hL
  clear h hu hL
  go_enter Try.func99, Try.ntmps99
  go_upto_region 1 with fail
  generalize w.alloc (.cells #[.int .i64 x.n, .int .u64 x.t.a, .int .u64 x.t.b, .int .u64 x.t.c] 52) = w1 at *
  go_wp2_with fail
  have HZ := Lib.hid (And.intro z0 (And.intro z1 (And.intro z2 z3)))
  clear c0 z0 z1 z2 z3
  go_loopg [5, 7, 13] L.length (fun m v5 v7 v13 wr => ∃ i : Nat, m + i = L.length ∧ v13 = .int .i64 i ∧ v5 = .int .i64 (tot (L.take i) x) ∧ Upd [] w1 wr)
  case atStart => exact ⟨0, rfl, rfl, rfl, Upd.refl _ _⟩
  case round =>
    obtain ⟨i, hm, rfl, rfl, hu⟩ := hrel
    have HM := Lib.hid hm
    have HV := Lib.hid hu
    clear hm hu
    by_cases hi : i < L.length
    · have hii : (i : Int) < L.length := by omega
      obtain ⟨p, hp⟩ : ∃ p, L[i]? = some p := ⟨L[i], List.getElem?_eq_getElem hi⟩
      obtain ⟨g, o, rfl, hc⟩ := HA.out.rd elemCh.len i p hp
      have y0 := HV.out.cellS (hc 0 _ rfl) (by simp)
      have y1 := HV.out.cellS (hc 1 _ rfl) (by simp)
      have y2 := HV.out.cellS (hc 2 _ rfl) (by simp)
      have y3 := HV.out.cellS (hc 3 _ rfl) (by simp)
      have y4 := HV.out.cellS (hc 4 _ rfl) (by simp)
      simp only [Nat.add_zero] at y0
      clear hc
      have hA := HV.out.alloc (.cells #[.int .i64 p.1.n, .int .u64 p.1.t.a, .int .u64 p.1.t.b, .int .u64 p.1.t.c, .int .i64 p.2] 105)
      have z0 := hA.cellS HZ.out.1 (by simp)
      have z1 := hA.cellS HZ.out.2.1 (by simp)
      have z2 := hA.cellS HZ.out.2.2.1 (by simp)
      have z3 := hA.cellS HZ.out.2.2.2 (by simp)
      have d0 := cell_new wr #[.int .i64 p.1.n, .int .u64 p.1.t.a, .int .u64 p.1.t.b, .int .u64 p.1.t.c, .int .i64 p.2] 105 0 (v := .int .i64 p.1.n) rfl
      have d1 := cell_new wr #[.int .i64 p.1.n, .int .u64 p.1.t.a, .int .u64 p.1.t.b, .int .u64 p.1.t.c, .int .i64 p.2] 105 1 (v := .int .u64 p.1.t.a) rfl
      have d2 := cell_new wr #[.int .i64 p.1.n, .int .u64 p.1.t.a, .int .u64 p.1.t.b, .int .u64 p.1.t.c, .int .i64 p.2] 105 2 (v := .int .u64 p.1.t.b) rfl
      have d3 := cell_new wr #[.int .i64 p.1.n, .int .u64 p.1.t.a, .int .u64 p.1.t.b, .int .u64 p.1.t.c, .int .i64 p.2] 105 3 (v := .int .u64 p.1.t.c) rfl
      have d4 := cell_new wr #[.int .i64 p.1.n, .int .u64 p.1.t.a, .int .u64 p.1.t.b, .int .u64 p.1.t.c, .int .i64 p.2] 105 4 (v := .int .i64 p.2) rfl
      have HV2 := Lib.hid hA
      have ht := tot_take hp x
      have hb1 := ROk.tot (L := L.take i) (fun q hq => HL.out q (List.mem_of_mem_take hq)) x
      have hb2 := HL.out p (List.mem_of_getElem? hp)
      have hb3 : (L.take i).length ≤ i := by rw [List.length_take]; omega
      have hw : IntKind.i64.wrap (tot (L.take i) x + p.2) = tot (L.take i) x + p.2 := IntWalk.i64_in _ (by omega)
      have hw2 : wrap64 (tot (L.take i) x + p.2) = tot (L.take i) x + p.2 := IntWalk.wrap64_in _ (by omega)
      have HT := Lib.hid ht
      clear hA ht hb1 hb2 hb3 hp HV
      generalize tot (L.take i) x = s at *
      by_cases hx : p.1 = x
      · subst hx
        rw [if_pos rfl] at HT
        go_wp2_with (refine wpList_eql eqLawM rfl _ _ _ rfl (x := p.1) (y := x) (by simp [Act.eval]) (by simp [Act.eval]) ?_)
        go_roundg (L.length - (i + 1))
        case measure => have := HM.out; omega
        case rel => exact ⟨i + 1, by have := HM.out; omega, rfl, by rw [HT.out], HV2.out⟩
      · rw [if_neg hx] at HT
        go_wp2_with (refine wpList_eql eqLawM rfl _ _ _ rfl (x := p.1) (y := x) (by simp [Act.eval]) (by simp [Act.eval]) ?_)
        go_roundg (L.length - (i + 1))
        case measure => have := HM.out; omega
        case rel => exact ⟨i + 1, by have := HM.out; omega, rfl, by rw [HT.out]; simp, HV2.out⟩
    · have hii : ¬ (i : Int) < L.length := by omega
      obtain rfl : i = L.length := by have := HM.out; omega
      go_wp2_with fail
      go_ret
      exact ⟨rfl, HU.out.trans HV.out⟩
theorem sizeLedger (W : World) : (Go.sizeOf 87).run Try.prog W = .ok 1 W := size1 _ (by kernel_rfl) W
/-- behind 'Add' -/
def AddedR (rb : Nat) (a : Option Addr) (L : List (StampK × Int)) (w : World) (e : Ending) (w' : World) : Prop :=
  e = .returned (.int .i64 0) ∧ ∃ a' c', RefL w' rb a' c' L ∧ (∀ b ∈ ablk a', b ∈ ablk a ∨ w.heap.size ≤ b) ∧ Upd (rb :: ablk a) w w'
set_option maxHeartbeats 1000000 in
set_option maxRecDepth 20000 in
/-- 'Add' -/
theorem rAdd {w : World} {rb : Nat} {a : Option Addr} {c : Nat} {L : List (StampK × Int)} (h : RefL w rb a c L) (hL : ROk L) (hl : L.length ≤ 1000000) (x : StampK) (n : Int) (hn : n = 1 ∨ n = -1) :
    Calls Try.prog 53 #[.pointer (some ⟨rb, 0, none⟩), ekM x, .int .i64 n] w (AddedR rb a (L ++ [(x, n)]) w) := by
  have hu := (Upd.refl [] w).alloc (.cells #[.int .i64 x.n, .int .u64 x.t.a, .int .u64 x.t.b, .int .u64 x.t.c] 52)
  have h1 := h.keep hu (by simp) (by simp)
  have hget := Lib.hid (rGet h1 hL hl x)
  have hb := hL.tot x
  have hw : IntKind.i64.wrap (tot L x + n) = tot L x + n := IntWalk.i64_in _ (by omega)
  have hw2 : wrap64 (tot L x + n) = tot L x + n := IntWalk.wrap64_in _ (by omega)
  have hlo : ¬ tot L x + n < -2147483647 := by omega
  have hhi : ¬ 2147483647 < tot L x + n := by omega
  generalize tot L x = s at *
  have H1 := Lib.hid h1
  have HU := Lib.hid hu
  have hoa := Lib.hid (show w.heap.size ∉ ablk a from fun hb => by have := h.own.lt _ hb; omega)
  have x0 := cell_new w #[.int .i64 x.n, .int .u64 x.t.a, .int .u64 x.t.b, .int .u64 x.t.c] 52 0 (v := .int .i64 x.n) rfl
  have x1 := cell_new w #[.int .i64 x.n, .int .u64 x.t.a, .int .u64 x.t.b, .int .u64 x.t.c] 52 1 (v := .int .u64 x.t.a) rfl
  have x2 := cell_new w #[.int .i64 x.n, .int .u64 x.t.a, .int .u64 x.t.b, .int .u64 x.t.c] 52 2 (v := .int .u64 x.t.b) rfl
  have x3 := cell_new w #[.int .i64 x.n, .int .u64 x.t.a, .int .u64 x.t.b, .int .u64 x.t.c] 52 3 (v := .int .u64 x.t.c) rfl
  clear h h1 hb hn hL
  go_enter Try.func53, Try.ntmps53
  go_upto_region 1 with fail
  generalize w.alloc (.cells #[.int .i64 x.n, .int .u64 x.t.a, .int .u64 x.t.b, .int .u64 x.t.c] 52) = w1 at *
  go_wp2_with (go_at_call 99; refine hget.out.mono ?_; rintro e w2 ⟨rfl, hu2⟩; have HU2 := Lib.hid hu2; have H2 := Lib.hid (H1.out.keep hu2 (by simp) (by simp)); replace x0 := hu2.cellS x0 (by simp); replace x1 := hu2.cellS x1 (by simp); replace x2 := hu2.cellS x2 (by simp); replace x3 := hu2.cellS x3 (by simp); clear hu2)
  go_upto_region 4 with fail
  have d1 := H2.out.c0
  have f1 : w2.frozen? ⟨rb, 0, none⟩ = false := by simp [World.frozen?, H2.out.blk]
  have da : ∀ o, (w2.alloc o).cell? ⟨rb, 0, none⟩ = some (.slice a L.length c) := fun o => ((Upd.refl [] w2).alloc o).cellS d1 (by simp)
  have e0 : ∀ o, (w2.alloc o).cell? ⟨w.heap.size, 0, none⟩ = some (.int .i64 x.n) := fun o => ((Upd.refl [] w2).alloc o).cellS x0 (by simp)
  have e1 : ∀ o, (w2.alloc o).cell? ⟨w.heap.size, 1, none⟩ = some (.int .u64 x.t.a) := fun o => ((Upd.refl [] w2).alloc o).cellS x1 (by simp)
  have e2 : ∀ o, (w2.alloc o).cell? ⟨w.heap.size, 2, none⟩ = some (.int .u64 x.t.b) := fun o => ((Upd.refl [] w2).alloc o).cellS x2 (by simp)
  have e3 : ∀ o, (w2.alloc o).cell? ⟨w.heap.size, 3, none⟩ = some (.int .u64 x.t.c) := fun o => ((Upd.refl [] w2).alloc o).cellS x3 (by simp)
  have HL2 := Lib.hid (fun (W : World) => OwnAt.lit (e := 105) elemCh.len W [(x, n)] (by simp [maxLen]) #[.int .i64 x.n, .int .u64 x.t.a, .int .u64 x.t.b, .int .u64 x.t.c, .int .i64 n] rfl)
  go_region_law
    (first
      | (refine step_append_rep (by rfl) _ _ 87 (by rfl) elemCh (xs := L) (ys := [(x, n)]) (aa := a) (c := c) (c2 := 1) (a2 := some ⟨w2.heap.size, 0, none⟩) (H2.out.own.keep (((Upd.refl [] w2).alloc _).drew) (by simp)) ((HL2.out w2).rd elemCh.len) (by simp [Act.eval, Act.put]) (by simp [Act.eval, Act.put]) (by simp [maxLen]; omega) (by simp; omega) ?_; intro a' c' w3 ho hu hor hnn; have d1' := hu.cellS (show ((w2.alloc _).drew).cell? ⟨rb, 0, none⟩ = _ from ((Upd.refl [] w2).alloc _).cellS d1 (by simp)) (fun hb => H2.out.far _ hb rfl); have k0 := hu.cellS (show ((w2.alloc _).drew).cell? ⟨w.heap.size, 0, none⟩ = _ from ((Upd.refl [] w2).alloc _).cellS x0 (by simp)) hoa.out; have k1 := hu.cellS (show ((w2.alloc _).drew).cell? ⟨w.heap.size, 1, none⟩ = _ from ((Upd.refl [] w2).alloc _).cellS x1 (by simp)) hoa.out; have k2 := hu.cellS (show ((w2.alloc _).drew).cell? ⟨w.heap.size, 2, none⟩ = _ from ((Upd.refl [] w2).alloc _).cellS x2 (by simp)) hoa.out; have k3 := hu.cellS (show ((w2.alloc _).drew).cell? ⟨w.heap.size, 3, none⟩ = _ from ((Upd.refl [] w2).alloc _).cellS x3 (by simp)) hoa.out; have f1' : w3.frozen? ⟨rb, 0, none⟩ = false := (hu.frozen (by simp; exact Nat.lt_succ_of_lt (lt_of_block H2.out.blk)) (fun hb => H2.out.far _ hb rfl)).trans (((Upd.refl [] w2).alloc _).drew.frozen (lt_of_block H2.out.blk) (by simp) |>.trans f1); have hblk := hu.at (((Upd.refl [] w2).alloc (.cells #[.int .i64 x.n, .int .u64 x.t.a, .int .u64 x.t.b, .int .u64 x.t.c, .int .i64 n] 105)).drew.at H2.out.blk (by simp)) (fun hb => H2.out.far _ hb rfl)))
  all_goals
    have u4 : Upd [rb] w3 (w3.setCell ⟨rb, 0, none⟩ (.slice a' (L.length + 1) c')) := (Upd.refl [rb] w3).setCell _ _ (fun _ => by simp)
    have hblk4 := setCell_block hblk 0 (.slice a' (L.length + 1) c')
    generalize w3.setCell ⟨rb, 0, none⟩ (.slice a' (L.length + 1) c') = w4 at *
    have hlr := lt_of_block H2.out.blk
    have ho4 := ho.keep u4 (fun b hb => by
      simp only [List.mem_singleton]
      rintro rfl
      rcases hor with rfl | rfl
      · exact H2.out.far _ hb rfl
      · simp [ablk] at hb; omega)
    have s1 := HU.out.size
    have s2 := HU2.out.size
    have hend : AddedR rb a (L ++ [(x, n)]) w (.returned (.int .i64 0)) w4 := ⟨rfl, a', c', ⟨by simpa using hblk4, ho4⟩, fun b hb => by
      rcases hor with rfl | rfl
      · exact .inl hb
      · simp [ablk] at hb; right; omega, ((((HU.out.trans HU2.out).alloc _).drew.mono (by simp)).trans (hu.mono (fun b _ h => List.mem_cons_of_mem _ h))).trans (u4.mono (fun b _ h => by simp at h; simp [h]))⟩
    have HE := Lib.hid hend
    clear hend u4 hblk4 hblk ho ho4 hu hor hnn d1' k0 k1 k2 k3 f1' da e0 e1 e2 e3 d1 f1 HL2
    go_wp2_with fail
    go_ret
    exact HE.out
def CopiedRL (L : List (StampK × Int)) (w : World) (e : Ending) (w' : World) : Prop :=
  ∃ rb' a' c', e = .returned (.pointer (some ⟨rb', 0, none⟩)) ∧ RefL w' rb' a' c' L ∧ w.heap.size ≤ rb' ∧ (∀ b ∈ ablk a', w.heap.size ≤ b) ∧ Upd [] w w'
/-- 'Copy' -/
theorem rCopy {w : World} {rb : Nat} {a : Option Addr} {c : Nat} {L : List (StampK × Int)} (h : RefL w rb a c L) (hl : L.length ≤ 1000000) :
    Calls Try.prog 56 #[.pointer (some ⟨rb, 0, none⟩)] w (CopiedRL L w) := by
  have hA := (Upd.refl [] w).alloc (.cells #[] 105)
  have c0 := (h.keep hA (by simp) (by simp)).c0
  have H := Lib.hid ((h.own.keep hA (by simp)).rd elemCh.len)
  have hlit := Lib.hid (OwnAt.lit (e := 105) elemCh.len w [] (by simp [maxLen]) #[] rfl)
  clear h hA
  go_enter Try.func56, Try.ntmps56
  go_wp2_with (at_builtin; refine wpList_append_rep rfl _ _ 87 rfl elemCh (xs := []) (ys := L) (aa := some ⟨w.heap.size, 0, none⟩) (c := 0) (c2 := c) hlit.out H.out (by simp [Act.eval]) (by simp [Act.eval]) (by simp [maxLen]; omega) (by simp; omega) ?_; intro a' c' w4 ho hu hor _; have HO := Lib.hid ho; have HU := Lib.hid hu; have HOR := Lib.hid hor; clear ho hu hor)
  go_ret
  have hu2 : Upd [] w w4 := ((Upd.refl [] w).alloc _).then HU.out (fun b hb hl => by simp [ablk] at hb; omega)
  have hs := hu2.size
  refine ⟨w4.heap.size, a', c', rfl, ⟨by simpa using (heap_alloc w4 (.cells #[.slice a' L.length c'] 97)).1, HO.out.keep ((Upd.refl [] w4).alloc _) (by simp)⟩, hs, fun b hb => ?_, hu2.alloc _⟩
  rcases HOR.out with e | e
  · rw [e] at hb; simp [ablk] at hb; omega
  · rw [e] at hb; simp [ablk] at hb; omega
end Go.Proofs.Ytcdmdpgfadopcaa
