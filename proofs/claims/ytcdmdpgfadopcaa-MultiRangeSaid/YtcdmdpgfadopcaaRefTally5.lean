/-
  The document's tally (sluiceref04): Keys.
-/
import Derived.Test.YtcdmdpgfadopcaaRefTally4
import Derived.Deep.CutBlock
namespace Go.Proofs.Ytcdmdpgfadopcaa
open Go.Slu Go.MapKept Go.RowKit Go.Sort

/-- the order of keys -/
def cfK (kind : Int) (x y : RKey) : Int := orderF kind x.s x.n y.s y.n

def kyR (x : RKey) : List UInt8 × Int := ky x.s x.n
theorem kyR_inj {x y : RKey} (h : kyR x = kyR y) : x = y := by
  obtain ⟨h1, h2⟩ := ky_inj h
  cases x; cases y; cases h1; cases h2; rfl
theorem cfK_lt (k : Int) (a b : RKey) : cfK k a b < 0 ↔ (if k = 1 then KLt (kyR b) (kyR a) else if k = 0 then KLt (kyR a) (kyR b) else a.s.s.size < b.s.s.size ∨ (a.s.s.size = b.s.s.size ∧ KLt (kyR a) (kyR b))) := orderF_neg k a.s b.s a.n b.n
theorem cfK_tot (k : Int) (x y : RKey) (h1 : ¬ cfK k x y < 0) (h2 : ¬ cfK k y x < 0) : x = y := by
  rw [cfK_lt] at h1 h2
  apply kyR_inj
  by_cases k1 : k = 1
  · simp only [k1, if_true] at h1 h2; exact KLt.tot h2 h1
  · by_cases k0 : k = 0
    · simp [k0] at h1 h2; exact KLt.tot h1 h2
    · simp only [k1, k0, if_false, not_or, not_and] at h1 h2
      have : x.s.s.size = y.s.s.size := by omega
      exact KLt.tot (h1.2 this) (h2.2 this.symm)
theorem cfK_irr (k : Int) (x : RKey) : ¬ cfK k x x < 0 := by
  rw [cfK_lt]
  by_cases k1 : k = 1
  · simp only [k1, if_true]; exact KLt.irr _
  · by_cases k0 : k = 0
    · simp only [k0, if_true, if_neg (show ¬ (0 : Int) = 1 by omega)]; exact KLt.irr _
    · simp only [k1, k0, if_false]
      rintro (h | h)
      · exact absurd h (by omega)
      · exact KLt.irr _ h.2
theorem cfK_trans (k : Int) {x y z : RKey} (h1 : cfK k x y < 0) (h2 : cfK k y z < 0) : cfK k x z < 0 := by
  rw [cfK_lt] at h1 h2 ⊢
  by_cases k1 : k = 1
  · simp only [k1, if_true] at *; exact KLt.trans h2 h1
  · by_cases k0 : k = 0
    · simp [k0] at *; exact KLt.trans h1 h2
    · simp only [k1, k0, if_false] at *
      rcases h1 with h1 | ⟨e1, h1⟩ <;> rcases h2 with h2 | ⟨e2, h2⟩
      · left; omega
      · left; omega
      · left; omega
      · exact .inr ⟨by omega, KLt.trans h1 h2⟩
/-- the place is right -/
theorem insert_sorted (k : Int) {l : List RKey} {x : RKey} {j : Nat} (hs : l.Pairwise (fun x y => cfK k x y < 0)) (hx : x ∉ l) (hj : j ≤ l.length) (hlo : ∀ (t : Nat) (q : RKey), t < j → l[t]? = some q → cfK k q x < 0) (hhi : ∀ q : RKey, l[j]? = some q → 0 ≤ cfK k q x) :
    (l.take j ++ [x] ++ l.drop j).Pairwise (fun x y => cfK k x y < 0) := by
  have hge : ∀ q ∈ l.drop j, cfK k x q < 0 := by
    rcases Nat.lt_or_ge j l.length with hlt | hge
    · have e1 : l.drop j = l[j] :: l.drop (j + 1) := List.drop_eq_getElem_cons hlt
      have h0 : cfK k x l[j] < 0 := by
        have h1 := hhi l[j] (List.getElem?_eq_getElem hlt)
        rcases Int.lt_or_le (cfK k x l[j]) 0 with h | h
        · exact h
        · exact absurd (cfK_tot k x l[j] (by omega) (by omega) ▸ List.getElem_mem hlt) hx
      have h2 := hs.sublist (List.drop_sublist j l)
      rw [e1] at h2 ⊢
      intro q hq
      rcases List.mem_cons.1 hq with rfl | hq
      · exact h0
      · exact cfK_trans k h0 ((List.pairwise_cons.1 h2).1 q hq)
    · rw [List.drop_eq_nil_of_le hge]; simp
  have hle : ∀ q ∈ l.take j, cfK k q x < 0 := fun q hq => by
    obtain ⟨t, ht, rfl⟩ := List.getElem_of_mem hq
    simp at ht
    exact hlo t _ (by omega) (by simp)
  have h3 := hs
  rw [← List.take_append_drop j l] at h3
  obtain ⟨p1, p2, p3⟩ := List.pairwise_append.1 h3
  rw [List.append_assoc, List.pairwise_append]
  refine ⟨p1, ?_, fun a ha b hb => ?_⟩
  · simp only [List.singleton_append, List.pairwise_cons]
    exact ⟨hge, p2⟩
  · simp only [List.singleton_append, List.mem_cons] at hb
    rcases hb with rfl | hb
    · exact hle a ha
    · exact p3 a ha b hb

/-- what Keys leaves -/
def KeysR (kind : Int) (L : List (RKey × Int)) (w : World) (e : Ending) (w' : World) : Prop :=
  ∃ a c l, e = .returned (.slice a l.length c) ∧ OwnAt 60 2 eeR w' a c l ∧ l.Perm ((L.filter fun p => decide (p.2 ≠ 0)).map (·.1)) ∧ l.Pairwise (fun x y => cfK kind x y < 0) ∧ (∀ b ∈ ablk a, w.heap.size ≤ b) ∧ Upd [] w w'

set_option maxHeartbeats 2000000 in
theorem keysR_at (w : World) (rb : Nat) (kind : Int) (L : List (RKey × Int)) (a : Option Addr) (c : Nat) (a2 : Option Addr) (c2 : Nat) (h : RefAt w rb kind L a c a2 c2) (hL : LOk L) (hl : L.length < 1000000) :
    Calls Try.prog 82 #[.pointer (some ⟨rb, 0, none⟩)] w (KeysR kind L w) := by
  have H := Lib.hid h
  have HL := Lib.hid hL
  have hl' := hl
  have c1 := h.k1
  clear h hL
  go_enter Try.func82, Try.ntmps82
  go_wp2
  go_loopg [3, 4] L.length (fun m v3 v4 wr => ∃ (i : Nat) (l : List RKey) (al : Option Addr) (cl : Nat), m + i = L.length ∧ v4 = .int .i64 i ∧ v3 = .slice al l.length cl ∧ OwnAt 60 2 eeR wr al cl l ∧
    l.Perm (((L.take i).filter fun p => decide (p.2 ≠ 0)).map (·.1)) ∧ l.Pairwise (fun x y => cfK kind x y < 0) ∧ (∀ b ∈ ablk al, w.heap.size ≤ b) ∧ Upd [] w wr)
  case atStart => exact ⟨0, [], none, 0, rfl, rfl, rfl, OwnAt.nil _ _ _ _, by simp, by simp, by simp [ablk], Upd.refl _ _⟩
  case round =>
    obtain ⟨i, l, al, cl, hm, rfl, rfl, hown, hperm, hsort, hfr, hu⟩ := hrel
    have hr := H.out.keep hu (by simp) (by simp) (by simp)
    have hll : l.length ≤ i := by
      rw [hperm.length_eq, List.length_map]
      exact Nat.le_trans (List.length_filter_le _ _) (by simp; omega)
    have c1 := hr.k1
    have c2' := hr.k2
    have HM := Lib.hid hm
    have HP := Lib.hid hperm
    have HS := Lib.hid hsort
    have HF := Lib.hid hfr
    have HR := Lib.hid hr
    have HO := Lib.hid hown
    clear hm hperm hsort hfr hr hown
    by_cases hi : i < L.length
    · have hii : (i : Int) < L.length := by omega
      obtain ⟨⟨x, n⟩, hx⟩ : ∃ p, L[i]? = some p := ⟨L[i], List.getElem?_eq_getElem hi⟩
      obtain ⟨b2, hb2, d2⟩ := HR.out.count hx
      obtain ⟨b1, hb1, n0, n1⟩ := HR.out.name hx
      subst hb2 hb1
      simp only at d2 n0 n1
      have HX := Lib.hid hx
      clear hx
      have htake := HX.out
      clear htake
      have htake : L.take (i + 1) = L.take i ++ [(x, n)] := by
        have hx := HX.out
        obtain ⟨hlt, he⟩ := List.getElem?_eq_some_iff.1 hx
        rw [List.take_succ_eq_append_getElem hlt, he]
      have HT := Lib.hid htake
      clear htake
      by_cases h0 : n = 0
      · subst h0
        go_wp2
        have hm := HM.out
        go_roundg (L.length - (i + 1))
        case measure => omega
        case rel =>
          refine ⟨i + 1, l, al, cl, by omega, rfl, rfl, HO.out, ?_, HS.out, HF.out, hu⟩
          rw [HT.out]
          simpa using HP.out
      · have hnb : (n == 0) = false := by simpa using h0
        go_upto_block 2 with fail
        go_cut [5] (fun v5 wx => ∃ j : Nat, j ≤ l.length ∧ v5 = .int .i64 j ∧ (∀ (t : Nat) (q : RKey), t < j → l[t]? = some q → cfK kind q x < 0) ∧ (∀ q : RKey, l[j]? = some q → 0 ≤ cfK kind q x) ∧ Grew wr wx)
        case first =>
          have hh0 := HR.out.k0
          go_wp2_with fail
          go_loopg [5] (l.length + 1) (fun m v5 wq => ∃ j : Nat, m + j = l.length + 1 ∧ j ≤ l.length ∧ v5 = .int .i64 j ∧ (∀ (t : Nat) (q : RKey), t < j → l[t]? = some q → cfK kind q x < 0) ∧ Grew wr wq)
          case atStart => exact ⟨0, rfl, Nat.zero_le _, rfl, fun t q ht => absurd ht (by omega), Grew.refl _⟩
          case round =>
            obtain ⟨j, hjm, hjl, rfl, hjs, hg⟩ := hrel
            have HJS := Lib.hid hjs
            have HJM := Lib.hid hjm
            clear hjs hjm
            have k0 := hg.upd.cellS hh0 (by simp)
            have k1 := hg.upd.cellS c1 (by simp)
            have m0 := hg.upd.cellS n0 (by simp)
            have m1 := hg.upd.cellS n1 (by simp)
            by_cases hj : j < l.length
            · have hjj : (j : Int) < l.length := by omega
              obtain ⟨y, hy⟩ : ∃ y, l[j]? = some y := ⟨l[j], List.getElem?_eq_getElem hj⟩
              obtain ⟨g, off, rfl, hc⟩ := (HO.out.keep hg.upd (by simp)).rd elemR.len j y hy
              have y0 := hc 0 _ rfl
              have y1 := hc 1 _ rfl
              clear hc
              simp only [Nat.add_zero] at y0
              have HY := Lib.hid hy
              clear hy
              have hord := fun W => order_any kind y.s x.s y.n x.n W
              change ∀ W, Calls _ _ _ W fun e w' => e = .returned (.int .i64 (cfK kind y x)) ∧ Grew W w' at hord
              have HORD := Lib.hid hord
              clear hord
              go_wp2_with fail
              by_cases hlt : cfK kind y x < 0
              all_goals
                generalize hz : cfK kind y x = z at HORD hlt
                have HZ := Lib.hid hz
                clear hz
                go_region_held3 (fun w' => w'.cell? ⟨rb, 0, none⟩ = some (.int .i64 kind) ∧ w'.cell? ⟨g, off + j * 2, none⟩ = some (.string y.s.s) ∧ w'.cell? ⟨g, off + j * 2 + 1, none⟩ = some (.int .i64 y.n) ∧ w'.cell? ⟨rb, 1, none⟩ = some (.slice (some ⟨b1, 0, none⟩) L.length c) ∧ w'.cell? ⟨b1, i * 2, none⟩ = some (.string x.s.s) ∧ w'.cell? ⟨b1, i * 2 + 1, none⟩ = some (.int .i64 x.n)) (go_keep)
                  (first | (go_at_call 83; refine (HORD.out _).mono ?_; rintro e w5 ⟨rfl, hg5⟩; have z0 := hg5.upd.cellS (show wr.drew.cell? _ = _ from k0) (by simp); have z1 := hg5.upd.cellS (show wr.drew.cell? _ = _ from y0) (by simp); have z2 := hg5.upd.cellS (show wr.drew.cell? _ = _ from y1) (by simp); have z3 := hg5.upd.cellS (show wr.drew.cell? _ = _ from k1) (by simp); have z4 := hg5.upd.cellS (show wr.drew.cell? _ = _ from m0) (by simp); have z5 := hg5.upd.cellS (show wr.drew.cell? _ = _ from m1) (by simp)))
              · go_wp2_with fail
                have hjm := HJM.out
                go_roundg (l.length - j)
                case measure => omega
                case rel =>
                  refine ⟨j + 1, by omega, by omega, rfl, fun t q ht hq => ?_, (hg.drew).trans hg5⟩
                  by_cases htj : t = j
                  · subst htj
                    rw [HY.out] at hq
                    cases hq
                    rw [HZ.out]; exact hlt
                  · exact HJS.out t q (by omega) hq
              · go_wp2_with fail
                go_meet
                refine ⟨j, hjl, rfl, HJS.out, fun q hq => ?_, hg.drew.trans hg5⟩
                rw [HY.out] at hq
                cases hq
                rw [HZ.out]; omega
            · have hjj : ¬ (j : Int) < l.length := by omega
              have hdj : decide ((j : Int) < l.length) = false := by simpa using hjj
              go_wp2_with fail
              go_quiet (fail)
              go_wp2_with fail
              go_meet
              exact ⟨j, hjl, rfl, HJS.out, (fun q hq => by rw [List.getElem?_eq_none (by omega)] at hq; cases hq), hg.drewN _⟩
        case rest =>
          obtain ⟨j, hjl, rfl, hlow, hhigh, hg⟩ := hcut
          have k1 := hg.upd.cellS c1 (by simp)
          have m0 := hg.upd.cellS n0 (by simp)
          have m1 := hg.upd.cellS n1 (by simp)
          have HLO := Lib.hid hlow
          have HHI := Lib.hid hhigh
          have HOC := Lib.hid (HO.out.keep hg.upd (by simp))
          have hcap := HO.out.cap_le
          have hjc : j ≤ cl := by omega
          have HCAP := Lib.hid hcap
          clear hlow hhigh hcap
          have hlit := fun W : World => (OwnAt.lit (e := 60) elemR.len W [x] (by simp [maxLen]) #[.string x.s.s, .int .i64 x.n] rfl)
          have HLIT := Lib.hid hlit
          clear hlit
          have hwlt := hg.upd.size
          have hal := HO.out.lt
          have HAL := Lib.hid hal
          clear hal
          have hb63 : l.length + 1 ≤ 1000000 := by omega
          go_wp2_with (first
            | (refine wpList_slice_to rfl _ _ _ rfl elemR rfl rfl hjc ?_)
            | (refine wpList_slice_from rfl _ _ _ rfl elemR (xs := l) (j := j) (c := cl) (kh := .i64) ((((HOC.out.keep HW1.out.1 (by simp [ablk])).keep ((Upd.refl [] w1).alloc _) (by simp)).keep HW3.out.1 HW1.out.2.2.2).rd elemR.len) (by simp [Act.eval, Act.put]) (by simp [Act.eval, Act.put]) hjl HCAP.out.1 ?_; intro af hrf hbf)
            | (at_builtin; refine wpList_append_rep rfl _ _ 28 rfl elemR (xs := l.take j ++ [x]) (ys := l.drop j) (aa := a3) (c := c3) (a2 := af) (c2 := cl - j) HW3.out.2.2 hrf (by simp [Act.eval, Act.put, Nat.min_eq_left hjl]) (by simp [Act.eval, Act.put]) (by simp [maxLen]; omega) (by simp; omega) ?_; intro a4 c4 w4 ho4 hu4 hor4 hnn4)
            | (at_builtin; refine wpList_append_rep rfl _ _ 28 rfl elemR (xs := l.take j) (ys := [x]) (aa := a1) (c := c1') (a2 := some ⟨w1.heap.size, 0, none⟩) (c2 := 1) (HW1.out.2.2.1.keep ((Upd.refl [] w1).alloc _) (by simp)) ((HLIT.out w1).rd elemR.len) (by simp [Act.eval, Act.put, Nat.min_eq_left hjl]) (by simp [Act.eval, Act.put]) (by simp [maxLen]; omega) (by simp; omega) ?_; intro a3 c3 w3 ho3' hu3 hor3 hnn3; have HW3 := Lib.hid (And.intro hu3 (And.intro hor3 ho3')); clear hu3 hor3 ho3' hnn3)
            | (at_builtin; refine wpList_append_rep rfl _ _ 28 rfl elemR (xs := ([] : List RKey)) (ys := l.take j) (aa := none) (c := 0) (a2 := al) (c2 := cl) (OwnAt.nil _ _ _ _) (Rd.take j (HOC.out.rd elemR.len)) (by simp [Act.eval, Act.put]) (by simp [Act.eval, Act.put, Nat.min_eq_left hjl]) (by simp [maxLen]; omega) (by simp; omega) ?_; intro a1 c1' w1 ho1 hu1 hor1 hnn1; have k1' := hu1.cellS k1 (by simp [ablk]); have m0' := hu1.cellS m0 (by simp [ablk]); have m1' := hu1.cellS m1 (by simp [ablk]); simp only [List.nil_append] at ho1; have hne13 : ∀ b ∈ ablk al, b ∉ ablk a1 := (fun b hb hb2 => by have := HAL.out b hb; rcases hor1 with rfl | rfl <;> simp [ablk] at hb2; omega); have HW1 := Lib.hid (And.intro hu1 (And.intro hor1 (And.intro ho1 hne13))); clear hu1 hor1 hnn1 ho1 hne13))
          have hm := HM.out
          have hu1 := HW1.out.1
          have hu3 := HW3.out.1
          have hsz1 := hu1.size
          have hsz3 := hu3.size
          have hwr := hu.size
          have e3 : ∀ b ∈ ablk a1, wc.heap.size ≤ b := fun b hb => by
            rcases HW1.out.2.1 with rfl | rfl <;> simp [ablk] at hb
            omega
          have e4 : ∀ b ∈ ablk a3, wc.heap.size ≤ b := fun b hb => by
            rcases HW3.out.2.1 with rfl | rfl
            · exact e3 b hb
            · simp [ablk] at hb; omega
          have e5 : ∀ b ∈ ablk a4, wc.heap.size ≤ b := fun b hb => by
            rcases hor4 with rfl | rfl
            · exact e4 b hb
            · simp [ablk] at hb
              have : (w1.alloc (.cells #[.string x.s.s, .int .i64 x.n] 60)).heap.size = w1.heap.size + 1 := by simp
              omega
          go_roundg (L.length - (i + 1))
          case measure => omega
          case rel =>
            have hlen : (l.take j ++ [x] ++ l.drop j).length = j + (l.length - j + 1) := by simp; omega
            refine ⟨i + 1, l.take j ++ [x] ++ l.drop j, a4, c4, by omega, rfl, by rw [hlen], by simpa using ho4, ?_, ?_, fun b hb => by have := e5 b hb; omega, ?_⟩
            · rw [HT.out, List.filter_append, List.map_append]
              have e6 : (List.filter (fun p : RKey × Int => decide (p.2 ≠ 0)) [(x, n)]).map (·.1) = [x] := by simp [h0]
              rw [e6]
              have p1 : (l.take j ++ [x] ++ l.drop j).Perm (l ++ [x]) := by
                have h7 : (l.take j ++ [x] ++ l.drop j).Perm (x :: (l.take j ++ l.drop j)) := by
                  rw [List.append_assoc]; exact List.perm_middle
                rw [List.take_append_drop] at h7
                exact h7.trans (List.perm_append_singleton x l).symm
              exact p1.trans (HP.out.append_right [x])
            · refine insert_sorted kind HS.out (fun hxl => ?_) hjl HLO.out HHI.out
              have h8 := HP.out.mem_iff.1 hxl
              obtain ⟨p, hp, hpx⟩ := List.mem_map.1 h8
              obtain ⟨t, ht, hpt⟩ := List.getElem_of_mem (List.mem_filter.1 hp).1
              simp at ht
              have h9 : L[t]? = some p := by
                rw [← hpt]; simp
              have hnd := HL.out.nd
              obtain ⟨l1, g1⟩ := List.getElem?_eq_some_iff.1 h9
              obtain ⟨l2, g2⟩ := List.getElem?_eq_some_iff.1 HX.out
              have := List.pairwise_iff_getElem.1 hnd t i (by simpa using l1) (by simpa using l2) (by omega)
              simp [g1, g2] at this
              exact this hpx
            · exact (((((hu.trans hg.upd).then hu1 (by simp [ablk])).alloc _).then hu3 (fun b hb hlt => by have := e3 b hb; omega))).then hu4 (fun b hb hlt => by have := e4 b hb; omega)
    · have hii : ¬ (i : Int) < L.length := by omega
      go_wp2
      go_ret
      refine ⟨al, cl, l, rfl, HO.out, ?_, HS.out, HF.out, hu⟩
      have := HP.out
      rwa [List.take_of_length_le (by omega)] at this

theorem keysR (F : List Nat) (w : World) (rb : Nat) (kind : Int) (L : List (RKey × Int)) (h : RefF F w rb kind L) (hL : LOk L) (hl : L.length < 1000000) :
    Calls Try.prog 82 #[.pointer (some ⟨rb, 0, none⟩)] w (KeysR kind L w) := by
  obtain ⟨a, c, a2, c2, hr, hF⟩ := h
  exact keysR_at w rb kind L a c a2 c2 hr hL hl
end Go.Proofs.Ytcdmdpgfadopcaa
