/-
  sluicelaw05: one count of one time; MultiRange: the statement MultiRangeSaid, in full, without conditions.
-/
import Derived.Test.YtcdmdpgfadopcaaLawMulti2
import Derived.Test.YtcdmdpgfadopcaaLawRow
namespace Go.Proofs.Ytcdmdpgfadopcaa
open Go.Slu Go.MapKept Go.RowKit Go.Sort

/-- a Multi in which at most the count of x is not 0: it is v -/
def MR (w : World) (u tb mb cb : Nat) (x : TimeK) (v : Int) : Prop :=
  ∃ M a c l, MulAt w u tb mb cb M a c l ∧ (∀ y, cnt M y = if y = x then v else 0) ∧ M.length ≤ 100 ∧ l.length ≤ 1000000 ∧ l.Nodup ∧ okC v = true
section
variable {w w' : World} {u tb mb cb : Nat} {x : TimeK} {v : Int}
theorem MR.keep0 (h : MR w u tb mb cb x v) (hu : Upd [] w w') : MR w' u tb mb cb x v := by
  obtain ⟨M, a, c, l, h1, h2⟩ := h
  exact ⟨M, a, c, l, h1.keep0 hu, h2⟩
theorem MR.made (h : MulAt w u tb mb cb [] none 0 []) : MR w u tb mb cb x 0 := ⟨[], none, 0, [], h, fun y => by simp [cnt, lk], by simp, by simp, by simp, by decide⟩
theorem mr_len {M K : List (TimeK × Int)} (hd : (M.map (·.1)).Nodup) (hc : ∀ y ∈ M.map (·.1), y = x) : M.length ≤ 1 := by
  have := nodup_len hd (U := [x]) (fun y hy => by simp [hc y hy])
  simpa using this
theorem keys_only {g : Nat} {M : List (TimeK × Int)} (h : TallyTk ekT w tb mb g M) (hc : ∀ y, cnt M y = if y = x then v else 0) : (∀ y ∈ M.map (·.1), y = x ∧ v ≠ 0) := fun y hy => by
  obtain ⟨p, hp, rfl⟩ := List.mem_map.1 hy
  have h1 := cnt_at (MapRep.nodup kvTime.ops h.map) (show (p.1, p.2) ∈ M from hp)
  have h2 := (h.nz p hp).1
  rw [hc] at h1
  by_cases e : p.1 = x
  · rw [if_pos e] at h1; exact ⟨e, by omega⟩
  · rw [if_neg e] at h1; omega
/-- 'Count' -/
theorem mrCount (h : MR w u tb mb cb x v) : Calls Try.prog 70 #[.pointer (some ⟨u, 0, none⟩), ekT x] w fun e w' => e = .returned (.int .i64 v) ∧ Upd [] w w' := by
  obtain ⟨M, a, c, l, h1, h2, _⟩ := h
  refine (countM h1 x).mono fun e w' ⟨he, hu⟩ => ⟨?_, hu⟩
  rw [he, h2, if_pos rfl]
/-- 'Len' of an empty one -/
theorem mrLen (h : MR w u tb mb cb x 0) : Calls Try.prog 69 #[.pointer (some ⟨u, 0, none⟩)] w fun e w' => e = .returned (.int .i64 0) ∧ Upd [] w w' := by
  obtain ⟨M, a, c, l, h1, h2, _⟩ := h
  refine (lenM h1).mono fun e w' ⟨he, hu⟩ => ⟨?_, hu⟩
  have : M = [] := by
    cases M with
    | nil => rfl
    | cons p M => exact absurd rfl (keys_only h1.t h2 p.1 (by simp)).2
  rw [he, this]
  rfl
/-- behind an Apply whose deltas are of x, and sum to s -/
def MrAp (u tb mb cb : Nat) (x : TimeK) (v : Int) (s : Int) (ok : Bool) (w : World) (e : Ending) (w' : World) : Prop :=
  if ok then ∃ ao k co, e = .returned (.tuple #[.slice ao (k : Nat) co, .int .i64 0]) ∧ MR w' u tb mb cb x (v + s) ∧ Upd [mb, cb] w w'
  else e = .returned (.tuple #[.slice none 0 0, .int .i64 12]) ∧ MR w' u tb mb cb x v ∧ Upd [mb, cb] w w'
theorem mrApply (h : MR w u tb mb cb x v) {D : List (TimeK × Int)} {s : Int} (hs : ∀ y, tot D y = if y = x then s else 0) (hD : D.length ≤ 2) {ad : Option Addr} {cd : Nat} (hrd : Rd 4 eeD w ad D) :
    Calls Try.prog 61 #[.pointer (some ⟨u, 0, none⟩), .slice ad D.length cd] w (MrAp u tb mb cb x v s (D.all (fun d => okC d.2) && okC (v + s)) w) := by
  obtain ⟨M, a, c, l, h1, h2, h3, h4, h5, h6⟩ := id h
  refine (applyM h1 (cd := cd) hrd (by omega) h4 h5).mono fun e w' hA => ?_
  have hiff : OkAll M D ↔ (D.all (fun d => okC d.2) && okC (v + s)) = true := by
    unfold OkAll
    rw [Bool.and_eq_true, List.all_eq_true]
    refine and_congr Iff.rfl ⟨fun h => ?_, fun h y => ?_⟩
    · have := h x; rwa [h2, hs, if_pos rfl, if_pos rfl] at this
    · rw [h2, hs]
      by_cases e : y = x
      · rw [if_pos e, if_pos e]; exact h
      · rw [if_neg e, if_neg e]; decide
  rcases hA with ⟨ho, M', a', c', K, ao, co, o, rfl, hc, hl, hK, hm, hfr, how, hfo, hdo, hp, hso, hu⟩ | ⟨hno, rfl, hu⟩
  · have hok := hiff.1 ho
    rw [hok]
    have hc' : ∀ y, cnt M' y = if y = x then v + s else 0 := fun y => by
      rw [hc, h2, hs]
      by_cases e : y = x
      · simp [e]
      · simp [e]
    have hd := MapRep.nodup kvTime.ops hm.t.map
    have hM1 : M'.length ≤ 1 := by
      have := nodup_len hd (U := [x]) (fun y hy => by simp [(keys_only hm.t hc' y hy).1])
      simpa using this
    have hfl := (frontL_sub M' K).length_le
    have hkl := hK.len
    simp only [Bool.and_eq_true] at hok
    exact ⟨ao, o.length, co, rfl, ⟨M', a', c', _, hm, hc', by omega, by omega, (hK.perm.nodup_iff.2 hd).sublist (frontL_sub M' K), hok.2⟩, hu⟩
  · have hok : (D.all (fun d => okC d.2) && okC (v + s)) = false := by
      rw [Bool.eq_false_iff]; exact fun h => hno (hiff.2 h)
    rw [hok]
    exact ⟨rfl, h.keep0 hu, hu.mono (by simp)⟩
/-- one delta -/
theorem mrApply1 (h : MR w u tb mb cb x v) (n : Int) (ok : Bool) (hok : (okC n && okC (v + n)) = ok) :
    Calls Try.prog 61 #[.pointer (some ⟨u, 0, none⟩), .slice (some ⟨w.heap.size, 0, none⟩) 1 1] (w.alloc (.cells #[.int .u64 x.a, .int .u64 x.b, .int .u64 x.c, .int .i64 n] 117))
      (MrAp u tb mb cb x v n ok (w.alloc (.cells #[.int .u64 x.a, .int .u64 x.b, .int .u64 x.c, .int .i64 n] 117))) := by
  have := mrApply (h.keep0 ((Upd.refl [] w).alloc (.cells #[.int .u64 x.a, .int .u64 x.b, .int .u64 x.c, .int .i64 n] 117))) (D := [(x, n)]) (s := n) (fun y => by simp [tot, eq_comm]) (by simp) (cd := 1)
    ((OwnAt.lit (e := 117) elemD.len w [(x, n)] (by simp [maxLen]) #[.int .u64 x.a, .int .u64 x.b, .int .u64 x.c, .int .i64 n] rfl).rd elemD.len)
  rw [show (([(x, n)] : List (TimeK × Int)).all (fun d => okC d.2) && okC (v + n)) = ok by simpa using hok] at this
  exact this
/-- two, that come to nothing -/
theorem mrApply2 (h : MR w u tb mb cb x v) (n m : Int) (hn : okC n = true) (hm : okC m = true) (h0 : n + m = 0) :
    Calls Try.prog 61 #[.pointer (some ⟨u, 0, none⟩), .slice (some ⟨w.heap.size, 0, none⟩) 2 2] (w.alloc (.cells #[.int .u64 x.a, .int .u64 x.b, .int .u64 x.c, .int .i64 n, .int .u64 x.a, .int .u64 x.b, .int .u64 x.c, .int .i64 m] 117))
      (MrAp u tb mb cb x v 0 true (w.alloc (.cells #[.int .u64 x.a, .int .u64 x.b, .int .u64 x.c, .int .i64 n, .int .u64 x.a, .int .u64 x.b, .int .u64 x.c, .int .i64 m] 117))) := by
  have hv : okC v = true := by obtain ⟨_, _, _, _, _, _, _, _, _, h6⟩ := h; exact h6
  have := mrApply (h.keep0 ((Upd.refl [] w).alloc (.cells #[.int .u64 x.a, .int .u64 x.b, .int .u64 x.c, .int .i64 n, .int .u64 x.a, .int .u64 x.b, .int .u64 x.c, .int .i64 m] 117))) (D := [(x, n), (x, m)]) (s := 0) (fun y => by by_cases e : x = y <;> simp [tot, e, h0]) (by simp) (cd := 2)
    ((OwnAt.lit (e := 117) elemD.len w [(x, n), (x, m)] (by simp [maxLen]) #[.int .u64 x.a, .int .u64 x.b, .int .u64 x.c, .int .i64 n, .int .u64 x.a, .int .u64 x.b, .int .u64 x.c, .int .i64 m] rfl).rd elemD.len)
  rw [show (([(x, n), (x, m)] : List (TimeK × Int)).all (fun d => okC d.2) && okC (v + 0)) = true by simp [hn, hm, hv]] at this
  exact this
end
end Go.Proofs.Ytcdmdpgfadopcaa
namespace Go.Proofs.Ytcdmdpgfadopcaa
open Go.Slu Go.MapKept Go.RowKit Go.Sort
set_option maxHeartbeats 4000000 in
set_option maxRecDepth 20000 in
theorem range05_any (w : World) (x : TimeK) (n over : Int) (hn1 : -9223372036854775808 ≤ n) (hn2 : n ≤ 9223372036854775807) (ho1 : -9223372036854775808 ≤ over) (ho2 : over ≤ 9223372036854775807) :
    Calls Try.prog 13 #[ekT x, .int .i64 n, .int .i64 over] w fun e w' => e = .returned (.bool true) ∧ Upd [] w w' := by
  have hu := (Upd.refl [] w).alloc (.cells #[.int .u64 x.a, .int .u64 x.b, .int .u64 x.c] 50)
  have x0 := cell_new w #[.int .u64 x.a, .int .u64 x.b, .int .u64 x.c] 50 0 (v := .int .u64 x.a) rfl
  have x1 := cell_new w #[.int .u64 x.a, .int .u64 x.b, .int .u64 x.c] 50 1 (v := .int .u64 x.b) rfl
  have x2 := cell_new w #[.int .u64 x.a, .int .u64 x.b, .int .u64 x.c] 50 2 (v := .int .u64 x.c) rfl
  have HU := Lib.hid hu
  have hnw := Lib.hid (fun W => newM W)
  have hkn := Lib.hid (fun W => known05_any W)
  have hpb : Hid (w.heap.size < (w.alloc (.cells #[.int .u64 x.a, .int .u64 x.b, .int .u64 x.c] 50)).heap.size) := Lib.hid (by simp)
  clear hu
  go_enter Try.func13, Try.ntmps13
  go_upto_region 1 with fail
  generalize w.alloc (.cells #[.int .u64 x.a, .int .u64 x.b, .int .u64 x.c] 50) = wA at *
  go_upto_region 4 with (first
    | (go_at_call 59; refine (hnw.out _).mono ?_; rintro e w1 ⟨u, tb, mb, cb, rfl, hm, hf, hu⟩; have HM1 := Lib.hid (MR.made (x := x) hm); have HF1 := Lib.hid hf; have HU1 := Lib.hid hu; replace x0 := hu.cellS x0 (by simp); replace x1 := hu.cellS x1 (by simp); replace x2 := hu.cellS x2 (by simp); clear hm hf hu)
    | (go_at_call 60; refine (hkn.out _).mono ?_; rintro e w2 ⟨rfl, hu⟩; have HM2 := Lib.hid (HM1.out.keep0 hu); have HU2 := Lib.hid (HU1.out.trans hu); replace x0 := hu.cellS x0 (by simp); replace x1 := hu.cellS x1 (by simp); replace x2 := hu.cellS x2 (by simp); clear hu))
  have hX : Hid (w.heap.size ∉ [mb, cb]) := Lib.hid (by have h1 := HF1.out mb (by simp); have h2 := HF1.out cb (by simp); have h3 := hpb.out; simp; omega)
  have h0 : Hid (∀ b ∈ [mb, cb], b < w.heap.size → b ∈ ([] : List Nat)) := Lib.hid (fun b hb hlt => by have h1 := HF1.out b (by simp at hb ⊢; omega); have h3 := hpb.out; omega)
  by_cases hn : okC n = true
  · have hnb := (okC_iff n).1 hn
    have hk := Lib.hid (mrApply1 HM2.out n true (by simp [hn]))
    have HN := Lib.hid hn
    clear hn hn1 hn2
    go_upto_region 10 with (first
      | (go_at_call 61; refine hk.out.mono ?_; rintro e w3 hap; obtain ⟨ao, k, co, rfl, hm, hu⟩ := (show ∃ ao k co, _ from hap); have HM3 := Lib.hid (by simpa using hm : MR w3 u tb mb cb x n); have HU3 := Lib.hid hu; replace x0 := hu.cellS (((Upd.refl [] w2).alloc _).cellS x0 (by simp)) hX.out; replace x1 := hu.cellS (((Upd.refl [] w2).alloc _).cellS x1 (by simp)) hX.out; replace x2 := hu.cellS (((Upd.refl [] w2).alloc _).cellS x2 (by simp)) hX.out; clear hm hu hap)
      | (go_at_call 70; refine (mrCount HM3.out).mono ?_; rintro e w4 ⟨rfl, hu⟩; have HM4 := Lib.hid (HM3.out.keep0 hu); have HU4 := Lib.hid hu; replace x0 := hu.cellS x0 (by simp); replace x1 := hu.cellS x1 (by simp); replace x2 := hu.cellS x2 (by simp); clear hu))
    have HU5 := Lib.hid ((((HU.out.trans HU2.out).alloc _).then HU3.out h0.out).trans HU4.out)
    by_cases hob : okC over = true ∧ okC (n + over) = true
    · have hk1 := Lib.hid (mrApply1 HM4.out over true (by simp [hob.1, hob.2]))
      have hb1 := (okC_iff over).1 hob.1
      have hb2 := (okC_iff (n + over)).1 hob.2
      have hw := wrapS (n := n + over) (by omega) (by omega)
      clear hob
      obtain ⟨hw1, hw2⟩ := hw
      go_upto_region 14 with (go_at_call 61; refine hk1.out.mono ?_; rintro e w5 hap; obtain ⟨ao', k', co', rfl, hm, hu⟩ := (show ∃ ao k co, _ from hap); have HM5 := Lib.hid (by simpa using hm : MR w5 u tb mb cb x (n + over)); have HUaw5 := Lib.hid hu; replace x0 := hu.cellS (((Upd.refl [] w4).alloc _).cellS x0 (by simp)) hX.out; replace x1 := hu.cellS (((Upd.refl [] w4).alloc _).cellS x1 (by simp)) hX.out; replace x2 := hu.cellS (((Upd.refl [] w4).alloc _).cellS x2 (by simp)) hX.out; clear hm hu hap)
      have HU6 := Lib.hid ((HU5.out.alloc _).then HUaw5.out h0.out)
      go_upto_region 16 with (go_at_call 70; refine (mrCount HM5.out).mono ?_; rintro e w7 ⟨rfl, hu⟩; have HM7 := Lib.hid (HM5.out.keep0 hu); have HU7 := Lib.hid (HU6.out.trans hu); replace x0 := hu.cellS x0 (by simp); replace x1 := hu.cellS x1 (by simp); replace x2 := hu.cellS x2 (by simp); clear hu)
      by_cases hq : 0 < n + over
      · have hk2 := Lib.hid (mrApply2 HM7.out (2147483647) (-2147483647) (by decide) (by decide) (by decide))
        go_upto_region 19 with (go_at_call 61; refine hk2.out.mono ?_; rintro e w8 hap; obtain ⟨ao', k', co', rfl, hm, hu⟩ := (show ∃ ao k co, _ from hap); have HM8 := Lib.hid (by simpa using hm : MR w8 u tb mb cb x (n + over)); have HU8 := Lib.hid hu; replace x0 := hu.cellS (((Upd.refl [] w7).alloc _).cellS x0 (by simp)) hX.out; replace x1 := hu.cellS (((Upd.refl [] w7).alloc _).cellS x1 (by simp)) hX.out; replace x2 := hu.cellS (((Upd.refl [] w7).alloc _).cellS x2 (by simp)) hX.out; clear hm hu hap)
        go_wp2_with (go_at_call 70; refine (mrCount HM8.out).mono ?_; rintro e w9 ⟨rfl, hu⟩; have HU9 := Lib.hid hu; clear hu)
        go_ret
        exact ⟨by simp, ((HU7.out.alloc _).then HU8.out h0.out).trans HU9.out⟩
      · have hk2 := Lib.hid (mrApply2 HM7.out (-2147483647) (2147483647) (by decide) (by decide) (by decide))
        go_upto_region 19 with (go_at_call 61; refine hk2.out.mono ?_; rintro e w8 hap; obtain ⟨ao', k', co', rfl, hm, hu⟩ := (show ∃ ao k co, _ from hap); have HM8 := Lib.hid (by simpa using hm : MR w8 u tb mb cb x (n + over)); have HU8 := Lib.hid hu; replace x0 := hu.cellS (((Upd.refl [] w7).alloc _).cellS x0 (by simp)) hX.out; replace x1 := hu.cellS (((Upd.refl [] w7).alloc _).cellS x1 (by simp)) hX.out; replace x2 := hu.cellS (((Upd.refl [] w7).alloc _).cellS x2 (by simp)) hX.out; clear hm hu hap)
        go_wp2_with (go_at_call 70; refine (mrCount HM8.out).mono ?_; rintro e w9 ⟨rfl, hu⟩; have HU9 := Lib.hid hu; clear hu)
        go_ret
        exact ⟨by simp, ((HU7.out.alloc _).then HU8.out h0.out).trans HU9.out⟩
    · have hbad : (over < -2147483647) ∨ (2147483647 < over) ∨ ((-2147483647 ≤ over ∧ over ≤ 2147483647) ∧ n + over < -2147483647) ∨ ((-2147483647 ≤ over ∧ over ≤ 2147483647) ∧ 2147483647 < n + over) := by
        rw [okC_iff, okC_iff] at hob
        omega
      have hbo : (okC over && okC (n + over)) = false := by
        rw [Bool.eq_false_iff]; intro h; rw [Bool.and_eq_true] at h; exact hob h
      have hk1 := Lib.hid (mrApply1 HM4.out over false hbo)
      have HB := Lib.hid hbad
      clear hob hbad hbo
      go_upto_region 11 with (go_at_call 61; refine hk1.out.mono ?_; rintro e w5 hap; obtain ⟨rfl, hm, hu⟩ := (show _ ∧ _ from hap); have HM5 := Lib.hid hm; have HUaw5 := Lib.hid hu; replace x0 := hu.cellS (((Upd.refl [] w4).alloc _).cellS x0 (by simp)) hX.out; replace x1 := hu.cellS (((Upd.refl [] w4).alloc _).cellS x1 (by simp)) hX.out; replace x2 := hu.cellS (((Upd.refl [] w4).alloc _).cellS x2 (by simp)) hX.out; clear hm hu hap)
      go_cut [14] (fun v14 wx => v14 = .bool false ∧ wx = w5)
      case first =>
        rcases HB.out with hb | hb | ⟨hb1, hb2⟩ | ⟨hb1, hb2⟩
        · have g1 : ¬ -2147483647 ≤ over := by omega
          go_wp2_with fail
          go_meet
          exact ⟨rfl, rfl⟩
        · have g1 : -2147483647 ≤ over := by omega
          have g2 : ¬ over ≤ 2147483647 := by omega
          go_wp2_with fail
          go_meet
          exact ⟨rfl, rfl⟩
        · obtain ⟨g1, g2⟩ := hb1
          obtain ⟨hw1, hw2⟩ := wrapS (n := n + over) (by omega) (by omega)
          have g3 : ¬ -2147483647 ≤ n + over := by omega
          go_wp2_with fail
          go_meet
          exact ⟨rfl, rfl⟩
        · obtain ⟨g1, g2⟩ := hb1
          obtain ⟨hw1, hw2⟩ := wrapS (n := n + over) (by omega) (by omega)
          have g3 : -2147483647 ≤ n + over := by omega
          have g4 : ¬ n + over ≤ 2147483647 := by omega
          go_wp2_with fail
          go_meet
          exact ⟨rfl, rfl⟩
      case rest =>
        obtain ⟨rfl, rfl⟩ := hcut
        go_upto_region 14 with (go_at_call 70; refine (mrCount HM5.out).mono ?_; rintro e w6 ⟨rfl, hu⟩; have HM6 := Lib.hid (HM5.out.keep0 hu); have HUb := Lib.hid hu; replace x0 := hu.cellS x0 (by simp); replace x1 := hu.cellS x1 (by simp); replace x2 := hu.cellS x2 (by simp); clear hu)
        have HU6 := Lib.hid (((HU5.out.alloc _).then HUaw5.out h0.out).trans HUb.out)
        go_upto_region 16 with (go_at_call 70; refine (mrCount HM6.out).mono ?_; rintro e w7 ⟨rfl, hu⟩; have HM7 := Lib.hid (HM6.out.keep0 hu); have HU7 := Lib.hid (HU6.out.trans hu); replace x0 := hu.cellS x0 (by simp); replace x1 := hu.cellS x1 (by simp); replace x2 := hu.cellS x2 (by simp); clear hu)
        by_cases hq : 0 < n
        · have hk2 := Lib.hid (mrApply2 HM7.out (2147483647) (-2147483647) (by decide) (by decide) (by decide))
          go_upto_region 19 with (go_at_call 61; refine hk2.out.mono ?_; rintro e w8 hap; obtain ⟨ao', k', co', rfl, hm, hu⟩ := (show ∃ ao k co, _ from hap); have HM8 := Lib.hid (by simpa using hm : MR w8 u tb mb cb x (n)); have HU8 := Lib.hid hu; replace x0 := hu.cellS (((Upd.refl [] w7).alloc _).cellS x0 (by simp)) hX.out; replace x1 := hu.cellS (((Upd.refl [] w7).alloc _).cellS x1 (by simp)) hX.out; replace x2 := hu.cellS (((Upd.refl [] w7).alloc _).cellS x2 (by simp)) hX.out; clear hm hu hap)
          go_wp2_with (go_at_call 70; refine (mrCount HM8.out).mono ?_; rintro e w9 ⟨rfl, hu⟩; have HU9 := Lib.hid hu; clear hu)
          go_ret
          exact ⟨by simp, ((HU7.out.alloc _).then HU8.out h0.out).trans HU9.out⟩
        · have hk2 := Lib.hid (mrApply2 HM7.out (-2147483647) (2147483647) (by decide) (by decide) (by decide))
          go_upto_region 19 with (go_at_call 61; refine hk2.out.mono ?_; rintro e w8 hap; obtain ⟨ao', k', co', rfl, hm, hu⟩ := (show ∃ ao k co, _ from hap); have HM8 := Lib.hid (by simpa using hm : MR w8 u tb mb cb x (n)); have HU8 := Lib.hid hu; replace x0 := hu.cellS (((Upd.refl [] w7).alloc _).cellS x0 (by simp)) hX.out; replace x1 := hu.cellS (((Upd.refl [] w7).alloc _).cellS x1 (by simp)) hX.out; replace x2 := hu.cellS (((Upd.refl [] w7).alloc _).cellS x2 (by simp)) hX.out; clear hm hu hap)
          go_wp2_with (go_at_call 70; refine (mrCount HM8.out).mono ?_; rintro e w9 ⟨rfl, hu⟩; have HU9 := Lib.hid hu; clear hu)
          go_ret
          exact ⟨by simp, ((HU7.out.alloc _).then HU8.out h0.out).trans HU9.out⟩
  · have hnb : n < -2147483647 ∨ 2147483647 < n := by
      have : ¬ (-2147483647 ≤ n ∧ n ≤ 2147483647) := fun h => hn ((okC_iff n).2 h)
      omega
    have hn' : okC n = false := by simpa using hn
    have hk := Lib.hid (mrApply1 HM2.out n false (by simp [hn']))
    clear hn hn'
    rcases hnb with hnb | hnb
    · go_upto_region 6 with (go_at_call 61; refine hk.out.mono ?_; rintro e w3 hap; obtain ⟨rfl, hm, hu⟩ := (show _ ∧ _ from hap); have HM3 := Lib.hid hm; have HU3 := Lib.hid hu; replace x0 := hu.cellS (((Upd.refl [] w2).alloc _).cellS x0 (by simp)) hX.out; replace x1 := hu.cellS (((Upd.refl [] w2).alloc _).cellS x1 (by simp)) hX.out; replace x2 := hu.cellS (((Upd.refl [] w2).alloc _).cellS x2 (by simp)) hX.out; clear hm hu hap)
      go_wp2_with (first
        | (go_at_call 70; refine (mrCount HM3.out).mono ?_; rintro e w4 ⟨rfl, hu⟩; have HM4 := Lib.hid (HM3.out.keep0 hu); have HU4 := Lib.hid hu; clear hu)
        | (go_at_call 69; refine (mrLen HM4.out).mono ?_; rintro e w5 ⟨rfl, hu⟩; have HU5 := Lib.hid hu; clear hu))
      go_ret
      exact ⟨rfl, ((((HU.out.trans HU2.out).alloc _).then HU3.out h0.out).trans HU4.out).trans HU5.out⟩
    · have hnb2 : ¬ n < -2147483647 := by omega
      go_upto_region 6 with (go_at_call 61; refine hk.out.mono ?_; rintro e w3 hap; obtain ⟨rfl, hm, hu⟩ := (show _ ∧ _ from hap); have HM3 := Lib.hid hm; have HU3 := Lib.hid hu; replace x0 := hu.cellS (((Upd.refl [] w2).alloc _).cellS x0 (by simp)) hX.out; replace x1 := hu.cellS (((Upd.refl [] w2).alloc _).cellS x1 (by simp)) hX.out; replace x2 := hu.cellS (((Upd.refl [] w2).alloc _).cellS x2 (by simp)) hX.out; clear hm hu hap)
      go_wp2_with (first
        | (go_at_call 70; refine (mrCount HM3.out).mono ?_; rintro e w4 ⟨rfl, hu⟩; have HM4 := Lib.hid (HM3.out.keep0 hu); have HU4 := Lib.hid hu; clear hu)
        | (go_at_call 69; refine (mrLen HM4.out).mono ?_; rintro e w5 ⟨rfl, hu⟩; have HU5 := Lib.hid hu; clear hu))
      go_ret
      exact ⟨rfl, ((((HU.out.trans HU2.out).alloc _).then HU3.out h0.out).trans HU4.out).trans HU5.out⟩
end Go.Proofs.Ytcdmdpgfadopcaa
namespace Go.Proofs.Ytcdmdpgfadopcaa
open Go.Slu Go.MapKept Go.RowKit Go.ChangeShapes Go.WideShapes Go.ChangeAt
theorem cellsTime : Try.prog.cellsOf 50 = 3 := by kernel_rfl
theorem cellsU64 : Try.prog.cellsOf 48 = 1 := by kernel_rfl
theorem list3M {α : Type} {l : List α} (h : l.length = 3) : ∃ a b c, l = [a, b, c] := by
  match l, h with
  | [a, b, c], _ => exact ⟨a, b, c, rfl⟩
theorem u64_wf {n : Int} (h : (Lit.int .u64 n).wf = true) : 0 ≤ n ∧ n ≤ 18446744073709551615 := by
  simpa [Lit.wf, IntKind.min, IntKind.max, IntKind.signed, IntKind.bits] using h
set_option maxRecDepth 100000 in
theorem dec_time {H : Type} {enc : TypeId × Value → H} {w : World} {base : Nat} {sp : Nat → Bool} {hd : Bool} (n : Nat) (cs : List Value) (x : DataW H × List MemPlace) (h : DataW.trod enc Try.prog w base sp hd n 50 cs = some x) : ∃ y : TimeK, cs = eeT y := by
  obtain ⟨xs, m, _, _, hl, hxl, hf⟩ := DataW.trod_struct Try.underlying50 h
  rw [cellsTime] at hl
  obtain ⟨c0, c1, c2, rfl⟩ := list3M hl
  obtain ⟨x0, x1, x2, rfl⟩ := list3M (show xs.length = 3 from hxl)
  have h0 := hf 0 _ rfl
  have h1 := hf 1 _ rfl
  have h2 := hf 2 _ rfl
  obtain ⟨n0, e0, _, w0⟩ := DataW.trod_int Try.underlying48 h0
  obtain ⟨n1, e1, _, w1⟩ := DataW.trod_int Try.underlying48 h1
  obtain ⟨n2, e2, _, w2⟩ := DataW.trod_int Try.underlying48 h2
  cases e0; cases e1; cases e2
  exact ⟨⟨n0, n1, n2, u64_wf w0, u64_wf w1, u64_wf w2⟩, rfl⟩
namespace multiRange
set_option maxRecDepth 100000 in
theorem contract (H : Type) (enc : TypeId × Value → H) (W : World) (base : Nat) (args : Array Value) (ds gs : List (DataW H)) (before : List MemPlace)
    (hval : ∀ (j : Nat) t v, Try.f13.params[j]? = some t → args[j]? = some v → Value.okWide Try.prog W .any base t v)
    (hW : DataW.Whole enc Try.prog Try.f13.params.toList Rows.multiRangeSpec.vars false W args.toList ds gs before) :
    Calls Try.prog 13 args W fun e W' => ∃ v, e = .returned v ∧ Rows.multiRangeSpec.post enc Try.prog Try.f13 false true false false W args v W' := by
  have hW' := hW
  obtain ⟨p, q, hA0, hV, rfl, hfz, hnd⟩ := hW
  have hA : DataW.TrodAll enc Try.prog W 0 (fun _ => true) true Try.f13.params.toList args.toList ds p := hA0
  rw [Try.params13] at hA hval
  obtain ⟨v0, vs0, d0, ds0, p0, q0, hargs, rfl, rfl, h0, r0⟩ := trodAll_cons hA
  obtain ⟨v1, vs1, d1, ds1, p1, q1, rfl, rfl, rfl, h1, r1⟩ := trodAll_cons r0
  obtain ⟨v2, vs2, d2, ds2, p2, q2, rfl, rfl, rfl, h2, r2⟩ := trodAll_cons r1
  obtain ⟨rfl, rfl, rfl⟩ := trodAll_nil r2
  obtain rfl : args = #[v0, v1, v2] := by cases args; simp_all
  obtain ⟨rfl, rfl⟩ := trodVars_none hV
  obtain ⟨cs, rfl, hsz⟩ := okWide_struct Try.underlying50 (hval 0 _ v0 rfl rfl)
  obtain ⟨n1, rfl⟩ := okWide_int Try.underlying2 (hval 1 _ v1 rfl rfl)
  obtain ⟨n2, rfl⟩ := okWide_int Try.underlying2 (hval 2 _ v2 rfl rfl)
  obtain ⟨fu0, hf0⟩ := h0
  obtain ⟨fu1, hf1⟩ := h1
  obtain ⟨fu2, hf2⟩ := h2
  obtain ⟨y, hy⟩ := dec_time fu0 cs.toList _ (by simpa [Value.cells] using hf0)
  obtain ⟨m1, e1, _, hn1⟩ := DataW.trod_int Try.underlying2 hf1
  obtain ⟨m2, e2, _, hn2⟩ := DataW.trod_int Try.underlying2 hf2
  obtain rfl : n1 = m1 := by simpa [Value.cells] using e1
  obtain rfl : n2 = m2 := by simpa [Value.cells] using e2
  obtain rfl : cs = #[.int .u64 y.a, .int .u64 y.b, .int .u64 y.c] := by
    cases cs; simp only [] at hy; rw [hy]
  refine (range05_any W y n1 n2 (i64_of_wf hn1).1 (i64_of_wf hn1).2 (i64_of_wf hn2).1 (i64_of_wf hn2).2).mono fun e W' ⟨he, hu⟩ => ?_
  subst he
  exact ⟨_, rfl, post_law laidOutP rfl (by rw [Try.params13]; intro t ht; simp at ht; rcases ht with rfl | rfl <;> exact ⟨by kernel_rfl, by decide +kernel⟩) hW' (tb := 4) (by kernel_rfl) Try.underlying4 rfl hu.below⟩

set_option maxRecDepth 100000 in
theorem lifted (os : Os) (started : os.Started) (H : Type) (enc : TypeId × Value → H) :
    ReturnsInHanded {} Try.checked os 13 .any (Rows.multiRangeSpec.pre6 enc Try.prog Try.f13 Rows.multiRangeRow.domain false) (Rows.multiRangeSpec.post enc Try.prog Try.f13 false true false false) := by
  refine returnsInHanded_of_change (C := Try.checked) ownKn started (by kernel_rfl) Try.func13
    (ChangeSpec.witness6 (enc := enc) (C := Try.checked) false ⟨#[], #[.agg #[.int .u64 0, .int .u64 0, .int .u64 0], .int .i64 0, .int .i64 0], []⟩ 8 (by kernel_rfl) (by kernel_rfl) (by kernel_rfl) (by kernel_rfl)) ?_
  intro W base args ds gs before hval hW _ _
  exact contract H enc W base args ds gs before hval hW

theorem said : Rows.MultiRangeSaid :=
  OpenClaim.holds_of_wide 13 Try.f13 rfl rfl rfl rfl rfl rfl rfl ⟨rfl, rfl, rfl, rfl, rfl⟩ rfl rfl rfl rfl rfl (by kernel_rfl) Try.func13 (by kernel_rfl)
    (of_decide_eq_true (by kernel_rfl)) (by unfold Func.isWrapper; first | (rw [if_pos (by decide +kernel)]; kernel_rfl) | (rw [if_neg (by decide +kernel)]; exact ⟨rfl, rfl⟩))
    (fun os started H enc _ => lifted os started H enc)
#print axioms said
end multiRange
end Go.Proofs.Ytcdmdpgfadopcaa
