/-
  multi: sums; Apply, the plain side of it.
-/
import Derived.Test.YtcdmdpgfadopcaaMulti6
import Derived.Test.YtcdmdpgfadopcaaLawTally4
namespace Go.Slu
open Go.MapKept Go.RowKit
section
variable {P : Program} {kt : TypeId} {κ ν : Type} [DecidableEq κ] {ek : κ → Value} {ev : ν → Value} {w : World} {b : Nat} {m : List (κ × ν)}
theorem cnt_val (M : List (κ × Int)) (y : κ) : ((lk M y).map (Value.int .i64)).getD (.int .i64 0) = .int .i64 (cnt M y) := by unfold cnt; cases lk M y <;> rfl
/-- behind 'mapEntry' the map reads as before: an entry newly laid holds the zero -/
theorem MapRep.entry_still {t et : TypeId} (K : KeyOps P kt ek) (ht : P.underlying t = some (.map kt et)) {z0 : ν} (hz : ∀ u : World, (zeroValue et).run P u = .ok (ev z0) u) (h : MapRep ek ev w b m) (x : κ) {r : Value} {w1 : World}
    (hr : (Instr.mapEntry t (.map (some b)) (ek x)).run P w = .ok r w1) : (Instr.lookup t (.map (some b)) (ek x) false).run P w1 = .ok (((lk m x).map ev).getD (ev z0)) w1 := by
  have hd := h.nodup K
  obtain ⟨es, cl, hb, hs, he⟩ := h
  obtain ⟨s1, s2, s3⟩ := hs
  have hlen : es.size = m.length := by have := congrArg List.length he; simpa using this
  rcases MapRep.found K hd he x w with ⟨h1, h2⟩ | ⟨j, p, h1, hj, hp, h2⟩
  · have hno : ∀ e ∈ es.toList, e.key ≠ ek x := fun e hm e2 => by
      obtain ⟨i, hi⟩ := List.getElem?_of_mem hm
      obtain ⟨q, hq, hk, _⟩ := entry_pair he hi
      have : q.1 = x := K.inj _ _ (hk.symm.trans e2)
      exact lk_none.1 h2 (this ▸ List.mem_map_of_mem (f := (·.1)) (List.mem_of_getElem? hq))
    have hst : Stamped (es.push ⟨ek x, ev z0, cl⟩) (cl + 1) := stamped_push ⟨s1, s2, s3⟩ hno
    simp [Instr.mapEntry, run_underlying ht, MapKept.run_getObj_map hb, K.check, h1, hz, MapKept.run_setObj_map _ hb, Result.andThen] at hr
    obtain ⟨_, rfl⟩ := hr
    have hM : MapRep ek ev { w with heap := w.heap.setIfInBounds b (.map (es.push ⟨ek x, ev z0, cl⟩) (cl + 1)) } b (m ++ [(x, z0)]) :=
      ⟨_, _, (heap_set hb).1, hst, by simp [he]⟩
    rw [hM.lookup K ht hz x, ← put_new (lk_none.1 h2), lk_put, h2]
    simp
  · have hjl : j < es.size := by have h4 : j < m.length := (List.getElem?_eq_some_iff.1 hj).1; omega
    have hje : es[j]? = some es[j] := Array.getElem?_eq_getElem hjl
    have hkj : es[j].key = ek x := by
      obtain ⟨q, hq, hk, _⟩ := entry_pair he (show es.toList[j]? = some es[j] by simp)
      rw [hj] at hq; cases hq; rw [hk, hp]
    have hmod : (es.modify j fun e => { e with key := ek x }) = es := by
      apply Array.ext_getElem?
      intro i
      rw [Array.getElem?_modify]
      split
      · rename_i e; subst e; rw [hje]; simp [← hkj]
      · rfl
    simp only [Instr.mapEntry, Sem.run_bind, run_underlying ht, Result.andThen, MapKept.run_getObj_map hb, K.check, h1, hje, Option.map_some, Option.getD_some, hkj, K.stays, hmod, h2, MapKept.run_setObj_map _ hb] at hr
    simp at hr
    obtain ⟨_, rfl⟩ := hr
    have hM : MapRep ek ev { w with heap := w.heap.setIfInBounds b (.map es cl) } b m := ⟨_, _, (heap_set hb).1, ⟨s1, s2, s3⟩, he⟩
    exact hM.lookup K ht hz x
end
end Go.Slu
namespace Go.Proofs.Ytcdmdpgfadopcaa
open Go.Slu Go.MapKept Go.RowKit Go.Sort

/-- what sums tells of a list in which each number may be -/
def SumsOk (l : List (TimeK × Int)) (w : World) (e : Ending) (w' : World) : Prop :=
  ∃ b S, e = .returned (.tuple #[.map (some b), .bool true]) ∧ MapRep ekT (Value.int .i64) w' b S ∧ (∀ x, cnt S x = tot l x) ∧ (∀ x, x ∈ S.map (·.1) ↔ x ∈ l.map (·.1)) ∧ S.length ≤ l.length ∧ w.heap.size ≤ b ∧ Upd [] w w'
def SumsP (l : List (TimeK × Int)) (w : World) (e : Ending) (w' : World) : Prop :=
  ((∀ d ∈ l, okC d.2 = true) ∧ SumsOk l w e w') ∨ ((∃ d ∈ l, okC d.2 = false) ∧ e = .returned (.tuple #[.map none, .bool false]) ∧ Upd [] w w')
theorem okC_bound {n : Int} (h : okC n = true) : -2147483647 ≤ n ∧ n ≤ 2147483647 := by simpa [okC] using h

set_option maxHeartbeats 2000000 in
set_option maxRecDepth 20000 in
theorem sums_any {w : World} {a : Option Addr} {c : Nat} {l : List (TimeK × Int)} (hrd : Rd 4 eeD w a l) (hl : l.length ≤ 1000000000) :
    Calls Try.prog 111 #[.slice a l.length c] w (SumsP l w) := by
  have HRD := Lib.hid hrd
  have hb := Lib.hid (fun n W => beyondM_any n W)
  have hmm := @run_makeMap Try.prog
  clear hrd
  go_enter Try.func111, Try.ntmps111
  go_wp2_with fail
  go_loopg [6, 10] l.length (fun m v6 v10 wz => ∃ (i : Nat) (S : List (TimeK × Int)), m + i = l.length ∧ v10 = .int .i64 i ∧ (∀ d ∈ l.take i, okC d.2 = true) ∧ MapRep ekT (Value.int .i64) wz w.heap.size S ∧ (∀ x, cnt S x = tot (l.take i) x) ∧ (∀ x, x ∈ S.map (·.1) ↔ x ∈ (l.take i).map (·.1)) ∧ S.length ≤ i ∧ Upd [] w wz)
  case atStart => exact ⟨0, [], rfl, rfl, by simp, MapRep.made w, fun x => rfl, by simp, by simp, (Upd.refl [] w).alloc _⟩
  case round =>
    obtain ⟨i, S, hm, rfl, hok, hmp, hcn, hky, hsl, hu⟩ := hrel
    have HM := Lib.hid hm
    have HOK := Lib.hid hok
    have HC := Lib.hid hcn
    have HK := Lib.hid hky
    clear hm hok hcn hky
    by_cases hi : i < l.length
    · have hii : (i : Int) < l.length := by omega
      obtain ⟨p, hp⟩ : ∃ p, l[i]? = some p := ⟨l[i], List.getElem?_eq_getElem hi⟩
      obtain ⟨b', off, rfl, hc⟩ := HRD.out i p hp
      have y0 := hu.cellS (hc 0 _ rfl) (by simp)
      have y1 := hu.cellS (hc 1 _ rfl) (by simp)
      have y2 := hu.cellS (hc 2 _ rfl) (by simp)
      have y3 := hu.cellS (hc 3 _ rfl) (by simp)
      simp only [Nat.add_zero] at y0
      have HP := Lib.hid hp
      clear hc hp
      have z0 := cell_new wr #[.int .u64 p.1.a, .int .u64 p.1.b, .int .u64 p.1.c, .int .i64 p.2] 117 0 (v := .int .u64 p.1.a) rfl
      have z1 := cell_new wr #[.int .u64 p.1.a, .int .u64 p.1.b, .int .u64 p.1.c, .int .i64 p.2] 117 1 (v := .int .u64 p.1.b) rfl
      have z2 := cell_new wr #[.int .u64 p.1.a, .int .u64 p.1.b, .int .u64 p.1.c, .int .i64 p.2] 117 2 (v := .int .u64 p.1.c) rfl
      have z3 := cell_new wr #[.int .u64 p.1.a, .int .u64 p.1.b, .int .u64 p.1.c, .int .i64 p.2] 117 3 (v := .int .i64 p.2) rfl
      have hA := hu.alloc (.cells #[.int .u64 p.1.a, .int .u64 p.1.b, .int .u64 p.1.c, .int .i64 p.2] 117)
      have HMp := Lib.hid (hmp.keep ((Upd.refl [] wr).alloc (.cells #[.int .u64 p.1.a, .int .u64 p.1.b, .int .u64 p.1.c, .int .i64 p.2] 117)) (by simp))
      have hne : Hid (wr.heap.size ≠ w.heap.size) := Lib.hid (by have := hmp.lt; omega)
      have hbp := Lib.hid (hb.out p.2)
      go_upto_region 5 with fail
      generalize wr.alloc (.cells #[.int .u64 p.1.a, .int .u64 p.1.b, .int .u64 p.1.c, .int .i64 p.2] 117) = wA at *
      generalize wr.heap.size = pb at *
      have HA := Lib.hid hA
      clear hmp hu hA y0 y1 y2 y3
      by_cases hq : okC p.2 = true
      · rw [hq] at hbp
        have HQ := Lib.hid hq
        have hw1 : wrap64 (cnt S p.1 + p.2) = cnt S p.1 + p.2 := by
          have h1 := tot_bound (b := 2147483647) (l := l.take i) (fun d hd => okC_bound (HOK.out d hd)) (by omega) p.1
          have h2 := okC_bound hq
          have h3 : (l.take i).length ≤ i := by rw [List.length_take]; omega
          have h4 := HC.out p.1
          exact IntWalk.wrap64_in _ (by omega)
        have hw2 : IntKind.i64.wrap (cnt S p.1 + p.2) = cnt S p.1 + p.2 := by rw [← hw1]; exact IntWalk.i64_in _ (by rw [hw1]; have h1 := tot_bound (b := 2147483647) (l := l.take i) (fun d hd => okC_bound (HOK.out d hd)) (by omega) p.1; have h2 := okC_bound hq; have h3 : (l.take i).length ≤ i := (by rw [List.length_take]; omega); have h4 := HC.out p.1; omega)
        clear hq
        go_upto_region 7 with (go_at_call 112; refine (hbp.out _).mono ?_; rintro e wB ⟨rfl, rfl⟩)
        have l1 : (Instr.lookup 173 (.map (some w.heap.size)) (.agg #[.int .u64 p.1.a, .int .u64 p.1.b, .int .u64 p.1.c]) false).run Try.prog wA.drew = .ok (.int .i64 (cnt S p.1)) wA.drew := by
          have := (show MapRep ekT (Value.int .i64) wA.drew w.heap.size S from HMp.out).lookup kvTime.ops Try.underlying173 zero2 p.1
          rwa [cnt_val] at this
        obtain ⟨w5, st, l2, hu5, he5⟩ := (show MapRep ekT (Value.int .i64) wA.drew w.heap.size S from HMp.out).entry kvTime.ops Try.underlying173 zero2 p.1
        have l4 := (show MapRep ekT (Value.int .i64) wA.drew w.heap.size S from HMp.out).entry_still kvTime.ops Try.underlying173 zero2 p.1 l2
        rw [cnt_val, goInt_eq] at l2
        rw [cnt_val] at l4
        have l4' : (Instr.lookup 173 (.map (some w.heap.size)) (.agg #[.int .u64 p.1.a, .int .u64 p.1.b, .int .u64 p.1.c]) false).run Try.prog w5 = .ok (.int .i64 (cnt S p.1)) w5 := l4
        clear l4
        have k0 := hu5.cellS (show wA.drew.cell? _ = _ from z0) (by simpa using hne.out)
        have k1 := hu5.cellS (show wA.drew.cell? _ = _ from z1) (by simpa using hne.out)
        have k2 := hu5.cellS (show wA.drew.cell? _ = _ from z2) (by simpa using hne.out)
        have k3 := hu5.cellS (show wA.drew.cell? _ = _ from z3) (by simpa using hne.out)
        have l2' : (Instr.mapEntry 173 (.map (some w.heap.size)) (.agg #[.int .u64 p.1.a, .int .u64 p.1.b, .int .u64 p.1.c])).run Try.prog wA.drew = .ok (.tuple #[.int .i64 (cnt S p.1), .int .i64 (st : Nat)]) w5 := l2
        clear l2
        obtain ⟨o5, g1, g2⟩ := he5
        obtain ⟨w6, l3, hm6, hu6⟩ := g2 w5 (cnt S p.1 + p.2) g1
        rw [goInt_eq] at l3
        clear g1 g2
        have HM6 := Lib.hid hm6
        have HU6 : Hid (Upd [w.heap.size] wA w6) := Lib.hid ((Upd.refl _ wA).drew.trans (hu5.trans hu6))
        clear hm6 hu6 hu5
        go_region_law fail
        all_goals
          clear l1 l2' l3 l4' k0 k1 k2 k3 z0 z1 z2 z3 hw1 hw2
          go_wp2_with fail
          go_roundg (l.length - (i + 1))
          case measure => have := HM.out; omega
          case rel =>
            refine ⟨i + 1, put S p.1 (cnt S p.1 + p.2), by have := HM.out; omega, rfl, fun d hd => ?_, HM6.out, fun x => ?_, fun x => ?_, ?_, HA.out.then HU6.out (fun b hb hl => by simp at hb; omega)⟩
            · rw [List.take_add_one, HP.out] at hd
              rcases List.mem_append.1 hd with h | h
              · exact HOK.out d h
              · simp at h; subst h; exact HQ.out
            · rw [tot_take HP.out, ← HC.out x]
              unfold cnt
              rw [lk_put]
              by_cases e : x = p.1
              · subst e; simp
              · rw [if_neg e, if_neg (fun h => e h.symm)]; simp
            · rw [put_keys_perm, List.take_add_one, HP.out]
              simp only [Option.toList_some, List.map_append, List.map_cons, List.map_nil, List.mem_append, List.mem_singleton]
              rw [← HK.out x]
              split
              · rename_i h
                constructor
                · exact .inl
                · rintro (h2 | rfl)
                  · exact h2
                  · exact h
              · simp
            · have := congrArg List.length (put_keys_perm S p.1 (cnt S p.1 + p.2))
              simp only [List.length_map] at this
              rw [this]
              split <;> simp <;> omega
      · have hq' : okC p.2 = false := by simpa using hq
        rw [hq'] at hbp
        have HQ := Lib.hid hq'
        clear hq hq'
        go_wp2_with (go_at_call 112; refine (hbp.out _).mono ?_; rintro e wB ⟨rfl, rfl⟩)
        go_ret2
        exact .inr ⟨⟨p, List.mem_of_getElem? HP.out, HQ.out⟩, rfl, HA.out⟩
    · have hii : ¬ (i : Int) < l.length := by omega
      obtain rfl : i = l.length := by have := HM.out; omega
      go_wp2_with fail
      go_ret2
      have h1 := HOK.out
      have h2 := HC.out
      have h3 := HK.out
      rw [List.take_length] at h1 h2 h3
      exact .inl ⟨h1, w.heap.size, S, rfl, hmp, h2, h3, hsl, Nat.le_refl _, hu⟩
end Go.Proofs.Ytcdmdpgfadopcaa
namespace Go.Proofs.Ytcdmdpgfadopcaa
open Go.Slu Go.MapKept Go.RowKit Go.Sort

def frontStep (M : List (TimeK × Int)) (acc : List TimeK) (k : TimeK) : List TimeK := if 0 < cnt M k then (if acc.any fun y => aheadT y k then acc else acc ++ [k]) else acc
/-- the front of the times with a count above 0, K being the times told in order -/
def frontL (M : List (TimeK × Int)) (K : List TimeK) : List TimeK := K.foldl (frontStep M) []
theorem frontL_take {M : List (TimeK × Int)} {K : List TimeK} {i : Nat} {k : TimeK} (h : K[i]? = some k) : frontL M (K.take (i + 1)) = frontStep M (frontL M (K.take i)) k := by
  unfold frontL
  rw [List.take_add_one, h]
  simp
theorem foldl_sublist (M : List (TimeK × Int)) (K : List TimeK) : ∀ acc pre : List TimeK, acc.Sublist pre → (K.foldl (frontStep M) acc).Sublist (pre ++ K) := by
  induction K with
  | nil => intro acc pre h; simpa using h
  | cons k K ih =>
    intro acc pre h
    have h2 : (frontStep M acc k).Sublist (pre ++ [k]) := by
      unfold frontStep
      split
      · split
        · exact h.trans (List.sublist_append_left _ _)
        · exact h.append (List.Sublist.refl _)
      · exact h.trans (List.sublist_append_left _ _)
    simpa using ih _ _ h2
theorem frontL_sub (M : List (TimeK × Int)) (K : List TimeK) : (frontL M K).Sublist K := by unfold frontL; simpa using foldl_sublist M K [] [] (List.Sublist.refl _)
/-- an earlier time of the order is told ahead of a later one -/
theorem KeyT.told {M : List (TimeK × Int)} {K : List TimeK} (hK : KeyT M K) (hn : (M.map (·.1)).Nodup) {i : Nat} {k y : TimeK} (hk : K[i]? = some k) (hy : y ∈ K.take i) : cmpT y k < 0 := by
  have hnd : K.Nodup := hK.perm.nodup_iff.2 hn
  have hs : (K.take i ++ [k]).Sublist K := by
    have := List.take_sublist (i + 1) K
    rwa [List.take_add_one, hk] at this
  have h1 := (List.pairwise_append.1 (hK.ord.sublist hs)).2.2 y hy k (by simp)
  have h2 := (List.nodup_append.1 (hnd.sublist hs)).2.2 y hy k (by simp)
  false_or_by_contra
  have := cmpT_total y k h2 (by assumption)
  omega
theorem mem_setM {M : List (TimeK × Int)} {x y : TimeK} {n : Int} (h : y ∈ (setM M x n).map (·.1)) : y = x ∨ y ∈ M.map (·.1) := by
  unfold setM at h
  split at h
  · obtain ⟨p, hp, rfl⟩ := List.mem_map.1 h
    exact .inr (List.mem_map_of_mem (List.mem_filter.1 hp).1)
  · obtain ⟨p, hp, rfl⟩ := List.mem_map.1 h
    rcases mem_put hp with rfl | hp
    · exact .inl rfl
    · exact .inr (List.mem_map_of_mem hp)
theorem okC_iff (n : Int) : okC n = true ↔ (-2147483647 ≤ n ∧ n ≤ 2147483647) := by simp [okC]
theorem half_ok {c n : Int} (h1 : okC c = true) (h2 : okC (c + n) = true) : okC (n.tdiv 2) = true ∧ okC (c + n.tdiv 2) = true ∧ okC (n - n.tdiv 2) = true ∧ okC (c + n.tdiv 2 + (n - n.tdiv 2)) = true ∧ wrap64 (n.tdiv 2) = n.tdiv 2 ∧ wrap64 (n - n.tdiv 2) = n - n.tdiv 2 := by
  rw [okC_iff] at *
  have h3 : (0 ≤ n ∧ 2 * n.tdiv 2 ≤ n ∧ n ≤ 2 * n.tdiv 2 + 1) ∨ (n ≤ 0 ∧ n ≤ 2 * n.tdiv 2 ∧ 2 * n.tdiv 2 ≤ n + 1) := by
    rcases Int.le_total 0 n with h | h
    · have := Int.tdiv_eq_ediv_of_nonneg (b := 2) h
      omega
    · have h4 := Int.tdiv_eq_ediv_of_nonneg (a := -n) (b := 2) (by omega)
      rw [Int.neg_tdiv] at h4
      omega
  refine ⟨by omega, by rw [okC_iff]; omega, by rw [okC_iff]; omega, by rw [okC_iff]; omega, ?_, ?_⟩
  · exact IntWalk.wrap64_in _ (by omega)
  · exact IntWalk.wrap64_in _ (by omega)

/-- the deltas may be applied to the counts -/
def OkAll (M D : List (TimeK × Int)) : Prop := (∀ d ∈ D, okC d.2 = true) ∧ ∀ x, okC (cnt M x + tot D x) = true
/-- behind 'Apply' -/
def AppliedOk (u tb mb cb : Nat) (M : List (TimeK × Int)) (l : List TimeK) (D : List (TimeK × Int)) (w : World) (e : Ending) (w' : World) : Prop :=
  ∃ M' a' c' K ao co o, e = .returned (.tuple #[.slice ao o.length co, .int .i64 0]) ∧ (∀ x, cnt M' x = cnt M x + tot D x) ∧ M'.length ≤ M.length + D.length ∧ KeyT M' K ∧ MulAt w' u tb mb cb M' a' c' (frontL M' K) ∧ (∀ b ∈ ablk a', w.heap.size ≤ b) ∧
    OwnAt 117 4 eeD w' ao co o ∧ (∀ b ∈ ablk ao, w.heap.size ≤ b) ∧ (∀ b ∈ ablk ao, b ∉ ablk a') ∧ o.Perm (outL l (frontL M' K)) ∧ o.Pairwise (fun x y => 0 ≤ cmpD y x) ∧ Upd [mb, cb] w w'
def Applied (u tb mb cb : Nat) (M : List (TimeK × Int)) (l : List TimeK) (D : List (TimeK × Int)) (w : World) (e : Ending) (w' : World) : Prop :=
  (OkAll M D ∧ AppliedOk u tb mb cb M l D w e w') ∨ (¬ OkAll M D ∧ e = .returned (.tuple #[.slice none 0 0, .int .i64 12]) ∧ Upd [] w w')
end Go.Proofs.Ytcdmdpgfadopcaa
