/-
  sluicelaw14: sameChanges, known.
-/
import Derived.Test.YtcdmdpgfadopcaaLedger4
namespace Go.Proofs.Ytcdmdpgfadopcaa
open Go.Slu Go.MapKept Go.RowKit Go.Sort

set_option maxHeartbeats 1000000 in
theorem sameCh_any (w : World) (a b : Option Addr) (ca cb : Nat) (l : List (StampK × Int)) (hlen : l.length ≤ 1099511627776) (ha : Rd 5 eeCh w a l) (hb : Rd 5 eeCh w b l) :
    Calls Try.prog 45 #[.slice a l.length ca, .slice b l.length cb] w fun e w' => e = .returned (.bool true) ∧ Upd [] w w' := by
  have HA := Lib.hid ha
  have HB := Lib.hid hb
  clear ha hb
  go_enter Try.func45, Try.ntmps45
  go_wp2_with fail
  go_loopg [5, 13] l.length (fun m v5 v13 wr => ∃ i : Nat, m + i = l.length ∧ v13 = .int .i64 i ∧ Upd [] w wr)
  case atStart => exact ⟨0, rfl, rfl, Upd.refl _ _⟩
  case round =>
    obtain ⟨i, hmi, rfl, hu⟩ := hrel
    have HM := Lib.hid hmi
    clear hmi
    by_cases hi : i < l.length
    · have hii : (i : Int) < l.length := by omega
      obtain ⟨x, hx⟩ : ∃ x, l[i]? = some x := ⟨l[i], List.getElem?_eq_getElem hi⟩
      obtain ⟨g1, o1, rfl, hc⟩ := HA.out i x hx
      have y0 := hu.cellS (hc 0 _ rfl) (by simp)
      have y1 := hu.cellS (hc 1 _ rfl) (by simp)
      have y2 := hu.cellS (hc 2 _ rfl) (by simp)
      have y3 := hu.cellS (hc 3 _ rfl) (by simp)
      have y4 := hu.cellS (hc 4 _ rfl) (by simp)
      clear hc
      obtain ⟨g2, o2, rfl, hc⟩ := HB.out i x hx
      have z0 := hu.cellS (hc 0 _ rfl) (by simp)
      have z1 := hu.cellS (hc 1 _ rfl) (by simp)
      have z2 := hu.cellS (hc 2 _ rfl) (by simp)
      have z3 := hu.cellS (hc 3 _ rfl) (by simp)
      have z4 := hu.cellS (hc 4 _ rfl) (by simp)
      clear hc hx
      simp only [Nat.add_zero] at y0 z0
      go_wp2_with fail
      go_quiet (fail)
      go_wp2_with fail
      have hm := HM.out
      go_roundg (l.length - (i + 1))
      case measure => omega
      case rel => exact ⟨i + 1, by omega, rfl, hu.drewN _⟩
    · have hii : ¬ (i : Int) < l.length := by omega
      go_wp2_with fail
      go_ret
      exact ⟨rfl, hu⟩

/-- the stamps of the examples -/
def stA : StampK := ⟨3, ⟨1, 0, 0, by omega, by omega, by omega⟩, by omega⟩
def stB : StampK := ⟨0, ⟨5, 0, 0, by omega, by omega, by omega⟩, by omega⟩
theorem stAB : stA ≠ stB := by decide
def KnL (lb tb mb : Nat) (M : List (StampK × Int)) (r : Int) (w : World) (e : Ending) (w' : World) : Prop := e = .returned (.int .i64 r) ∧ LedAt w' lb tb mb M ∧ Upd [mb] w w'
theorem knUse (lb tb mb : Nat) (w : World) (h : LedAt w lb tb mb []) : Calls Try.prog 49 #[.pointer (some ⟨lb, 0, none⟩), ekM stA] w (KnL lb tb mb [(stA, -1)] 0 w) := (lUse h stA).mono fun _ _ h => h
theorem knMake1 (lb tb mb : Nat) (w : World) (h : LedAt w lb tb mb [(stA, -1)]) : Calls Try.prog 50 #[.pointer (some ⟨lb, 0, none⟩), ekM stB] w (KnL lb tb mb [(stA, -1), (stB, 1)] 0 w) := (lMake h stB).mono fun _ _ h => h
theorem knMake2 (lb tb mb : Nat) (w : World) (h : LedAt w lb tb mb [(stA, -1), (stB, 1)]) : Calls Try.prog 50 #[.pointer (some ⟨lb, 0, none⟩), ekM stB] w (KnL lb tb mb [(stA, -1), (stB, 2)] 0 w) := (lMake h stB).mono fun _ _ h => h
theorem knGet (lb tb mb : Nat) (w : World) (h : LedAt w lb tb mb [(stA, -1), (stB, 2)]) : Calls Try.prog 48 #[.pointer (some ⟨lb, 0, none⟩), ekM stA] w (fun e w' => e = .returned (.int .i64 (-1)) ∧ Upd [] w w') := (lGet h stA).mono fun _ _ h => h
theorem knChanges (lb tb mb : Nat) (w : World) (h : LedAt w lb tb mb [(stA, -1), (stB, 2)]) : Calls Try.prog 46 #[.pointer (some ⟨lb, 0, none⟩)] w (fun e w' => ∃ g c, e = .returned (.slice (some ⟨g, 0, none⟩) 2 c) ∧ OwnAt 105 5 eeCh w' (some ⟨g, 0, none⟩) c [(stB, 2), (stA, -1)] ∧ w.heap.size ≤ g ∧ Upd [] w w') := by
  refine (lChanges h (by simp)).mono ?_
  rintro e w' ⟨a, c, l, rfl, h1, h2, h3, h4, h5⟩
  have hl : l = [stB, stA] := by
    refine order_ext cmpM_swo cmpM_tot h3 (by simp; decide) (h2.nodup_iff.2 (by decide)) (by decide) (fun x => ?_)
    rw [h2.mem_iff]
    simp
    exact or_comm
  subst hl
  rcases h1.cases with ⟨_, _, h6⟩ | ⟨g, rfl, _⟩
  · simp at h6
  · exact ⟨g, c, rfl, h1, h4 g (by simp [ablk]), h5⟩

set_option maxHeartbeats 2000000 in
set_option maxRecDepth 20000 in
theorem known14_any (w : World) : Calls Try.prog 43 #[] w fun e w' => e = .returned (.bool true) ∧ Upd [] w w' := by
  have hn := Lib.hid (lNew w)
  go_enter Try.func43, Try.ntmps43
  go_upto_region 4 with (go_at_call 52; refine hn.out.mono ?_; rintro e w1 ⟨lb, tb, mb, rfl, ht, h1, h2, h3, hu⟩; have HT := Lib.hid ht; have HB := Lib.hid (And.intro h1 (And.intro h2 h3)); have HU := Lib.hid hu; clear ht h1 h2 h3 hu)
  have a0 := ((Upd.refl [] (w1.alloc (.cells #[.int .i64 3, .int .u64 1, .int .u64 0, .int .u64 0] 52))).alloc (.cells #[.int .i64 0, .int .u64 5, .int .u64 0, .int .u64 0] 52)).cellS (cell_new w1 #[.int .i64 3, .int .u64 1, .int .u64 0, .int .u64 0] 52 0 (v := .int .i64 3) rfl) (by simp)
  have a1 := ((Upd.refl [] (w1.alloc (.cells #[.int .i64 3, .int .u64 1, .int .u64 0, .int .u64 0] 52))).alloc (.cells #[.int .i64 0, .int .u64 5, .int .u64 0, .int .u64 0] 52)).cellS (cell_new w1 #[.int .i64 3, .int .u64 1, .int .u64 0, .int .u64 0] 52 1 (v := .int .u64 1) rfl) (by simp)
  have a2 := ((Upd.refl [] (w1.alloc (.cells #[.int .i64 3, .int .u64 1, .int .u64 0, .int .u64 0] 52))).alloc (.cells #[.int .i64 0, .int .u64 5, .int .u64 0, .int .u64 0] 52)).cellS (cell_new w1 #[.int .i64 3, .int .u64 1, .int .u64 0, .int .u64 0] 52 2 (v := .int .u64 0) rfl) (by simp)
  have a3 := ((Upd.refl [] (w1.alloc (.cells #[.int .i64 3, .int .u64 1, .int .u64 0, .int .u64 0] 52))).alloc (.cells #[.int .i64 0, .int .u64 5, .int .u64 0, .int .u64 0] 52)).cellS (cell_new w1 #[.int .i64 3, .int .u64 1, .int .u64 0, .int .u64 0] 52 3 (v := .int .u64 0) rfl) (by simp)
  have b0 := cell_new (w1.alloc (.cells #[.int .i64 3, .int .u64 1, .int .u64 0, .int .u64 0] 52)) #[.int .i64 0, .int .u64 5, .int .u64 0, .int .u64 0] 52 0 (v := .int .i64 0) rfl
  have b1 := cell_new (w1.alloc (.cells #[.int .i64 3, .int .u64 1, .int .u64 0, .int .u64 0] 52)) #[.int .i64 0, .int .u64 5, .int .u64 0, .int .u64 0] 52 1 (v := .int .u64 5) rfl
  have b2 := cell_new (w1.alloc (.cells #[.int .i64 3, .int .u64 1, .int .u64 0, .int .u64 0] 52)) #[.int .i64 0, .int .u64 5, .int .u64 0, .int .u64 0] 52 2 (v := .int .u64 0) rfl
  have b3 := cell_new (w1.alloc (.cells #[.int .i64 3, .int .u64 1, .int .u64 0, .int .u64 0] 52)) #[.int .i64 0, .int .u64 5, .int .u64 0, .int .u64 0] 52 3 (v := .int .u64 0) rfl
  have hs : (w1.alloc (.cells #[.int .i64 3, .int .u64 1, .int .u64 0, .int .u64 0] 52)).heap.size = w1.heap.size + 1 := by simp
  rw [hs] at b0 b1 b2 b3
  clear hs
  have hA := ((Upd.refl [] w1).alloc (.cells #[.int .i64 3, .int .u64 1, .int .u64 0, .int .u64 0] 52)).alloc (.cells #[.int .i64 0, .int .u64 5, .int .u64 0, .int .u64 0] 52)
  go_upto_region 6 with fail
  generalize (w1.alloc (.cells #[.int .i64 3, .int .u64 1, .int .u64 0, .int .u64 0] 52)).alloc (.cells #[.int .i64 0, .int .u64 5, .int .u64 0, .int .u64 0] 52) = w2 at *
  have HT2 := Lib.hid (HT.out.keep hA (by simp) (by simp) (by simp))
  have HU2 := Lib.hid (HU.out.trans hA)
  have HM := Lib.hid (show w1.heap.size ∉ [mb] ∧ w1.heap.size + 1 ∉ [mb] from by have := HT.out.lt; simp; omega)
  have HM2 := Lib.hid (show w.heap.size ≤ mb from HB.out.2.2)
  clear hA HT HU hn
  generalize w1.heap.size + 1 = bb at *
  generalize w1.heap.size = ba at *
  go_upto_region 8 with (first
    | (go_at_call 49; refine (knUse lb tb mb _ HT2.out).mono ?_; rintro e w3 ⟨rfl, ht, hu⟩; have HT3 := Lib.hid ht; have HU3 := Lib.hid hu; replace a0 := hu.cellS a0 HM.out.1; replace a1 := hu.cellS a1 HM.out.1; replace a2 := hu.cellS a2 HM.out.1; replace a3 := hu.cellS a3 HM.out.1; replace b0 := hu.cellS b0 HM.out.2; replace b1 := hu.cellS b1 HM.out.2; replace b2 := hu.cellS b2 HM.out.2; replace b3 := hu.cellS b3 HM.out.2; clear ht hu)
    | (go_at_call 50; have _hq := HT4; refine (knMake2 lb tb mb _ HT4.out).mono ?_; rintro e w5 ⟨rfl, ht, hu⟩; have HT5 := Lib.hid ht; have HU5 := Lib.hid hu; replace a0 := hu.cellS a0 HM.out.1; replace a1 := hu.cellS a1 HM.out.1; replace a2 := hu.cellS a2 HM.out.1; replace a3 := hu.cellS a3 HM.out.1; replace b0 := hu.cellS b0 HM.out.2; replace b1 := hu.cellS b1 HM.out.2; replace b2 := hu.cellS b2 HM.out.2; replace b3 := hu.cellS b3 HM.out.2; clear ht hu)
    | (go_at_call 50; refine (knMake1 lb tb mb _ HT3.out).mono ?_; rintro e w4 ⟨rfl, ht, hu⟩; have HT4 := Lib.hid ht; have HU4 := Lib.hid hu; replace a0 := hu.cellS a0 HM.out.1; replace a1 := hu.cellS a1 HM.out.1; replace a2 := hu.cellS a2 HM.out.1; replace a3 := hu.cellS a3 HM.out.1; replace b0 := hu.cellS b0 HM.out.2; replace b1 := hu.cellS b1 HM.out.2; replace b2 := hu.cellS b2 HM.out.2; replace b3 := hu.cellS b3 HM.out.2; clear ht hu)
    | (go_at_call 46; refine (knChanges lb tb mb _ HT5.out).mono ?_; rintro e w6 ⟨g, cg, rfl, ho, hg, hu⟩; have HT6 := Lib.hid (HT5.out.keep hu (by simp) (by simp) (by simp)); have HO := Lib.hid ho; have HU6 := Lib.hid hu; replace a0 := hu.cellS a0 (by simp); replace a1 := hu.cellS a1 (by simp); replace a2 := hu.cellS a2 (by simp); replace a3 := hu.cellS a3 (by simp); replace b0 := hu.cellS b0 (by simp); replace b1 := hu.cellS b1 (by simp); replace b2 := hu.cellS b2 (by simp); replace b3 := hu.cellS b3 (by simp); clear ho hg hu))
  obtain ⟨g', o', hge, hc⟩ := HO.out.rd elemCh.len 0 (stB, 2) rfl
  cases hge
  obtain ⟨g', o', hge, hd⟩ := HO.out.rd elemCh.len 1 (stA, -1) rfl
  cases hge
  have c0 : w6.cell? ⟨g, 0, none⟩ = some (.int .i64 0) := hc 0 _ rfl
  have c1 : w6.cell? ⟨g, 1, none⟩ = some (.int .u64 5) := hc 1 _ rfl
  have c2 : w6.cell? ⟨g, 2, none⟩ = some (.int .u64 0) := hc 2 _ rfl
  have c3 : w6.cell? ⟨g, 3, none⟩ = some (.int .u64 0) := hc 3 _ rfl
  have c4 : w6.cell? ⟨g, 4, none⟩ = some (.int .i64 2) := hc 4 _ rfl
  have c5 : w6.cell? ⟨g, 5, none⟩ = some (.int .i64 3) := hd 0 _ rfl
  have c6 : w6.cell? ⟨g, 6, none⟩ = some (.int .u64 1) := hd 1 _ rfl
  have c7 : w6.cell? ⟨g, 7, none⟩ = some (.int .u64 0) := hd 2 _ rfl
  have c8 : w6.cell? ⟨g, 8, none⟩ = some (.int .u64 0) := hd 3 _ rfl
  have c9 : w6.cell? ⟨g, 9, none⟩ = some (.int .i64 (-1)) := hd 4 _ rfl
  clear hc hd
  have hget := Lib.hid (knGet lb tb mb)
  go_region_held3 (fun w' => w'.cell? ⟨ba, 0, none⟩ = some (.int .i64 3) ∧ w'.cell? ⟨ba, 1, none⟩ = some (.int .u64 1) ∧ w'.cell? ⟨ba, 2, none⟩ = some (.int .u64 0) ∧ w'.cell? ⟨ba, 3, none⟩ = some (.int .u64 0) ∧ w'.cell? ⟨bb, 0, none⟩ = some (.int .i64 0) ∧ w'.cell? ⟨bb, 1, none⟩ = some (.int .u64 5) ∧ w'.cell? ⟨bb, 2, none⟩ = some (.int .u64 0) ∧ w'.cell? ⟨bb, 3, none⟩ = some (.int .u64 0) ∧ w'.cell? ⟨g, 0, none⟩ = some (.int .i64 0) ∧ w'.cell? ⟨g, 1, none⟩ = some (.int .u64 5) ∧ w'.cell? ⟨g, 2, none⟩ = some (.int .u64 0) ∧ w'.cell? ⟨g, 3, none⟩ = some (.int .u64 0) ∧ w'.cell? ⟨g, 4, none⟩ = some (.int .i64 2) ∧ w'.cell? ⟨g, 5, none⟩ = some (.int .i64 3) ∧ w'.cell? ⟨g, 6, none⟩ = some (.int .u64 1) ∧ w'.cell? ⟨g, 7, none⟩ = some (.int .u64 0) ∧ w'.cell? ⟨g, 8, none⟩ = some (.int .u64 0) ∧ w'.cell? ⟨g, 9, none⟩ = some (.int .i64 (-1))) (go_keep)
    (first
      | (go_at_call 51; refine (lLen (HT6.out.keep (Upd.refl [] w6).drew (by simp) (by simp) (by simp))).mono ?_; rintro e w7 ⟨rfl, rfl⟩)
      | (go_at_call 48; refine (hget.out _ (HT6.out.keep (Upd.refl [] w6).drew (by simp) (by simp) (by simp))).mono ?_; rintro e w8 ⟨rfl, hu⟩; have ka0 := hu.cellS (show w6.drew.cell? _ = _ from a0) (by simp); have ka1 := hu.cellS (show w6.drew.cell? _ = _ from a1) (by simp); have ka2 := hu.cellS (show w6.drew.cell? _ = _ from a2) (by simp); have ka3 := hu.cellS (show w6.drew.cell? _ = _ from a3) (by simp); have kb0 := hu.cellS (show w6.drew.cell? _ = _ from b0) (by simp); have kb1 := hu.cellS (show w6.drew.cell? _ = _ from b1) (by simp); have kb2 := hu.cellS (show w6.drew.cell? _ = _ from b2) (by simp); have kb3 := hu.cellS (show w6.drew.cell? _ = _ from b3) (by simp); have kc0 := hu.cellS (show w6.drew.cell? _ = _ from c0) (by simp); have kc1 := hu.cellS (show w6.drew.cell? _ = _ from c1) (by simp); have kc2 := hu.cellS (show w6.drew.cell? _ = _ from c2) (by simp); have kc3 := hu.cellS (show w6.drew.cell? _ = _ from c3) (by simp); have kc4 := hu.cellS (show w6.drew.cell? _ = _ from c4) (by simp); have kc5 := hu.cellS (show w6.drew.cell? _ = _ from c5) (by simp); have kc6 := hu.cellS (show w6.drew.cell? _ = _ from c6) (by simp); have kc7 := hu.cellS (show w6.drew.cell? _ = _ from c7) (by simp); have kc8 := hu.cellS (show w6.drew.cell? _ = _ from c8) (by simp); have kc9 := hu.cellS (show w6.drew.cell? _ = _ from c9) (by simp); have HU8 := Lib.hid hu; clear hu))
  go_wp2_with fail
  go_ret
  have h0 : ∀ b ∈ [mb], b < w.heap.size → b ∈ ([] : List Nat) := fun b hb hlt => by simp at hb; have := HM2.out; omega
  exact ⟨rfl, ((((HU2.out.then HU3.out h0).then HU4.out h0).then HU5.out h0).trans HU6.out).drew.trans HU8.out⟩
end Go.Proofs.Ytcdmdpgfadopcaa
