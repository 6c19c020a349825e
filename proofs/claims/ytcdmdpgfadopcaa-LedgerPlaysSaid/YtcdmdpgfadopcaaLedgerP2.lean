/-
  sluiceref14: the document's ledger: Changes.
-/
import Derived.Test.YtcdmdpgfadopcaaLedgerP1
import Derived.Deep.RegionHeldLaw
import Derived.Deep.DeepCutAuto
namespace Go.Proofs.Ytcdmdpgfadopcaa
open Go.Slu Go.MapKept Go.RowKit Go.Sort

/-- the stamps that are told of the first i writings -/
structure RefK (L : List (StampK × Int)) (i : Nat) (K : List StampK) : Prop where
  len : K.length ≤ i
  srt : K.Pairwise fun x y => cmpM x y < 0
  mem : ∀ x, x ∈ K ↔ x ∈ (L.take i).map (·.1) ∧ tot L x ≠ 0
section
variable {L : List (StampK × Int)} {i : Nat} {K : List StampK} {p : StampK × Int}
theorem RefK.start (L : List (StampK × Int)) : RefK L 0 [] := ⟨by simp, .nil, by simp⟩
theorem take_keys (hp : L[i]? = some p) : (L.take (i + 1)).map (·.1) = (L.take i).map (·.1) ++ [p.1] := by
  rw [List.take_add_one, hp]; simp
theorem RefK.skip (h : RefK L i K) (hp : L[i]? = some p) (hno : p.1 ∈ (L.take i).map (·.1) ∨ tot L p.1 = 0) : RefK L (i + 1) K :=
  ⟨by have := h.len; omega, h.srt, fun x => by
    rw [h.mem, take_keys hp, List.mem_append, List.mem_singleton]
    constructor
    · rintro ⟨h1, h2⟩; exact ⟨.inl h1, h2⟩
    · rintro ⟨h1 | rfl, h2⟩
      · exact ⟨h1, h2⟩
      · rcases hno with h3 | h3
        · exact ⟨h3, h2⟩
        · exact absurd h3 h2⟩
theorem cmpM_trans (x y z : StampK) (h1 : cmpM x y < 0) (h2 : cmpM y z < 0) : cmpM x z < 0 := by rw [cmpM_lt] at *; exact h1.trans h2
theorem cmpM_total (x y : StampK) (hne : x ≠ y) (h : ¬ cmpM x y < 0) : cmpM y x < 0 := by
  rw [cmpM_lt] at *
  by_cases h2 : LexLt (numsM y) (numsM x)
  · exact h2
  · exact absurd (numsM_inj (LexLt.tot rfl h h2 : numsM x = numsM y)) hne
theorem insBy_len {α : Type} {cf : α → α → Int} (x : α) : ∀ l : List α, (insBy cf x l).length = l.length + 1
  | [] => rfl
  | z :: r => by
    unfold insBy
    split
    · simp [insBy_len x r]
    · simp
theorem RefK.ins (h : RefK L i K) (hp : L[i]? = some p) (hno : p.1 ∉ (L.take i).map (·.1)) (hn : tot L p.1 ≠ 0) : RefK L (i + 1) (insBy cmpM p.1 K) :=
  ⟨by rw [insBy_len]; have := h.len; omega, insBy_sorted cmpM_trans cmpM_total h.srt (fun hx => hno ((h.mem _).1 hx).1), fun x => by
    rw [mem_insBy, h.mem, take_keys hp, List.mem_append, List.mem_singleton]
    constructor
    · rintro (rfl | ⟨h1, h2⟩)
      · exact ⟨.inr rfl, hn⟩
      · exact ⟨.inl h1, h2⟩
    · rintro ⟨h1 | rfl, h2⟩
      · exact .inr ⟨h1, h2⟩
      · exact .inl rfl⟩
end
/-- the document's changes -/
abbrev chT (L : List (StampK × Int)) (K : List StampK) : List (StampK × Int) := K.map fun x => (x, tot L x)
def ToldR (L : List (StampK × Int)) (w : World) (e : Ending) (w' : World) : Prop :=
  ∃ a c K, e = .returned (.slice a K.length c) ∧ OwnAt 105 5 eeCh w' a c (chT L K) ∧ RefK L L.length K ∧ (∀ b ∈ ablk a, w.heap.size ≤ b) ∧ Upd [] w w'

set_option maxHeartbeats 4000000 in
set_option maxRecDepth 20000 in
theorem rChanges {w : World} {rb : Nat} {a : Option Addr} {c : Nat} {L : List (StampK × Int)} (h : RefL w rb a c L) (hL : ROk L) (hl : L.length ≤ 1000000) :
    Calls Try.prog 102 #[.pointer (some ⟨rb, 0, none⟩)] w (ToldR L w) := by
  have hget := Lib.hid (fun W (hW : Upd [] w W) x => rGet (h.keep hW (by simp) (by simp)) hL hl x)
  have c0 := h.c0
  have hcap := h.own.cap_le.1
  have H := Lib.hid h
  clear h
  go_enter Try.func102, Try.ntmps102
  go_wp2_with fail
  clear c0
  go_loopg [3, 4, 5, 6, 8, 9, 10, 11, 17] L.length (fun m v3 v4 v5 v6 v8 v9 v10 v11 v17 wz => ∃ (i : Nat) (K : List StampK) (ao : Option Addr) (co : Nat), m + i = L.length ∧ v17 = .int .i64 i ∧ v3 = .slice ao K.length co ∧ OwnAt 105 5 eeCh wz ao co (chT L K) ∧ RefK L i K ∧ (∀ b ∈ ablk ao, w.heap.size ≤ b) ∧ Upd [] w wz)
  case atStart => exact ⟨0, [], none, 0, rfl, rfl, rfl, OwnAt.nil _ _ _ _, RefK.start L, by simp [ablk], Upd.refl _ _⟩
  case round =>
    obtain ⟨i, K, ao, co, hm, rfl, rfl, ho, hk, hf, hu⟩ := hrel
    have HM := Lib.hid hm
    have HK := Lib.hid hk
    have HF := Lib.hid hf
    clear hm hk hf
    by_cases hi : i < L.length
    · have hii : (i : Int) < L.length := by omega
      obtain ⟨p, hp⟩ : ∃ p, L[i]? = some p := ⟨L[i], List.getElem?_eq_getElem hi⟩
      obtain ⟨g, o, rfl, hc⟩ := (H.out.own.keep hu (by simp)).rd elemCh.len i p hp
      have y0 := hc 0 _ rfl
      have y1 := hc 1 _ rfl
      have y2 := hc 2 _ rfl
      have y3 := hc 3 _ rfl
      have y4 := hc 4 _ rfl
      simp only [Nat.add_zero] at y0
      clear hc
      have z0 := cell_new wr #[.int .i64 p.1.n, .int .u64 p.1.t.a, .int .u64 p.1.t.b, .int .u64 p.1.t.c, .int .i64 p.2] 105 0 (v := .int .i64 p.1.n) rfl
      have z1 := cell_new wr #[.int .i64 p.1.n, .int .u64 p.1.t.a, .int .u64 p.1.t.b, .int .u64 p.1.t.c, .int .i64 p.2] 105 1 (v := .int .u64 p.1.t.a) rfl
      have z2 := cell_new wr #[.int .i64 p.1.n, .int .u64 p.1.t.a, .int .u64 p.1.t.b, .int .u64 p.1.t.c, .int .i64 p.2] 105 2 (v := .int .u64 p.1.t.b) rfl
      have z3 := cell_new wr #[.int .i64 p.1.n, .int .u64 p.1.t.a, .int .u64 p.1.t.b, .int .u64 p.1.t.c, .int .i64 p.2] 105 3 (v := .int .u64 p.1.t.c) rfl
      have z4 := cell_new wr #[.int .i64 p.1.n, .int .u64 p.1.t.a, .int .u64 p.1.t.b, .int .u64 p.1.t.c, .int .i64 p.2] 105 4 (v := .int .i64 p.2) rfl
      have hA := hu.alloc (.cells #[.int .i64 p.1.n, .int .u64 p.1.t.a, .int .u64 p.1.t.b, .int .u64 p.1.t.c, .int .i64 p.2] 105)
      have HO := Lib.hid (ho.keep ((Upd.refl [] wr).alloc (.cells #[.int .i64 p.1.n, .int .u64 p.1.t.a, .int .u64 p.1.t.b, .int .u64 p.1.t.c, .int .i64 p.2] 105)) (by simp))
      have hol := ho.lt
      go_upto_region 5 with fail
      generalize wr.alloc (.cells #[.int .i64 p.1.n, .int .u64 p.1.t.a, .int .u64 p.1.t.b, .int .u64 p.1.t.c, .int .i64 p.2] 105) = wA at *
      have HA := Lib.hid hA
      have HP := Lib.hid hp
      have HZ := Lib.hid (And.intro z0 (And.intro z1 (And.intro z2 z3)))
      have c0 := (H.out.keep hA (by simp) (by simp)).c0
      generalize wr.heap.size = pb at *
      clear hA hp ho hu y0 y1 y2 y3 y4 z0 z1 z2 z3 z4 hol
      go_wp2_with (refine wpList_slice_to rfl _ _ 87 rfl elemCh (aa := some ⟨g, o, none⟩) (n := L.length) (c := c) (j := i) (kh := .i64) rfl rfl (by omega) ?_)
      clear c0
      go_loopg [6, 8, 29] i (fun m v6 v8 v29 wz => ∃ (j : Nat) (f : Bool), m + j = i ∧ v29 = .int .i64 j ∧ v6 = .bool f ∧ (f = true ↔ p.1 ∉ (L.take j).map (·.1)) ∧ Upd [] wA wz)
      case atStart => exact ⟨0, true, rfl, rfl, rfl, by simp, Upd.refl _ _⟩
      case round =>
        obtain ⟨j, f, hm, rfl, rfl, hf, hu⟩ := hrel
        have HM2 := Lib.hid hm
        have HB := Lib.hid hf
        clear hm hf
        by_cases hj : j < i
        · have hjj : (j : Int) < i := by omega
          obtain ⟨q, hq⟩ : ∃ q, L[j]? = some q := ⟨L[j], List.getElem?_eq_getElem (by omega)⟩
          obtain ⟨g', o', hge, hc⟩ := (H.out.own.keep (HA.out.trans hu) (by simp)).rd elemCh.len j q hq
          cases hge
          have y0 := hc 0 _ rfl
          have y1 := hc 1 _ rfl
          have y2 := hc 2 _ rfl
          have y3 := hc 3 _ rfl
          have y4 := hc 4 _ rfl
          simp only [Nat.add_zero] at y0
          clear hc
          have d0 := cell_new wr #[.int .i64 q.1.n, .int .u64 q.1.t.a, .int .u64 q.1.t.b, .int .u64 q.1.t.c, .int .i64 q.2] 105 0 (v := .int .i64 q.1.n) rfl
          have d1 := cell_new wr #[.int .i64 q.1.n, .int .u64 q.1.t.a, .int .u64 q.1.t.b, .int .u64 q.1.t.c, .int .i64 q.2] 105 1 (v := .int .u64 q.1.t.a) rfl
          have d2 := cell_new wr #[.int .i64 q.1.n, .int .u64 q.1.t.a, .int .u64 q.1.t.b, .int .u64 q.1.t.c, .int .i64 q.2] 105 2 (v := .int .u64 q.1.t.b) rfl
          have d3 := cell_new wr #[.int .i64 q.1.n, .int .u64 q.1.t.a, .int .u64 q.1.t.b, .int .u64 q.1.t.c, .int .i64 q.2] 105 3 (v := .int .u64 q.1.t.c) rfl
          have d4 := cell_new wr #[.int .i64 q.1.n, .int .u64 q.1.t.a, .int .u64 q.1.t.b, .int .u64 q.1.t.c, .int .i64 q.2] 105 4 (v := .int .i64 q.2) rfl
          have hA := hu.alloc (.cells #[.int .i64 q.1.n, .int .u64 q.1.t.a, .int .u64 q.1.t.b, .int .u64 q.1.t.c, .int .i64 q.2] 105)
          have x0 := hA.cellS HZ.out.1 (by simp)
          have x1 := hA.cellS HZ.out.2.1 (by simp)
          have x2 := hA.cellS HZ.out.2.2.1 (by simp)
          have x3 := hA.cellS HZ.out.2.2.2 (by simp)
          have hn := take_keys hq
          have HN := Lib.hid hn
          have HU := Lib.hid hA
          clear hA hu hq hn
          cases f with
          | false =>
            go_wp2_with fail
            go_roundg (i - (j + 1))
            case measure => have := HM2.out; omega
            case rel => exact ⟨j + 1, false, by have := HM2.out; omega, rfl, rfl, by have := HB.out; rw [HN.out]; simp at this ⊢; intro h; exact absurd this h, HU.out⟩
          | true =>
            obtain ⟨q1, q2⟩ := q
            simp only at y0 y1 y2 y3 y4 d0 d1 d2 d3 d4 x0 x1 x2 x3 HU HN
            by_cases hqp : q1 = p.1
            · subst hqp
              go_wp2_with (refine wpList_neq_w eqLawM (by simp [Region.wanted, yielded]) _ _ _ rfl (x := p.1) (y := p.1) (by simp [Act.eval]) (by simp [Act.eval]) ?_)
              go_roundg (i - (j + 1))
              case measure => have := HM2.out; omega
              case rel => exact ⟨j + 1, false, by have := HM2.out; omega, rfl, rfl, by rw [HN.out]; simp, HU.out⟩
            · go_wp2_with (refine wpList_neq_w eqLawM (by simp [Region.wanted, yielded]) _ _ _ rfl (x := q1) (y := p.1) (by simp [Act.eval]) (by simp [Act.eval]) ?_)
              go_roundg (i - (j + 1))
              case measure => have := HM2.out; omega
              case rel => exact ⟨j + 1, true, by have := HM2.out; omega, rfl, rfl, by have := HB.out; rw [HN.out]; simp only [true_iff] at this ⊢; simp only [List.mem_append, List.mem_singleton, not_or]; exact ⟨this, fun e => hqp e.symm⟩, HU.out⟩
        · have hjj : ¬ (j : Int) < i := by omega
          obtain rfl : j = i := by have := HM2.out; omega
          have x0 := hu.cellS HZ.out.1 (by simp)
          have x1 := hu.cellS HZ.out.2.1 (by simp)
          have x2 := hu.cellS HZ.out.2.2.1 (by simp)
          have x3 := hu.cellS HZ.out.2.2.2 (by simp)
          have HU := Lib.hid hu
          clear hu
          go_upto_region 12 with (go_at_call 99; refine (hget.out _ (HA.out.trans HU.out) p.1).mono ?_; rintro e wB ⟨rfl, hu⟩; have HB2 := Lib.hid (HU.out.trans hu); replace x0 := hu.cellS x0 (by simp); replace x1 := hu.cellS x1 (by simp); replace x2 := hu.cellS x2 (by simp); replace x3 := hu.cellS x3 (by simp); clear hu)
          have HO2 := Lib.hid (HO.out.keep HB2.out (by simp))
          have HX := Lib.hid (And.intro x0 (And.intro x1 (And.intro x2 x3)))
          clear x0 x1 x2 x3 HO
          cases f with
          | false =>
            go_wp2_with fail
            go_roundg (L.length - (j + 1))
            case measure => have := HM.out; omega
            case rel => exact ⟨j + 1, K, ao, co, by have := HM.out; omega, rfl, rfl, HO2.out, HK.out.skip HP.out (.inl (Classical.byContradiction fun h => by simpa using HB.out.2 h)), HF.out, HA.out.trans HB2.out⟩
          | true =>
            by_cases hz : tot L p.1 = 0
            · go_wp2_with fail
              go_roundg (L.length - (j + 1))
              case measure => have := HM.out; omega
              case rel => exact ⟨j + 1, K, ao, co, by have := HM.out; omega, rfl, rfl, HO2.out, HK.out.skip HP.out (.inr hz), HF.out, HA.out.trans HB2.out⟩
            · have HZ2 := Lib.hid hz
              have HB3 := Lib.hid (HB.out.1 rfl)
              generalize hcx : tot L p.1 = cx at *
              have HCX := Lib.hid hcx
              have hz0 : (cx == 0) = false := by simpa using hz
              have hkl : K.length ≤ 1000000 := by have := HK.out.len; omega
              clear hcx HB HZ HU hz
              go_upto_block 4 with fail
              clear hz0
              go_cut [10] (fun v10 wx => ∃ j2 : Nat, j2 ≤ K.length ∧ v10 = .int .i64 j2 ∧ (∀ k y, k < j2 → K[k]? = some y → cmpM y p.1 < 0) ∧ (∀ y, K[j2]? = some y → ¬ cmpM y p.1 < 0) ∧ Upd [] wB wx)
              case first =>
                go_wp2_with fail
                go_loopg [10] K.length (fun m v10 wz => ∃ j2 : Nat, m + j2 = K.length ∧ v10 = .int .i64 j2 ∧ (∀ k y, k < j2 → K[k]? = some y → cmpM y p.1 < 0) ∧ Upd [] wB wz)
                case atStart => exact ⟨0, rfl, rfl, fun k y h => by omega, Upd.refl _ _⟩
                case round =>
                  obtain ⟨j2, hm, rfl, hlt, hu⟩ := hrel
                  have HM3 := Lib.hid hm
                  have HL3 := Lib.hid hlt
                  have HU3 := Lib.hid hu
                  clear hm hlt hu
                  by_cases hj2 : j2 < K.length
                  · have hjj2 : (j2 : Int) < K.length := by omega
                    obtain ⟨y, hy⟩ : ∃ y, K[j2]? = some y := ⟨K[j2], List.getElem?_eq_getElem hj2⟩
                    obtain ⟨g3, o3, rfl, hc⟩ := HO2.out.rd elemCh.len j2 (y, tot L y) (by simp [hy])
                    have y0 := HU3.out.cellS (hc 0 _ rfl) (by simp)
                    have y1 := HU3.out.cellS (hc 1 _ rfl) (by simp)
                    have y2 := HU3.out.cellS (hc 2 _ rfl) (by simp)
                    have y3 := HU3.out.cellS (hc 3 _ rfl) (by simp)
                    simp only [Nat.add_zero] at y0
                    have x0 := HU3.out.cellS HX.out.1 (by simp)
                    have x1 := HU3.out.cellS HX.out.2.1 (by simp)
                    have x2 := HU3.out.cellS HX.out.2.2.1 (by simp)
                    have x3 := HU3.out.cellS HX.out.2.2.2 (by simp)
                    have HY := Lib.hid hy
                    clear hc hy
                    by_cases hb : cmpM y p.1 < 0
                    · have HBB := Lib.hid hb
                      have hbe := Lib.hid (fun W => behind_any p.1 y W)
                      rw [show decide (cmpM y p.1 < 0) = true by simpa using hb] at hbe
                      clear hb
                      go_wp2_with fail
                      go_region_held3 (fun w' => w'.cell? ⟨pb, 0, none⟩ = some (.int .i64 p.1.n) ∧ w'.cell? ⟨pb, 1, none⟩ = some (.int .u64 p.1.t.a) ∧ w'.cell? ⟨pb, 2, none⟩ = some (.int .u64 p.1.t.b) ∧ w'.cell? ⟨pb, 3, none⟩ = some (.int .u64 p.1.t.c) ∧ w'.cell? ⟨g3, o3 + j2 * 5, none⟩ = some (.int .i64 y.n) ∧ w'.cell? ⟨g3, o3 + j2 * 5 + 1, none⟩ = some (.int .u64 y.t.a) ∧ w'.cell? ⟨g3, o3 + j2 * 5 + 2, none⟩ = some (.int .u64 y.t.b) ∧ w'.cell? ⟨g3, o3 + j2 * 5 + 3, none⟩ = some (.int .u64 y.t.c)) (go_keep)
                        ((go_at_call 131; refine (hbe.out _).mono ?_; rintro e wq ⟨rfl, hu⟩; have hk := fun (pp : Addr) v (h : wr.cell? pp = some v) => hu.cellS (show wr.drew.cell? pp = some v from h) (by simp); have k0 := hk _ _ x0; have k1 := hk _ _ x1; have k2 := hk _ _ x2; have k3 := hk _ _ x3; have k4 := hk _ _ y0; have k5 := hk _ _ y1; have k6 := hk _ _ y2; have k7 := hk _ _ y3; have HU4 := Lib.hid hu; clear hu hk))
                      go_wp2_with fail
                      go_roundg (K.length - (j2 + 1))
                      case measure => have := HM3.out; omega
                      case rel => exact ⟨j2 + 1, by have := HM3.out; omega, rfl, fun k z hk hz => by
                        rcases Nat.lt_or_ge k j2 with h | h
                        · exact HL3.out k z h hz
                        · obtain rfl : k = j2 := by omega
                          rw [HY.out] at hz; cases hz; exact HBB.out, HU3.out.drew.trans HU4.out⟩
                    · have HBB := Lib.hid hb
                      have hbe := Lib.hid (fun W => behind_any p.1 y W)
                      rw [show decide (cmpM y p.1 < 0) = false by simpa using hb] at hbe
                      clear hb
                      go_wp2_with fail
                      go_region_held3 (fun w' => w'.cell? ⟨pb, 0, none⟩ = some (.int .i64 p.1.n) ∧ w'.cell? ⟨pb, 1, none⟩ = some (.int .u64 p.1.t.a) ∧ w'.cell? ⟨pb, 2, none⟩ = some (.int .u64 p.1.t.b) ∧ w'.cell? ⟨pb, 3, none⟩ = some (.int .u64 p.1.t.c) ∧ w'.cell? ⟨g3, o3 + j2 * 5, none⟩ = some (.int .i64 y.n) ∧ w'.cell? ⟨g3, o3 + j2 * 5 + 1, none⟩ = some (.int .u64 y.t.a) ∧ w'.cell? ⟨g3, o3 + j2 * 5 + 2, none⟩ = some (.int .u64 y.t.b) ∧ w'.cell? ⟨g3, o3 + j2 * 5 + 3, none⟩ = some (.int .u64 y.t.c)) (go_keep)
                        ((go_at_call 131; refine (hbe.out _).mono ?_; rintro e wq ⟨rfl, hu⟩; have hk := fun (pp : Addr) v (h : wr.cell? pp = some v) => hu.cellS (show wr.drew.cell? pp = some v from h) (by simp); have k0 := hk _ _ x0; have k1 := hk _ _ x1; have k2 := hk _ _ x2; have k3 := hk _ _ x3; have k4 := hk _ _ y0; have k5 := hk _ _ y1; have k6 := hk _ _ y2; have k7 := hk _ _ y3; have HU4 := Lib.hid hu; clear hu hk))
                      go_wp2_with fail
                      go_meet
                      exact ⟨j2, by omega, rfl, HL3.out, fun z hz => by rw [HY.out] at hz; cases hz; exact HBB.out, HU3.out.drew.trans HU4.out⟩
                  · have hjj2 : ¬ (j2 : Int) < K.length := by omega
                    obtain rfl : j2 = K.length := by have := HM3.out; omega
                    go_wp2_with fail
                    go_quiet (fail)
                    go_wp2_with fail
                    go_meet
                    exact ⟨K.length, by omega, rfl, HL3.out, fun z hz => by simp at hz, HU3.out.drewN _⟩
              case rest =>
                obtain ⟨wx, rfl⟩ : ∃ wx, wx = wc := ⟨_, rfl⟩
                obtain ⟨j2, hj2, rfl, hlt, hge, hu⟩ := hcut
                have hins := Lib.hid (insBy_at (cf := cmpM) (x := p.1) K j2 hj2 hlt hge)
                have HO3 := Lib.hid (HO2.out.keep hu (by simp))
                have HU3 := Lib.hid (HB2.out.trans hu)
                have hpl := Lib.hid (show pb < wx.heap.size from lt_of_cell (hu.cellS HX.out.1 (by simp)))
                have x0 := hu.cellS HX.out.1 (by simp)
                have x1 := hu.cellS HX.out.2.1 (by simp)
                have x2 := hu.cellS HX.out.2.2.1 (by simp)
                have x3 := hu.cellS HX.out.2.2.2 (by simp)
                have hcl : (chT L K).length = K.length := by simp
                clear hlt hge hu HX HO2 HB2
                have hlit := Lib.hid (fun W => OwnAt.lit (e := 105) elemCh.len W [(p.1, cx)] (by simp [maxLen]) #[.int .i64 p.1.n, .int .u64 p.1.t.a, .int .u64 p.1.t.b, .int .u64 p.1.t.c, .int .i64 cx] rfl)
                have hdl : ((chT L K).drop j2).length = K.length - j2 := by simp
                go_wp2_with fail
                go_region_held_law (fun w' => w'.cell? ⟨pb, 0, none⟩ = some (.int .i64 p.1.n) ∧ w'.cell? ⟨pb, 1, none⟩ = some (.int .u64 p.1.t.a) ∧ w'.cell? ⟨pb, 2, none⟩ = some (.int .u64 p.1.t.b) ∧ w'.cell? ⟨pb, 3, none⟩ = some (.int .u64 p.1.t.c)) (first | exact ⟨e0, e1, e2, e3⟩ | go_keep)
                  (first
                    | (refine step_append_rep rfl _ _ 87 rfl elemCh (xs := [(p.1, cx)]) (ys := (chT L K).drop j2) (aa := some ⟨wx.heap.size, 0, none⟩) (c := 1) (a2 := if co = j2 then ao else ao.map (·.add (j2 * 5))) (c2 := co - j2) ((hlit.out wx).keep (Upd.refl [] _).drew (by simp)) (Rd.sliced ((HO3.out.keep (((Upd.refl [] wx).alloc _).drew) (by simp)).rd elemCh.len) (by simp; omega) HO3.out.cap_le.1) (by simp [Act.eval, Act.put]) (by simp [Act.eval, Act.put]) (by simp [maxLen]; omega) (by simp; omega) ?_; intro a' c' w3 ho3 hu3 hor hnn; have hk := fun (pp : Addr) v (h : wx.cell? pp = some v) (hne : pp.block < wx.heap.size) => hu3.cellS (((Upd.refl [] wx).alloc _).drew.cellS h (by simp)) (by simp [ablk]; omega); have e0 := hk _ _ x0 hpl.out; have e1 := hk _ _ x1 hpl.out; have e2 := hk _ _ x2 hpl.out; have e3 := hk _ _ x3 hpl.out; clear hk; have HO4 := Lib.hid ho3; have HU4 := Lib.hid hu3; have HOR := Lib.hid hor; clear ho3 hu3 hor hnn))
                have hco : K.length ≤ co := by have := HO3.out.cap_le.1; simpa using this
                have U4 : Hid (Upd [] wx w3) := Lib.hid (((Upd.refl [] wx).alloc _).drew.then HU4.out (fun b hb hl => by simp [ablk] at hb; omega))
                have HO5 := Lib.hid (HO3.out.keep U4.out (by simp))
                have hlit2 := Lib.hid (OwnAt.lit (e := 105) elemCh.len w3 [] (by simp [maxLen]) #[] rfl)
                have htl : ((chT L K).take j2).length = j2 := by simp; omega
                have htl2 : (([] : List (StampK × Int)) ++ (chT L K).take j2).length = j2 := by simp; omega
                have hyl : ([(p.1, cx)] ++ (chT L K).drop j2).length = K.length - j2 + 1 := by simp
                clear e0 e1 e2 e3 x0 x1 x2 x3 hlit HU4
                go_wp2_with (first
                  | (refine wpList_slice_to rfl _ _ 87 rfl elemCh (aa := ao) (n := K.length) (c := co) (j := j2) (kh := .i64) rfl rfl (by omega) ?_)
                  | (at_builtin; have _q := HO6; refine wpList_append_rep rfl _ _ 87 rfl elemCh (xs := [] ++ (chT L K).take j2) (ys := [(p.1, cx)] ++ (chT L K).drop j2) (aa := a4) (c := c4) (a2 := a') (c2 := c') HO6.out ((HO4.out.keep U6.out (by simp)).rd elemCh.len) (by rw [htl2]; simp [Act.eval]) (by rw [hyl]; simp [Act.eval]) (by rw [htl2, hyl]; simp [maxLen]; omega) (by rw [htl2, hyl]; omega) ?_; rw [show (([] : List (StampK × Int)) ++ (chT L K).take j2 ++ ([(p.1, cx)] ++ (chT L K).drop j2)).length = K.length + 1 by rw [List.length_append, htl2, hyl]; omega]; intro a5 c5 w5 ho5 hu5 hor5 _; have HO7 := Lib.hid ho5; have U7 := Lib.hid hu5; have HOR7 := Lib.hid hor5; clear ho5 hu5 hor5)
                  | (at_builtin; refine wpList_append_rep rfl _ _ 87 rfl elemCh (xs := []) (ys := (chT L K).take j2) (aa := some ⟨w3.heap.size, 0, none⟩) (c := 0) (a2 := ao) (c2 := co) hlit2.out (((HO5.out.keep ((Upd.refl [] w3).alloc _) (by simp)).rd elemCh.len).take j2) (by simp [Act.eval, Act.put]) (by rw [htl]; simp [Act.eval, Act.put]) (by rw [htl]; simp [maxLen]; omega) (by rw [htl]; simp; omega) ?_; rw [htl2]; intro a4 c4 w4 ho4 hu4 hor4 _; have HO6 := Lib.hid ho4; have U6 : Hid (Upd [] w3 w4) := Lib.hid (((Upd.refl [] w3).alloc _).then hu4 (fun b hb hl => by simp [ablk] at hb; omega)); have HOR6 := Lib.hid hor4; clear ho4 hu4 hor4))
                all_goals
                  have s1 := HA.out.size
                  have s2 := HU3.out.size
                  have s3 := U4.out.size
                  have s4 := U6.out.size
                  have hf4 : ∀ b ∈ ablk a4, w3.heap.size ≤ b := fun b hb => by
                    rcases HOR6.out with e | e
                    · rw [e] at hb; simp [ablk] at hb; omega
                    · rw [e] at hb; simp [ablk] at hb; omega
                  go_roundg (L.length - (j + 1))
                  case measure => have := HM.out; omega
                  case rel =>
                    refine ⟨j + 1, insBy cmpM p.1 K, a5, c5, by have := HM.out; omega, rfl, ?_, ?_, HK.out.ins HP.out HB3.out (by rw [HCX.out]; exact HZ2.out), fun b hb => ?_, ((HA.out.trans HU3.out).trans (U4.out.trans U6.out)).then U7.out (fun b hb hl => by have := hf4 b hb; omega)⟩
                    · rw [insBy_len]
                    · have := HO7.out
                      rw [hins.out]
                      simpa [HCX.out] using this
                    · rcases HOR7.out with e | e
                      · rw [e] at hb; have := hf4 b hb; omega
                      · rw [e] at hb; simp [ablk] at hb; omega
    · have hii : ¬ (i : Int) < L.length := by omega
      obtain rfl : i = L.length := by have := HM.out; omega
      go_wp2_with fail
      go_ret
      exact ⟨ao, co, K, rfl, ho, HK.out, HF.out, hu⟩
end Go.Proofs.Ytcdmdpgfadopcaa
