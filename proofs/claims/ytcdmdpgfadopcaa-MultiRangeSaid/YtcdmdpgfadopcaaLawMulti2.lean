/-
  sluicelaw05: deltas (of equal lists), the methods of a nil Multi, what the answers are; known.
-/
import Derived.Test.YtcdmdpgfadopcaaMulti9
namespace Go.Proofs.Ytcdmdpgfadopcaa
open Go.Slu Go.MapKept Go.RowKit Go.Sort

set_option maxHeartbeats 1000000 in
theorem sameD_any (w : World) (a b : Option Addr) (ca cb : Nat) (l : List (TimeK × Int)) (hlen : l.length ≤ 1099511627776) (ha : Rd 4 eeD w a l) (hb : Rd 4 eeD w b l) :
    Calls Try.prog 109 #[.slice a l.length ca, .slice b l.length cb] w fun e w' => e = .returned (.bool true) ∧ Upd [] w w' := by
  have HA := Lib.hid ha
  have HB := Lib.hid hb
  clear ha hb
  go_enter Try.func109, Try.ntmps109
  go_wp2_with fail
  go_loopg [5, 13] l.length (fun m v5 v13 wr => ∃ i : Nat, m + i = l.length ∧ v5 = .int .i64 i ∧ Upd [] w wr)
  case atStart => exact ⟨0, rfl, rfl, Upd.refl _ _⟩
  case round =>
    obtain ⟨i, hmi, rfl, hu⟩ := hrel
    have HM := Lib.hid hmi
    clear hmi
    by_cases hi : i < l.length
    · have hii : (i : Int) < l.length := by omega
      obtain ⟨x, hx⟩ : ∃ x, l[i]? = some x := ⟨l[i], List.getElem?_eq_getElem hi⟩
      obtain ⟨g1, o1, rfl, hc⟩ := HA.out i x hx
      have y0 := hu.cellS (hc 0 _ rfl) (by simp)
      have y1 := hu.cellS (hc 1 _ rfl) (by simp)
      have y2 := hu.cellS (hc 2 _ rfl) (by simp)
      have y3 := hu.cellS (hc 3 _ rfl) (by simp)
      clear hc
      obtain ⟨g2, o2, rfl, hc⟩ := HB.out i x hx
      have z0 := hu.cellS (hc 0 _ rfl) (by simp)
      have z1 := hu.cellS (hc 1 _ rfl) (by simp)
      have z2 := hu.cellS (hc 2 _ rfl) (by simp)
      have z3 := hu.cellS (hc 3 _ rfl) (by simp)
      clear hc hx
      simp only [Nat.add_zero] at y0 z0
      go_wp2_with fail
      go_quiet (fail)
      go_wp2_with fail
      have hm := HM.out
      go_roundg (l.length - (i + 1))
      case measure => omega
      case rel => exact ⟨i + 1, by omega, rfl, hu.drewN _⟩
    · have hii : ¬ (i : Int) < l.length := by omega
      go_wp2_with fail
      go_ret
      exact ⟨rfl, hu⟩

theorem applyM_nil (v : Value) (w : World) : Calls Try.prog 61 #[.pointer none, v] w fun e w' => e = .returned (.tuple #[.slice none 0 0, .int .i64 0]) ∧ w = w' := by
  go_enter Try.func61, Try.ntmps61
  go_wp2
  go_ret2
  exact ⟨rfl, rfl⟩
theorem frontM_nil (w : World) : Calls Try.prog 67 #[.pointer none] w fun e w' => e = .returned (.slice none 0 0) ∧ w = w' := by
  go_enter Try.func67, Try.ntmps67
  go_wp2
  go_ret
  exact ⟨rfl, rfl⟩
theorem timesM_nil (w : World) : Calls Try.prog 68 #[.pointer none] w fun e w' => e = .returned (.slice none 0 0) ∧ w = w' := by
  go_enter Try.func68, Try.ntmps68
  go_wp2
  go_ret
  exact ⟨rfl, rfl⟩
theorem lenM_nil (w : World) : Calls Try.prog 69 #[.pointer none] w fun e w' => e = .returned (.int .i64 0) ∧ w = w' := by
  go_enter Try.func69, Try.ntmps69
  go_wp2
  go_ret
  exact ⟨rfl, rfl⟩
theorem copyM_nil (w : World) : Calls Try.prog 110 #[.pointer none] w fun e w' => e = .returned (.pointer none) ∧ w = w' := by
  go_enter Try.func110, Try.ntmps110
  go_wp2
  go_ret
  exact ⟨rfl, rfl⟩
theorem countM_nil (x : TimeK) (w : World) : Calls Try.prog 70 #[.pointer none, ekT x] w fun e w' => e = .returned (.int .i64 0) ∧ Upd [] w w' := by
  go_enter Try.func70, Try.ntmps70
  go_wp2
  go_ret
  exact ⟨rfl, (Upd.refl _ _).alloc _⟩
theorem openM_nil (x : TimeK) (w : World) : Calls Try.prog 72 #[.pointer none, ekT x] w fun e w' => e = .returned (.bool false) ∧ Upd [] w w' := by
  go_enter Try.func72, Try.ntmps72
  go_upto_region 1 with fail
  go_quiet (fail)
  go_wp2
  go_ret
  exact ⟨rfl, ((Upd.refl _ _).alloc _).drewN _⟩

/-- the times are those with a count that is not 0 -/
theorem keys_eq {w : World} {tb mb g : Nat} {M : List (TimeK × Int)} (h : TallyTk ekT w tb mb g M) {K K' : List TimeK} (hK : KeyT M K) (hn : K'.Nodup) (hs : K'.Pairwise fun x y => 0 ≤ cmpT y x) (hm : ∀ x, x ∈ K' ↔ cnt M x ≠ 0) : K = K' := by
  have hd := MapRep.nodup kvTime.ops h.map
  refine order_ext cmpT_swo cmpT_tot hK.ord hs (hK.perm.nodup_iff.2 hd) hn (fun x => ?_)
  rw [hK.perm.mem_iff, hm]
  constructor
  · intro hx
    obtain ⟨p, hp, rfl⟩ := List.mem_map.1 hx
    rw [cnt_at hd (show (p.1, p.2) ∈ M from hp)]
    exact (h.nz p hp).1
  · intro hx
    false_or_by_contra
    rename_i hno
    exact hx (by unfold cnt; rw [lk_none.2 hno]; rfl)
/-- a sorted list of deltas with times apart is one alone -/
theorem deltas_eq {o o' : List (TimeK × Int)} (hp : o.Perm o') (hs : o.Pairwise fun x y => 0 ≤ cmpD y x) (hs' : o'.Pairwise fun x y => 0 ≤ cmpD y x) (hn : (o'.map (·.1)).Nodup) : o = o' := by
  have hp1 := hp.map (·.1)
  have hk : o.map (·.1) = o'.map (·.1) :=
    order_ext cmpT_swo cmpT_tot (List.pairwise_map.2 hs) (List.pairwise_map.2 hs') (hp1.nodup_iff.2 hn) hn (fun x => hp1.mem_iff)
  apply List.ext_getElem?
  intro i
  have hi := congrArg (fun l => l[i]?) hk
  simp only [List.getElem?_map] at hi
  cases h1 : o[i]? with
  | none => rw [h1] at hi; cases h2 : o'[i]? with
    | none => rfl
    | some q => rw [h2] at hi; cases hi
  | some p =>
    rw [h1] at hi
    cases h2 : o'[i]? with
    | none => rw [h2] at hi; cases hi
    | some q =>
      rw [h2] at hi
      have he : p.1 = q.1 := by simpa using hi
      have e1 := lk_of_mem hn (show (p.1, p.2) ∈ o' from hp.mem_iff.1 (List.mem_of_getElem? h1))
      have e2 := lk_of_mem hn (show (q.1, q.2) ∈ o' from List.mem_of_getElem? h2)
      rw [he, e2] at e1
      have : p.2 = q.2 := (Option.some.inj e1).symm
      rw [show p = q from Prod.ext he this]
end Go.Proofs.Ytcdmdpgfadopcaa
namespace Go.Proofs.Ytcdmdpgfadopcaa
open Go.Slu Go.MapKept Go.RowKit Go.Sort

def t000 : TimeK := ⟨0, 0, 0, by omega, by omega, by omega⟩
def t100 : TimeK := ⟨1, 0, 0, by omega, by omega, by omega⟩
def t010 : TimeK := ⟨0, 1, 0, by omega, by omega, by omega⟩
def kD1 : List (TimeK × Int) := [(t000, 2)]
def kD2 : List (TimeK × Int) := [(t000, -2), (t100, 1), (t010, 1)]
theorem tot_kD1 (x : TimeK) : tot kD1 x = if x = t000 then 2 else 0 := by
  simp [tot, kD1, eq_comm]
theorem tot_kD2 (x : TimeK) : tot kD2 x = if x = t000 then -2 else if x = t100 then 1 else if x = t010 then 1 else 0 := by
  by_cases h0 : x = t000
  · subst h0; decide
  · by_cases h1 : x = t100
    · subst h1; decide
    · by_cases h2 : x = t010
      · subst h2; decide
      · simp [tot, kD2, h0, h1, h2, fun h => h0 (Eq.symm h), fun h => h1 (Eq.symm h), fun h => h2 (Eq.symm h), Ne.symm h0, Ne.symm h1, Ne.symm h2]
/-- behind the first Apply -/
def Kn1 (u tb mb cb : Nat) (w : World) (e : Ending) (w' : World) : Prop :=
  ∃ M a c ao co, e = .returned (.tuple #[.slice ao 1 co, .int .i64 0]) ∧ MulAt w' u tb mb cb M a c [t000] ∧ (∀ x, cnt M x = tot kD1 x) ∧ M.length ≤ 1 ∧ Rd 4 eeD w' ao [(t000, (1 : Int))] ∧ (∀ b ∈ ablk ao, w.heap.size ≤ b ∧ b ∉ ablk a) ∧ Upd [mb, cb] w w'
theorem kn1 {w : World} {u tb mb cb : Nat} (h : MulAt w u tb mb cb [] none 0 []) {ad : Option Addr} {cd : Nat} (hrd : Rd 4 eeD w ad kD1) :
    Calls Try.prog 61 #[.pointer (some ⟨u, 0, none⟩), .slice ad 1 cd] w (Kn1 u tb mb cb w) := by
  refine (applyM h (D := kD1) (cd := cd) hrd (by simp [kD1]) (by simp) (by simp)).mono fun e w' hA => ?_
  have hok : OkAll [] kD1 := ⟨by decide, fun x => by rw [tot_kD1]; simp only [cnt, lk]; split <;> decide⟩
  rcases hA with ⟨_, M, a, c, K, ao, co, o, rfl, hc, hl, hK, hm, hfr, ho, hfo, hdo, hp, hs, hu⟩ | ⟨h1, _⟩
  · have hc' : ∀ x, cnt M x = tot kD1 x := fun x => by rw [hc]; simp [cnt, lk]
    have hk : K = [t000] := keys_eq hm.t hK (by simp) (by simp) (fun x => by rw [hc', tot_kD1]; by_cases h : x = t000 <;> simp [h])
    subst hk
    have hf : frontL M [t000] = [t000] := by
      have : cnt M t000 = 2 := by rw [hc']; rfl
      simp [frontL, frontStep, this]
    rw [hf] at hm hp
    have hoo : o = [(t000, 1)] := deltas_eq hp hs (by decide) (by decide)
    subst hoo
    exact ⟨M, a, c, ao, co, rfl, hm, hc', by simpa [kD1] using hl, ho.rd elemD.len, fun b hb => ⟨hfo b hb, hdo b hb⟩, hu⟩
  · exact absurd hok h1
/-- behind the second -/
def Kn2 (mb cb : Nat) (a0 : Option Addr) (w : World) (e : Ending) (w' : World) : Prop :=
  ∃ ao co, e = .returned (.tuple #[.slice ao 3 co, .int .i64 0]) ∧ Rd 4 eeD w' ao [(t000, (-1 : Int)), (t010, 1), (t100, 1)] ∧ Upd [mb, cb] w w'
theorem kn2 {w : World} {u tb mb cb : Nat} {M : List (TimeK × Int)} {a : Option Addr} {c : Nat} (h : MulAt w u tb mb cb M a c [t000]) (hM : ∀ x, cnt M x = tot kD1 x) (hl : M.length ≤ 1) {ad : Option Addr} {cd : Nat} (hrd : Rd 4 eeD w ad kD2) :
    Calls Try.prog 61 #[.pointer (some ⟨u, 0, none⟩), .slice ad 3 cd] w (Kn2 mb cb a w) := by
  refine (applyM h (D := kD2) (cd := cd) hrd (by simp [kD2]; omega) (by simp) (by simp)).mono fun e w' hA => ?_
  have hsum : ∀ x, cnt M x + tot kD2 x = if x = t100 then 1 else if x = t010 then 1 else 0 := fun x => by
    rw [hM, tot_kD1, tot_kD2]
    by_cases h0 : x = t000
    · subst h0; decide
    · rw [if_neg h0, if_neg h0, Int.zero_add]
  have hok : OkAll M kD2 := ⟨by decide, fun x => by
    rw [hsum]
    by_cases h1 : x = t100
    · rw [if_pos h1]; decide
    · rw [if_neg h1]
      by_cases h2 : x = t010
      · rw [if_pos h2]; decide
      · rw [if_neg h2]; decide⟩
  rcases hA with ⟨_, M', a', c', K, ao, co, o, rfl, hc, hl, hK, hm, hfr, ho, hfo, hdo, hp, hs, hu⟩ | ⟨h1, _⟩
  · have hc' : ∀ x, cnt M' x = if x = t100 then 1 else if x = t010 then 1 else 0 := fun x => by rw [hc, hsum]
    have hk : K = [t010, t100] := keys_eq hm.t hK (by decide) (by decide) (fun x => by
      rw [hc']
      by_cases h : x = t100
      · simp [h]
      · by_cases h2 : x = t010 <;> simp [h, h2])
    subst hk
    have hf : frontL M' [t010, t100] = [t010, t100] := by
      have h1 : cnt M' t100 = 1 := by rw [hc']; rfl
      have h2 : cnt M' t010 = 1 := by rw [hc']; decide
      have h3 : aheadT t010 t100 = false := by decide
      simp [frontL, frontStep, h1, h2, h3]
    rw [hf] at hm hp
    have hoo : o = [(t000, -1), (t010, 1), (t100, 1)] := deltas_eq (hp.trans (by decide)) hs (by decide) (by decide)
    subst hoo
    exact ⟨ao, co, rfl, ho.rd elemD.len, hu⟩
  · exact absurd hok h1
abbrev kC1 : Obj := .cells #[.int .u64 0, .int .u64 0, .int .u64 0, .int .i64 2] 117
abbrev kC2 : Obj := .cells #[.int .u64 0, .int .u64 0, .int .u64 0, .int .i64 (-2), .int .u64 1, .int .u64 0, .int .u64 0, .int .i64 1, .int .u64 0, .int .u64 1, .int .u64 0, .int .i64 1] 117
theorem kn1' {w : World} {u tb mb cb : Nat} (h : MulAt w u tb mb cb [] none 0 []) :
    Calls Try.prog 61 #[.pointer (some ⟨u, 0, none⟩), .slice (some ⟨w.heap.size, 0, none⟩) 1 1] (w.alloc kC1) (Kn1 u tb mb cb (w.alloc kC1)) :=
  kn1 (h.keep0 ((Upd.refl [] w).alloc _)) ((OwnAt.lit (e := 117) elemD.len w kD1 (by simp [maxLen, kD1]) #[.int .u64 0, .int .u64 0, .int .u64 0, .int .i64 2] rfl).rd elemD.len)
theorem kn2' {w : World} {u tb mb cb : Nat} {M : List (TimeK × Int)} {a : Option Addr} {c : Nat} (h : MulAt w u tb mb cb M a c [t000]) (hM : ∀ x, cnt M x = tot kD1 x) (hl : M.length ≤ 1) :
    Calls Try.prog 61 #[.pointer (some ⟨u, 0, none⟩), .slice (some ⟨w.heap.size, 0, none⟩) 3 3] (w.alloc kC2) (Kn2 mb cb a (w.alloc kC2)) :=
  kn2 (h.keep0 ((Upd.refl [] w).alloc _)) hM hl ((OwnAt.lit (e := 117) elemD.len w kD2 (by simp [maxLen, kD2]) #[.int .u64 0, .int .u64 0, .int .u64 0, .int .i64 (-2), .int .u64 1, .int .u64 0, .int .u64 0, .int .i64 1, .int .u64 0, .int .u64 1, .int .u64 0, .int .i64 1] rfl).rd elemD.len)
abbrev kC3 : Obj := .cells #[.int .u64 0, .int .u64 0, .int .u64 0, .int .i64 1] 117
abbrev kC4 : Obj := .cells #[.int .u64 0, .int .u64 0, .int .u64 0, .int .i64 (-1), .int .u64 0, .int .u64 1, .int .u64 0, .int .i64 1, .int .u64 1, .int .u64 0, .int .u64 0, .int .i64 1] 117
theorem sameD1 {w : World} {a : Option Addr} {c : Nat} (h : Rd 4 eeD w a [(t000, (1 : Int))]) :
    Calls Try.prog 109 #[.slice a 1 c, .slice (some ⟨w.heap.size, 0, none⟩) 1 1] (w.alloc kC3) fun e w' => e = .returned (.bool true) ∧ Upd [] (w.alloc kC3) w' :=
  sameD_any _ a _ c 1 [(t000, (1 : Int))] (by simp) (h.keep' elemD ((Upd.refl [] w).alloc _) (by simp)) ((OwnAt.lit (e := 117) elemD.len w [(t000, (1 : Int))] (by simp [maxLen]) #[.int .u64 0, .int .u64 0, .int .u64 0, .int .i64 1] rfl).rd elemD.len)
theorem sameD3 {w : World} {a : Option Addr} {c : Nat} (h : Rd 4 eeD w a [(t000, (-1 : Int)), (t010, 1), (t100, 1)]) :
    Calls Try.prog 109 #[.slice a 3 c, .slice (some ⟨w.heap.size, 0, none⟩) 3 3] (w.alloc kC4) fun e w' => e = .returned (.bool true) ∧ Upd [] (w.alloc kC4) w' :=
  sameD_any _ a _ c 3 [(t000, (-1 : Int)), (t010, 1), (t100, 1)] (by simp) (h.keep' elemD ((Upd.refl [] w).alloc _) (by simp)) ((OwnAt.lit (e := 117) elemD.len w [(t000, (-1 : Int)), (t010, 1), (t100, 1)] (by simp [maxLen]) #[.int .u64 0, .int .u64 0, .int .u64 0, .int .i64 (-1), .int .u64 0, .int .u64 1, .int .u64 0, .int .i64 1, .int .u64 1, .int .u64 0, .int .u64 0, .int .i64 1] rfl).rd elemD.len)
set_option maxHeartbeats 2000000 in
set_option maxRecDepth 20000 in
theorem known05_any (w : World) : Calls Try.prog 60 #[] w fun e w' => e = .returned (.bool true) ∧ Upd [] w w' := by
  have hn := Lib.hid (newM w)
  go_enter Try.func60, Try.ntmps60
  go_upto_region 4 with (go_at_call 59; refine hn.out.mono ?_; rintro e w1 ⟨u, tb, mb, cb, rfl, hm, hf, hu⟩; have HM1 := Lib.hid hm; have HF1 := Lib.hid hf; have HU1 := Lib.hid hu; clear hm hf hu)
  have hk1 := Lib.hid (kn1' HM1.out)
  go_upto_region 5 with (go_at_call 61; refine hk1.out.mono ?_; rintro e w2 ⟨M, a, c, ao, co, rfl, hm, hc, hl, hr, hf, hu⟩; have HM2 := Lib.hid hm; have HC2 := Lib.hid hc; have HR2 := Lib.hid hr; have HF2 := Lib.hid hf; have HU2 := Lib.hid hu; have hk2 := Lib.hid (kn2' hm hc hl); clear hm hc hr hf hu)
  go_upto_region 6 with (go_at_call 61; refine hk2.out.mono ?_; rintro e w3 ⟨ao3, co3, rfl, hr, hu⟩; have HR3 := Lib.hid hr; have HU3 := Lib.hid hu; clear hr hu)
  have s1 : w1.heap.size < w1.heap.size + 1 := by omega
  have HRa := Lib.hid (HR2.out.keep' elemD ((((Upd.refl [] w2).alloc kC2).mono (Y := [mb, cb]) (by simp)).trans HU3.out) (fun b hb => by
    have h1 := (HF2.out b hb).1
    have h2 := HM1.out.lt
    have h3 := h2 mb (by simp)
    have h4 := h2 cb (by simp)
    simp at h1 ⊢
    omega))
  have hs1 := Lib.hid (sameD1 (c := co) HRa.out)
  clear s1
  go_wp2_with (first
    | (go_at_call 109; refine hs1.out.mono ?_; rintro e w4 ⟨rfl, hu⟩; have HU4 := Lib.hid hu; have hs2 := Lib.hid (sameD3 (c := co3) ((HR3.out.keep' elemD ((Upd.refl [] w3).alloc kC3) (by simp)).keep' elemD hu (by simp))); clear hu hs1)
    | (go_at_call 109; refine hs2.out.mono ?_; rintro e w5 ⟨rfl, hu⟩; have HU5 := Lib.hid hu; clear hu hs2)
    | (go_at_call 61; refine (applyM_nil _ _).mono ?_; rintro e w6 ⟨rfl, rfl⟩)
    | (go_at_call 67; refine (frontM_nil _).mono ?_; rintro e w6 ⟨rfl, rfl⟩)
    | (go_at_call 68; refine (timesM_nil _).mono ?_; rintro e w6 ⟨rfl, rfl⟩)
    | (go_at_call 69; refine (lenM_nil _).mono ?_; rintro e w6 ⟨rfl, rfl⟩)
    | (go_at_call 110; refine (copyM_nil _).mono ?_; rintro e w6 ⟨rfl, rfl⟩)
    | (go_at_call 72; refine (openM_nil t000 _).mono ?_; rintro e w7 ⟨rfl, hu⟩; have HU7 := Lib.hid hu; clear hu)
    | (go_at_call 70; refine (countM_nil t000 _).mono ?_; rintro e w8 ⟨rfl, hu⟩; have HU8 := Lib.hid hu; clear hu))
  go_ret
  refine ⟨rfl, ?_⟩
  have h0 : ∀ b ∈ [mb, cb], b < w.heap.size → b ∈ ([] : List Nat) := fun b hb hlt => by have := HF1.out b (by simp at hb ⊢; omega); omega
  exact (((((((((HU1.out.alloc kC1).then HU2.out h0).alloc kC2).then HU3.out h0).alloc kC3).trans HU4.out).alloc kC4).trans HU5.out).alloc _).trans (HU7.out.trans HU8.out)
end Go.Proofs.Ytcdmdpgfadopcaa
