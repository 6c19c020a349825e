/-
  sluicelaw04: filled; the keys that are told twice.
-/
import Derived.Test.YtcdmdpgfadopcaaLawTally16
namespace Go.Proofs.Ytcdmdpgfadopcaa
open Go.Slu Go.MapKept Go.RowKit Go.Sort

theorem tally_okc {T : TypeId} {w : World} {tb mb g : Nat} {M : List (Str × Int)} (h : TallyAt T ekS w tb mb g M) (x : Str) : okC (cnt M x) = true := by
  by_cases hx : x ∈ M.map (·.1)
  · obtain ⟨p, hp, rfl⟩ := List.mem_map.1 hx
    have : cnt M p.1 = p.2 := by unfold cnt; rw [lk_of_mem (MapRep.nodup keysS h.map) (v := p.2) hp]; rfl
    rw [this]; exact (h.nz p hp).2
  · unfold cnt; rw [lk_none.2 hx]; rfl
theorem setM_len (M : List (Str × Int)) (x : Str) (n : Int) : (setM M x n).length ≤ M.length + 1 := by
  unfold setM
  split
  · have := List.length_filter_le (fun p : Str × Int => decide (p.1 ≠ x)) M
    unfold del; omega
  · have := congrArg List.length (put_keys_perm M x n)
    simp only [List.length_map] at this
    rw [this]
    split <;> simp
/-- 'Add', whatever it answers -/
def AddedT (tb mb g : Nat) (M : List (Str × Int)) (w : World) (e : Ending) (w' : World) : Prop :=
  ∃ r M', e = .returned (.int .i64 r) ∧ TallyS w' tb mb g M' ∧ M'.length ≤ M.length + 1 ∧ Upd [mb] w w'
theorem addT (tb mb g : Nat) (M : List (Str × Int)) (x : Str) (n : Int) (w : World) (h : TallyS w tb mb g M) :
    Calls Try.prog 36 #[.pointer (some ⟨tb, 0, none⟩), .string x.s, .int .i64 n] w (AddedT tb mb g M w) := by
  refine (addS tb mb g M x n w h (tally_okc h x)).mono ?_
  rintro e w' ⟨rfl, ht, hu⟩
  refine ⟨_, _, rfl, ht, ?_, hu⟩
  split
  · exact setM_len _ _ _
  · omega

/-- what filled makes -/
def FilledT (w : World) (e : Ending) (w' : World) : Prop :=
  ∃ tb mb M, e = .returned (.pointer (some ⟨tb, 0, none⟩)) ∧ TallyS w' tb mb (gOf 0) M ∧ M.length ≤ 200 ∧ w.heap.size ≤ tb ∧ w.heap.size ≤ mb ∧ Upd [] w w'
set_option maxHeartbeats 1000000 in
set_option maxRecDepth 20000 in
theorem filled_any (w : World) (aa : Option Addr) (xs : List OpS) (ca : Nat) (hrd : Rd 5 eeO w aa xs) (hxl : xs.length ≤ maxLen) :
    Calls Try.prog 33 #[.slice aa xs.length ca] w (FilledT w) := by
  have HRD := Lib.hid hrd
  have hxl' : (xs.length : Int) ≤ 9223372036854775807 := by simp only [maxLen] at hxl; omega
  clear hrd hxl
  have hm := Lib.hid (made_any 0 (.inl rfl) w)
  go_enter Try.func33, Try.ntmps33
  go_wp2_with (go_at_call 14; refine hm.out.mono ?_; rintro e w1 ⟨tb, mb, rfl, ht, htb, hmb, hu⟩; have HT := Lib.hid ht; have HU := Lib.hid hu; have HB := Lib.hid (And.intro htb hmb); clear ht hu htb hmb)
  clear hm
  go_loopg [4, 5, 9] xs.length (fun m v4 v5 v9 wz => ∃ (i : Nat) (M : List (Str × Int)), m + i = xs.length ∧ v9 = .int .i64 i ∧ TallyS wz tb mb (gOf 0) M ∧ M.length ≤ i ∧ M.length ≤ 200 ∧ Upd [] w wz)
  case atStart => exact ⟨0, [], rfl, rfl, HT.out, by simp, by simp, HU.out⟩
  case round =>
    obtain ⟨i, M, hm, rfl, ht, hl1, hl2, hu⟩ := hrel
    clear HT HU
    have HT := Lib.hid ht
    have HM := Lib.hid hm
    have HU := Lib.hid hu
    clear hm ht hu
    by_cases hi : i < xs.length
    · have hii : (i : Int) < xs.length := by omega
      obtain ⟨o, ho⟩ : ∃ o, xs[i]? = some o := ⟨xs[i], List.getElem?_eq_getElem hi⟩
      obtain ⟨b, off, rfl, hc⟩ := HRD.out i o ho
      have y0 := HU.out.cellS (hc 0 _ rfl) (by simp)
      have y1 := HU.out.cellS (hc 1 _ rfl) (by simp)
      have y2 := HU.out.cellS (hc 2 _ rfl) (by simp)
      have y3 := HU.out.cellS (hc 3 _ rfl) (by simp)
      have y4 := HU.out.cellS (hc 4 _ rfl) (by simp)
      clear hc ho
      simp only [Nat.add_zero] at y0
      have z3 := cell_new wr #[.int .i64 o.kd, .int .i64 o.iv, .int .i64 o.jv, .string o.key.s, .int .i64 o.n] 34 3 (v := .string o.key.s) rfl
      have z4 := cell_new wr #[.int .i64 o.kd, .int .i64 o.iv, .int .i64 o.jv, .string o.key.s, .int .i64 o.n] 34 4 (v := .int .i64 o.n) rfl
      have hA := (Upd.refl [] wr).alloc (.cells #[.int .i64 o.kd, .int .i64 o.iv, .int .i64 o.jv, .string o.key.s, .int .i64 o.n] 34)
      have HT1 := Lib.hid (HT.out.keep hA (by simp) (by simp))
      have HU1 := Lib.hid (HU.out.trans hA)
      clear hA HT
      by_cases h200 : i < 200
      · have h2i : (i : Int) < 200 := by omega
        go_wp2_with (go_at_call 36; refine (addT tb mb _ M o.key o.n _ HT1.out).mono ?_; rintro e w6 ⟨r, M', rfl, ht6, hl6, hu6⟩; have HT6 := Lib.hid ht6; have HU6 := Lib.hid hu6; clear ht6 hu6)
        go_roundg (xs.length - (i + 1))
        case measure => have := HM.out; omega
        case rel => exact ⟨i + 1, M', by have := HM.out; omega, rfl, HT6.out, by omega, by omega, HU1.out.then HU6.out (fun x hx hlt => by simp at hx; have := HB.out; omega)⟩
      · have h2i : ¬ (i : Int) < 200 := by omega
        go_wp2_with fail
        go_roundg (xs.length - (i + 1))
        case measure => have := HM.out; omega
        case rel => exact ⟨i + 1, M, by have := HM.out; omega, rfl, HT1.out, by omega, by omega, HU1.out⟩
    · have hii : ¬ (i : Int) < xs.length := by omega
      go_wp2_with fail
      go_ret
      exact ⟨tb, mb, M, rfl, HT.out, hl2, HB.out.1, HB.out.2, HU.out⟩

/-- the keys of a map, in order -/
structure KeyF (M : List (Str × Int)) (K : List Str) : Prop where
  perm : K.Perm (M.map (·.1))
  ord : K.Pairwise fun x y => 0 ≤ cfO 0 y x
theorem KeyF.len {M : List (Str × Int)} {K : List Str} (h : KeyF M K) : K.length = M.length := by simpa using h.perm.length_eq
/-- what Keys tells -/
def KeysT (K : List Str) (w : World) (e : Ending) (w' : World) : Prop :=
  ∃ a c, e = .returned (.slice a K.length c) ∧ OwnAt 9 1 eeS w' a c K ∧ (∀ b ∈ ablk a, w.heap.size ≤ b) ∧ Upd [] w w'
theorem keys_first (tb mb : Nat) (M : List (Str × Int)) (w : World) (h : TallyS w tb mb (gOf 0) M) (hl : M.length ≤ 1000000) :
    Calls Try.prog 34 #[.pointer (some ⟨tb, 0, none⟩)] w fun e w' => ∃ K, KeyF M K ∧ KeysT K w e w' := by
  refine (keysS_any tb mb _ M _ (ordOk_of 0 (.inl rfl)) w h (by omega)).mono ?_
  rintro e w' ⟨a, c, l, rfl, h1, h2, h3, h4, h5⟩
  exact ⟨l, ⟨h2, h3⟩, a, c, rfl, h1, h4, h5⟩
theorem keys_again (tb mb : Nat) (M : List (Str × Int)) (K : List Str) (hK : KeyF M K) (w : World) (h : TallyS w tb mb (gOf 0) M) (hl : M.length ≤ 1000000) :
    Calls Try.prog 34 #[.pointer (some ⟨tb, 0, none⟩)] w (KeysT K w) := by
  refine (keysS_any tb mb _ M _ (ordOk_of 0 (.inl rfl)) w h (by omega)).mono ?_
  rintro e w' ⟨a, c, l, rfl, h1, h2, h3, h4, h5⟩
  have hn := MapRep.nodup keysS h.map
  obtain rfl : l = K := order_ext (cfO_swo 0) (cfO_tot 0) h3 hK.ord (h2.nodup_iff.2 hn) (hK.perm.nodup_iff.2 hn) (fun x => by rw [h2.mem_iff, hK.perm.mem_iff])
  exact ⟨a, c, rfl, h1, h4, h5⟩
end Go.Proofs.Ytcdmdpgfadopcaa
