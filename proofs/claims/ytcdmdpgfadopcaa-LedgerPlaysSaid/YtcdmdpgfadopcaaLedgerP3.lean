/-
  sluicelaw14: alike.
-/
import Derived.Test.YtcdmdpgfadopcaaLedgerP2
namespace Go.Proofs.Ytcdmdpgfadopcaa
open Go.Slu Go.MapKept Go.RowKit Go.Sort

theorem keyL_of_ref {w : World} {lb tb mb : Nat} {M L : List (StampK × Int)} {K : List StampK} (h : LedAt w lb tb mb M) (hk : RefK L L.length K) (he : ∀ x, cnt M x = tot L x) : KeyL M K where
  perm := (List.perm_ext_iff_of_nodup (hk.srt.imp fun {x y} hxy e => by subst e; rw [cmpM_lt] at hxy; exact LexLt.irr _ hxy) (MapRep.nodup kvStamp.ops h.t.map)).2 fun x => by
    rw [hk.mem, List.take_length, led_keys h, he]
    exact ⟨fun h => h.2, fun h => ⟨Classical.byContradiction fun hx => h (tot_no hx), h⟩⟩
  ord := hk.srt.imp fun {x y} hxy => by
    rcases Int.lt_or_le (cmpM y x) 0 with h | h
    · rw [cmpM_lt] at h hxy
      exact absurd (h.trans hxy) (LexLt.irr _)
    · exact h

set_option maxHeartbeats 4000000 in
set_option maxRecDepth 20000 in
theorem alike14 {w : World} {lb tb mb rb : Nat} {a : Option Addr} {c : Nat} {M L : List (StampK × Int)} (h : LedAt w lb tb mb M) (hr : RefL w rb a c L) (hL : ROk L) (hl : L.length ≤ 1000) (he : ∀ x, cnt M x = tot L x) (s : StampK) :
    Calls Try.prog 57 #[.pointer (some ⟨lb, 0, none⟩), .pointer (some ⟨rb, 0, none⟩), ekM s] w fun e w' => e = .returned (.bool true) ∧ Upd [] w w' := by
  have hu := (Upd.refl [] w).alloc (.cells #[.int .i64 s.n, .int .u64 s.t.a, .int .u64 s.t.b, .int .u64 s.t.c] 52)
  have hch := Lib.hid (rChanges (hr.keep hu (by simp) (by simp)) hL (by omega))
  have HH := Lib.hid (fun W (hW : Upd [] w W) => h.keep hW (by simp) (by simp) (by simp))
  have HRg := Lib.hid (fun W (hW : Upd [] w W) x => rGet (hr.keep hW (by simp) (by simp)) hL (by omega) x)
  have HKL := Lib.hid (fun K (hk : RefK L L.length K) => keyL_of_ref h hk he)
  have HE := Lib.hid he
  have HU := Lib.hid hu
  have z0 := cell_new w #[.int .i64 s.n, .int .u64 s.t.a, .int .u64 s.t.b, .int .u64 s.t.c] 52 0 (v := .int .i64 s.n) rfl
  have z1 := cell_new w #[.int .i64 s.n, .int .u64 s.t.a, .int .u64 s.t.b, .int .u64 s.t.c] 52 1 (v := .int .u64 s.t.a) rfl
  have z2 := cell_new w #[.int .i64 s.n, .int .u64 s.t.a, .int .u64 s.t.b, .int .u64 s.t.c] 52 2 (v := .int .u64 s.t.b) rfl
  have z3 := cell_new w #[.int .i64 s.n, .int .u64 s.t.a, .int .u64 s.t.b, .int .u64 s.t.c] 52 3 (v := .int .u64 s.t.c) rfl
  clear h hr hL he hu
  go_enter Try.func57, Try.ntmps57
  go_upto_region 1 with fail
  generalize w.alloc (.cells #[.int .i64 s.n, .int .u64 s.t.a, .int .u64 s.t.b, .int .u64 s.t.c] 52) = w1 at *
  go_upto_region 2 with (go_at_call 102; refine hch.out.mono ?_; rintro e w2 ⟨ao, co, K, rfl, ho, hk, hf, hu⟩; have HO := Lib.hid ho; have HK := Lib.hid hk; have HU2 := Lib.hid (HU.out.trans hu); replace z0 := hu.cellS z0 (by simp); replace z1 := hu.cellS z1 (by simp); replace z2 := hu.cellS z2 (by simp); replace z3 := hu.cellS z3 (by simp); clear ho hk hf hu)
  have hK := Lib.hid (HKL.out K HK.out)
  have hkl : K.length ≤ 1000 := by have := HK.out.len; omega
  have hlen := hK.out.len.symm
  have hMl : M.length ≤ 1000000 := by omega
  have hcl : chg M K = chT L K := by simp [HE.out]
  have HLen := Lib.hid (show ∀ W, LedAt W lb tb mb M → Calls Try.prog 51 #[.pointer (some ⟨lb, 0, none⟩)] W (fun e w' => e = .returned (.int .i64 K.length) ∧ W = w') from fun W hW => by have := lLen hW; rwa [hlen] at this)
  have HG := Lib.hid (show ∀ W, LedAt W lb tb mb M → Calls Try.prog 48 #[.pointer (some ⟨lb, 0, none⟩), ekM s] W (fun e w' => e = .returned (.int .i64 (tot L s)) ∧ Upd [] W w') from fun W hW => by have := lGet hW s; rwa [HE.out] at this)
  have HGx := Lib.hid (show ∀ W x, LedAt W lb tb mb M → Calls Try.prog 48 #[.pointer (some ⟨lb, 0, none⟩), ekM x] W (fun e w' => e = .returned (.int .i64 (tot L x)) ∧ Upd [] W w') from fun W x hW => by have := lGet hW x; rwa [HE.out] at this)
  have HC := Lib.hid (fun W (hW : LedAt W lb tb mb M) => lChangesK hW hK.out hMl)
  have HKs := Lib.hid (fun W (hW : LedAt W lb tb mb M) => lKeysK hW hK.out hMl)
  have HRs := Lib.hid (fun W (hW : Upd [] w W) => HRg.out W hW s)
  have HCL := Lib.hid hcl
  generalize tot L s = cs at *
  clear hch HKL HRg HE hK hcl hlen
  go_region_held3 (fun w' => w'.cell? ⟨w.heap.size, 0, none⟩ = some (.int .i64 s.n) ∧ w'.cell? ⟨w.heap.size, 1, none⟩ = some (.int .u64 s.t.a) ∧ w'.cell? ⟨w.heap.size, 2, none⟩ = some (.int .u64 s.t.b) ∧ w'.cell? ⟨w.heap.size, 3, none⟩ = some (.int .u64 s.t.c)) (go_keep)
    (first
      | (go_at_call 51; refine (HLen.out _ (HH.out _ HU2.out.drew)).mono ?_; rintro e wq ⟨rfl, rfl⟩)
      | (go_at_call 48; refine (HG.out _ (HH.out _ HU2.out.drew)).mono ?_; rintro e w3 ⟨rfl, hu⟩; have HU3 := Lib.hid (HU2.out.drew.trans hu); have hk := fun (pp : Addr) v (h : w2.cell? pp = some v) => hu.cellS (show w2.drew.cell? pp = some v from h) (by simp); have k0 := hk _ _ z0; have k1 := hk _ _ z1; have k2 := hk _ _ z2; have k3 := hk _ _ z3; have HO3 := Lib.hid (HO.out.keep ((Upd.refl [] w2).drew.trans hu) (by simp)); clear hu hk)
      | (go_at_call 99; refine (HRs.out _ HU3.out).mono ?_; rintro e w4 ⟨rfl, hu⟩; have HU4 := Lib.hid (HU3.out.trans hu); have j0 := hu.cellS k0 (by simp); have j1 := hu.cellS k1 (by simp); have j2 := hu.cellS k2 (by simp); have j3 := hu.cellS k3 (by simp); have HO4 := Lib.hid (HO3.out.keep hu (by simp)); clear hu)
      | (go_at_call 46; refine (HC.out _ (HH.out _ HU4.out)).mono ?_; rintro e w5 ⟨a5, c5, rfl, ho, hf, hu⟩; have HU5 := Lib.hid (HU4.out.trans hu); have i0 := hu.cellS j0 (by simp); have i1 := hu.cellS j1 (by simp); have i2 := hu.cellS j2 (by simp); have i3 := hu.cellS j3 (by simp); have HO5 := Lib.hid (HO4.out.keep hu (by simp)); have HP5 := Lib.hid ho; clear ho hf hu)
      | (go_at_call 45; refine (sameCh_K _ _ _ _ _ M K (by omega) (OwnAt.rd elemCh.len HP5.out) (by rw [HCL.out]; exact OwnAt.rd elemCh.len HO5.out)).mono ?_; rintro e w6 ⟨rfl, hu⟩; have HU6 := Lib.hid (HU5.out.trans hu); have h0 := hu.cellS i0 (by simp); have h1 := hu.cellS i1 (by simp); have h2 := hu.cellS i2 (by simp); have h3 := hu.cellS i3 (by simp); have HO6 := Lib.hid (HO5.out.keep hu (by simp)); clear hu))
  go_wp2_with (go_at_call 47; refine (HKs.out _ (HH.out _ HU6.out)).mono ?_; rintro e w7 ⟨a7, c7, rfl, ho, hf, hu⟩; have HU7 := Lib.hid (HU6.out.trans hu); have HO7 := Lib.hid (HO6.out.keep hu (by simp)); have HP7 := Lib.hid ho; clear ho hf hu)
  go_loopg [9, 46] K.length (fun m v9 v46 wz => ∃ i : Nat, m + i = K.length ∧ v46 = .int .i64 i ∧ Upd [] w7 wz)
  case atStart => exact ⟨0, rfl, rfl, Upd.refl _ _⟩
  case round =>
    obtain ⟨i, hm, rfl, hu⟩ := hrel
    have HM := Lib.hid hm
    have HV := Lib.hid hu
    clear hm hu
    by_cases hi : i < K.length
    · have hii : (i : Int) < K.length := by omega
      obtain ⟨x, hx⟩ : ∃ x, K[i]? = some x := ⟨K[i], List.getElem?_eq_getElem hi⟩
      have hgx := Lib.hid (fun W hW => HGx.out W x hW)
      obtain ⟨g1, o1, rfl, hc⟩ := HP7.out.rd elemM.len i x hx
      have x0 := HV.out.cellS (hc 0 _ rfl) (by simp)
      have x1 := HV.out.cellS (hc 1 _ rfl) (by simp)
      have x2 := HV.out.cellS (hc 2 _ rfl) (by simp)
      have x3 := HV.out.cellS (hc 3 _ rfl) (by simp)
      clear hc
      obtain ⟨g2, o2, rfl, hc⟩ := HO7.out.rd elemCh.len i (x, tot L x) (by simp [hx])
      have y0 := HV.out.cellS (hc 0 (.int .i64 x.n) rfl) (by simp)
      have y1 := HV.out.cellS (hc 1 (.int .u64 x.t.a) rfl) (by simp)
      have y2 := HV.out.cellS (hc 2 (.int .u64 x.t.b) rfl) (by simp)
      have y3 := HV.out.cellS (hc 3 (.int .u64 x.t.c) rfl) (by simp)
      have y4 := HV.out.cellS (hc 4 (.int .i64 (tot L x)) rfl) (by simp)
      clear hc hx
      simp only [Nat.add_zero] at x0 y0
      generalize tot L x = cx at *
      go_wp2_with fail
      go_region_held3 (fun w' => w'.cell? ⟨g1, o1 + i * 4, none⟩ = some (.int .i64 x.n) ∧ w'.cell? ⟨g1, o1 + i * 4 + 1, none⟩ = some (.int .u64 x.t.a) ∧ w'.cell? ⟨g1, o1 + i * 4 + 2, none⟩ = some (.int .u64 x.t.b) ∧ w'.cell? ⟨g1, o1 + i * 4 + 3, none⟩ = some (.int .u64 x.t.c) ∧ w'.cell? ⟨g2, o2 + i * 5, none⟩ = some (.int .i64 x.n) ∧ w'.cell? ⟨g2, o2 + i * 5 + 1, none⟩ = some (.int .u64 x.t.a) ∧ w'.cell? ⟨g2, o2 + i * 5 + 2, none⟩ = some (.int .u64 x.t.b) ∧ w'.cell? ⟨g2, o2 + i * 5 + 3, none⟩ = some (.int .u64 x.t.c) ∧ w'.cell? ⟨g2, o2 + i * 5 + 4, none⟩ = some (.int .i64 cx)) (go_keep)
        ((go_at_call 48; refine (hgx.out _ (HH.out _ (HU7.out.trans HV.out.drew))).mono ?_; rintro e wq ⟨rfl, hu⟩; have hk := fun (pp : Addr) v (h : wr.cell? pp = some v) => hu.cellS (show wr.drew.cell? pp = some v from h) (by simp); have k0 := hk _ _ x0; have k1 := hk _ _ x1; have k2 := hk _ _ x2; have k3 := hk _ _ x3; have k4 := hk _ _ y0; have k5 := hk _ _ y1; have k6 := hk _ _ y2; have k7 := hk _ _ y3; have k8 := hk _ _ y4; have HV2 := Lib.hid (HV.out.drew.trans hu); clear hu hk))
      go_wp2_with fail
      go_roundg (K.length - (i + 1))
      case measure => have := HM.out; omega
      case rel => exact ⟨i + 1, by have := HM.out; omega, rfl, HV2.out⟩
    · have hii : ¬ (i : Int) < K.length := by omega
      go_wp2_with fail
      go_ret
      exact ⟨rfl, HU7.out.trans HV.out⟩
end Go.Proofs.Ytcdmdpgfadopcaa
