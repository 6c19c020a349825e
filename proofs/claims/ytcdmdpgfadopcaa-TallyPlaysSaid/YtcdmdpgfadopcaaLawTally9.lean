/-
  sluicelaw04: TallyPlays, the walk.
-/
import Derived.Test.YtcdmdpgfadopcaaLawTally8
namespace Go.Proofs.Ytcdmdpgfadopcaa
open Go.Slu Go.MapKept Go.RowKit Go.Sort

abbrev sE : Str := ⟨⟨#[]⟩, by simp [maxLen, ByteArray.size]⟩
theorem st_alike {B : Nat} {w : World} {U : List Str} {gt ct gr cr : Nat} {D : Nat → Duo} (h : St B w U gt ct gr cr D) (hU : U.length ≤ 1000) (n : Nat) (hn : n < 3) (key : Str) :
    Calls Try.prog 18 #[.pointer (some ⟨(D n).tb, 0, none⟩), .pointer (some ⟨(D n).rb, 0, none⟩), .string key.s] w fun e w' => e = .returned (.bool true) ∧ Upd [] w w' := by
  have hd := h.ok n hn
  have hl := hd.len
  exact alike_any (D n).k hd.k (D n).F w _ _ _ _ _ hd.t hd.r hd.l hd.s (by omega) (by omega) key

theorem wpAnyH_strong {P : Program} {md : Region.Mode} {ops : Array Oper} {Q : Exit → Act → World → Prop} {S S2 : World → Prop} (hs : ∀ w, S2 w → S w) : ∀ (fuel : Nat) (listed : Array Bool) (a : Act) (w : World), wpAnyH P md ops Q S2 fuel listed a w → wpAnyH P md ops Q S fuel listed a w
  | 0, _, _, _, h => h
  | fuel + 1, _, _, _, h => ⟨h.1, fun i hi => wpOp_mono (fun a' w' h' => ⟨hs _ h'.1, wpAnyH_strong hs fuel _ a' w' h'.2⟩) (h.2 i hi)⟩
theorem St.cells6 {B : Nat} {w' : World} {U : List Str} {gt ct gr cr : Nat} {D2 : Nat → Duo} (h : St B w' U gt ct gr cr D2) : w'.cell? ⟨gt, 0, none⟩ = some (.pointer (some ⟨(D2 0).tb, 0, none⟩)) ∧ w'.cell? ⟨gt, 1, none⟩ = some (.pointer (some ⟨(D2 1).tb, 0, none⟩)) ∧ w'.cell? ⟨gt, 2, none⟩ = some (.pointer (some ⟨(D2 2).tb, 0, none⟩)) ∧ w'.cell? ⟨gr, 0, none⟩ = some (.pointer (some ⟨(D2 0).rb, 0, none⟩)) ∧ w'.cell? ⟨gr, 1, none⟩ = some (.pointer (some ⟨(D2 1).rb, 0, none⟩)) ∧ w'.cell? ⟨gr, 2, none⟩ = some (.pointer (some ⟨(D2 2).rb, 0, none⟩)) :=
  ⟨h.tcell (by omega), h.tcell (by omega), h.tcell (by omega), h.rcell (by omega), h.rcell (by omega), h.rcell (by omega)⟩

set_option maxHeartbeats 4000000 in
set_option maxRecDepth 20000 in
theorem plays_any (w : World) (aa : Option Addr) (xs : List OpS) (ca : Nat) (hrd : Rd 5 eeO w aa xs) (hxl : xs.length ≤ maxLen) :
    Calls Try.prog 3 #[.slice aa xs.length ca] w fun e w' => e = .returned (.bool true) ∧ UpdB w.heap.size w w' := by
  have HRD := Lib.hid hrd
  have HXL := Lib.hid hxl
  clear hrd hxl
  go_enter Try.func3, Try.ntmps3
  go_wp2_with fail
  go_loopg [3, 4, 5] 3 (fun m v3 v4 v5 wr => ∃ (k : Nat) (at_ ar : Option Addr) (ct cr : Nat) (D : Nat → Duo), m + k = 3 ∧ v5 = .int .i64 k ∧ v3 = .slice at_ k ct ∧ v4 = .slice ar k cr ∧ Pre w.heap.size k wr at_ ct ar cr D ∧ Upd [] w wr)
  case atStart =>
    exact ⟨0, none, none, 0, 0, fun _ => ⟨0, 0, [], 0, 0, [], []⟩, rfl, rfl, rfl, rfl, ⟨by omega, by omega, OwnAt.nil _ _ _ _, OwnAt.nil _ _ _ _, by omega, ⟨by simp [ablk], by simp [ablk], by omega⟩, by simp [ablk]⟩, Upd.refl _ _⟩
  case round =>
    obtain ⟨k, at_, ar, ct, cr, D, hmk, rfl, rfl, rfl, hpre, hu⟩ := hrel
    have HP := Lib.hid hpre
    have HM := Lib.hid hmk
    clear hpre
    by_cases hk : k < 3
    · have hkk : (k : Int) < 3 := by omega
      have hko : kOk k := by unfold kOk; omega
      have hmade := Lib.hid (fun W => made_any k hko W)
      have HKO := Lib.hid hko
      have hlts := HP.out.ts.lt
      have hlrs := HP.out.rs.lt
      have hlen1 : ((List.range k).map fun i => (D i).tb).length = k := by simp
      have hlen2 : ((List.range k).map fun i => (D i).rb).length = k := by simp
      clear hmk hko
      have hlitT := Lib.hid (fun (W : World) (p : Nat) => OwnAt.lit (e := 25) elemT.len W [p] (by simp [maxLen]) #[.pointer (some ⟨p, 0, none⟩)] rfl)
      have hlitR := Lib.hid (fun (W : World) (p : Nat) => OwnAt.lit (e := 27) elemU.len W [p] (by simp [maxLen]) #[.pointer (some ⟨p, 0, none⟩)] rfl)
      have HL1 := Lib.hid hlts
      have HL2 := Lib.hid hlrs
      clear hlts hlrs
      go_wp2_with (first
        | (go_at_call 14; refine (hmade.out _).mono ?_; rintro e w2 ⟨tb, mb, rfl, ht, htb, hmb, hu2⟩; have HT := Lib.hid (And.intro ht (And.intro htb hmb)); have HU2 := Lib.hid hu2; clear ht htb hmb hu2)
        | (at_builtin; refine wpList_append_rep rfl _ _ 24 rfl elemU (xs := (List.range k).map fun i => (D i).rb) (ys := [w3.heap.size]) (aa := ar) (c := cr) (a2 := some ⟨w3.heap.size + 1, 0, none⟩) (c2 := 1) ((((HP.out.rs.keep HU2.out (by simp)).keep ((Upd.refl [] _).alloc _) (by simp)).keep HU3.out.1 (fun b hb hb2 => HP.out.ne b hb2 hb)).keep (((Upd.refl [] _).alloc _).alloc _) (by simp)) (by have h9 := (hlitR.out (w3.alloc (.cells #[.int .i64 k, .slice none 0 0, .slice none 0 0] 31)) w3.heap.size).rd elemU.len; simpa using h9) (by simp [Act.eval, Act.put]) (by simp [Act.eval, Act.put]) (by simp [maxLen]; omega) (by simp; omega) ?_; intro a4 c4 w4 ho4 hu4 hor4 hnn4; have HU4 := Lib.hid (And.intro hu4 (And.intro ho4 hor4)); clear hu4 ho4 hor4 hnn4)
        | (at_builtin; refine wpList_append_rep rfl _ _ 23 rfl elemT (xs := (List.range k).map fun i => (D i).tb) (ys := [tb]) (aa := at_) (c := ct) (a2 := some ⟨w2.heap.size, 0, none⟩) (c2 := 1) (((HP.out.ts.keep HU2.out (by simp)).keep ((Upd.refl [] _).alloc _) (by simp))) ((hlitT.out w2 tb).rd elemT.len) (by simp [Act.eval, Act.put]) (by simp [Act.eval, Act.put]) (by simp [maxLen]; omega) (by simp; omega) ?_; intro a3 c3 w3 ho3 hu3 hor3 hnn3; have HU3 := Lib.hid (And.intro hu3 (And.intro ho3 hor3)); clear hu3 ho3 hor3 hnn3))
      go_roundg (2 - k)
      case measure => have := HM.out; omega
      case rel =>
        have hm := HM.out
        have hs2 := HU2.out.size
        have hs3 := HU3.out.1.size
        simp at hs3
        refine ⟨k + 1, a3, a4, c3, c4, _, by omega, by simp, by simp, by simp, HP.out.more HKO.out hu.size HU2.out HT.out.1 HT.out.2.1 HT.out.2.2 (((Upd.refl _ w2).alloc _).trans HU3.out.1) HU3.out.2.1 (HU3.out.2.2.imp id fun h => ⟨_, h, by simp⟩) (Nat.le_refl w3.heap.size) ((((Upd.refl _ w3).alloc _).alloc _).trans HU4.out.1) ?_ HU4.out.2.1 (HU4.out.2.2.imp id fun h => ⟨_, h, by simp; omega⟩), ?_⟩
        · exact HU4.out.1.at (((Upd.refl [] _).alloc _).at (heap_alloc w3 _).1 (by simp)) (fun hb => by have := HL2.out _ hb; omega)
        · exact ((((hu.trans HU2.out).alloc _).then HU3.out.1 (fun b hb hlt => by have := HP.out.lo.1 b hb; omega)).alloc _).alloc _ |>.then HU4.out.1 (fun b hb hlt => by have := HP.out.lo.2.1 b hb; omega)
    · have hkk : ¬ (k : Int) < 3 := by omega
      obtain rfl : k = 3 := by omega
      obtain ⟨gt, gr, rfl, rfl, hst⟩ := HP.out.st
      have HST := Lib.hid hst
      clear hst HP hmk hk hkk HM
      go_upto_block 2 with (go_at_call 15; refine (known_any _).mono ?_; rintro e w1 ⟨rfl, hu1⟩; have HST1 := Lib.hid (HST.out.keep hu1 (by simp)); have HU1 := Lib.hid (hu.trans hu1); clear hu1)
      clear hu
      have hsz := HU1.out.size
      have HSZ := Lib.hid hsz
      clear hsz
      go_cut [] (fun wx => ∃ (U : List Str) (D : Nat → Duo), U.length ≤ 300 ∧ St w.heap.size wx U gt ct gr cr D ∧ UpdB w.heap.size w wx)
      case first =>
        go_wp2_with fail
        go_loopg [6, 7, 8, 9, 29] xs.length (fun m v6 v7 v8 v9 v29 wz => ∃ (i : Nat) (U : List Str) (D : Nat → Duo), m + i = xs.length ∧ v29 = .int .i64 i ∧ U.length = i ∧ i ≤ 300 ∧ St w.heap.size wz U gt ct gr cr D ∧ UpdB w.heap.size w wz)
        case atStart => exact ⟨0, [], D, rfl, rfl, rfl, by omega, HST1.out, Upd.updB HU1.out⟩
        case round =>
          obtain ⟨i, U, D2, hm, rfl, hUl, hi3, hst, hu⟩ := hrel
          have HS := Lib.hid hst
          have HM := Lib.hid hm
          have HUL := Lib.hid hUl
          have HU := Lib.hid hu
          clear hst hm hUl hu
          by_cases hi : i < xs.length
          · have hii : (i : Int) < xs.length := by omega
            obtain ⟨o, ho⟩ : ∃ o, xs[i]? = some o := ⟨xs[i], List.getElem?_eq_getElem hi⟩
            obtain ⟨b, off, rfl, hc⟩ := HRD.out i o ho
            have q0 := hc 0 _ rfl
            have q1 := hc 1 _ rfl
            have q2 := hc 2 _ rfl
            have q3 := hc 3 _ rfl
            have q4 := hc 4 _ rfl
            have hbl := lt_of_cell q0
            simp only [Nat.add_zero] at q0 hbl
            have y0 := HU.out.cellS q0 hbl
            have y1 := HU.out.cellS q1 hbl
            have y2 := HU.out.cellS q2 hbl
            have y3 := HU.out.cellS q3 hbl
            have y4 := HU.out.cellS q4 hbl
            clear q0 q1 q2 q3 q4 hc ho
            obtain ⟨kd, iv, jv, key, nn, bi, bj, bn⟩ := o
            simp only at y0 y1 y2 y3 y4 bi bj
            by_cases h300 : i = 300
            · have h3 : ((i : Int) == 300) = true := by simp; omega
              have H300 := Lib.hid h300
              clear h300
              go_wp2_with fail
              go_meet
              exact ⟨U, D2, by have := HUL.out; omega, HS.out.keep ((Upd.refl [] wr).alloc _) (by simp), HU.out.trans (Upd.updB ((Upd.refl [] wr).alloc _))⟩
            · have h3 : ((i : Int) == 300) = false := by simp; omega
              have H300 := Lib.hid h300
              clear h300
              have t1 := Lib.hid (fun W => third_any iv bi.1 bi.2 W)
              have t2 := Lib.hid (fun W => third_any jv bj.1 bj.2 W)
              have hX := heap_alloc wr (.cells #[.int .i64 kd, .int .i64 iv, .int .i64 jv, .string key.s, .int .i64 nn] 34) |>.1
              have HX := Lib.hid hX
              clear hX
              have hnf := Lib.hid (show wr.heap.size ≠ gt ∧ wr.heap.size ≠ gr ∧ ∀ n, n < 3 → wr.heap.size ∉ (D2 n).foot from ⟨by have := HS.out.lt; omega, by have := HS.out.lt; omega, fun n hn hb => by have := (HS.out.ok n hn).lt _ hb; omega⟩)
              have hst2 := Lib.hid (HS.out.keep ((Upd.refl [] wr).alloc (.cells #[.int .i64 kd, .int .i64 iv, .int .i64 jv, .string key.s, .int .i64 nn] 34)) (by simp))
              have hu2 := Lib.hid (HU.out.trans (Upd.updB ((Upd.refl [] wr).alloc (.cells #[.int .i64 kd, .int .i64 iv, .int .i64 jv, .string key.s, .int .i64 nn] 34))))
              have z0 := cell_new wr #[.int .i64 kd, .int .i64 iv, .int .i64 jv, .string key.s, .int .i64 nn] 34 0 (v := .int .i64 kd) rfl
              have z1 := cell_new wr #[.int .i64 kd, .int .i64 iv, .int .i64 jv, .string key.s, .int .i64 nn] 34 1 (v := .int .i64 iv) rfl
              have z2 := cell_new wr #[.int .i64 kd, .int .i64 iv, .int .i64 jv, .string key.s, .int .i64 nn] 34 2 (v := .int .i64 jv) rfl
              have z3 := cell_new wr #[.int .i64 kd, .int .i64 iv, .int .i64 jv, .string key.s, .int .i64 nn] 34 3 (v := .string key.s) rfl
              have z4 := cell_new wr #[.int .i64 kd, .int .i64 iv, .int .i64 jv, .string key.s, .int .i64 nn] 34 4 (v := .int .i64 nn) rfl
              go_wp2_with (first
                | (go_at_call 16; have _hq := hi1; refine (t2.out _).mono ?_; rintro e w1 ⟨j1, hj1, rfl, rfl⟩)
                | (go_at_call 16; refine (t1.out _).mono ?_; rintro e w1 ⟨i1, hi1, rfl, rfl⟩))
              generalize wr.alloc (.cells #[.int .i64 kd, .int .i64 iv, .int .i64 jv, .string key.s, .int .i64 nn] 34) = wA at *
              have hBA := Lib.hid (show w.heap.size ≤ wA.heap.size from hu2.out.size)
              have hi1' : (i1 : Int) < 3 := by omega
              have hj1' : (j1 : Int) < 3 := by omega
              have HI1 := Lib.hid hi1
              have HJ1 := Lib.hid hj1
              have HUL3 := Lib.hid (show U.length < 300 from by have := HUL.out; have := H300.out; omega)
              clear _hq hi1 hj1 y0 y1 y2 y3 y4 h3
              refine wp_region_noPanic ?_
              refine wp_region_held_drew (S := (fun w' => w'.cell? ⟨wr.heap.size, 0, none⟩ = some (.int .i64 kd) ∧ w'.cell? ⟨wr.heap.size, 1, none⟩ = some (.int .i64 iv) ∧ w'.cell? ⟨wr.heap.size, 2, none⟩ = some (.int .i64 jv) ∧ w'.cell? ⟨wr.heap.size, 3, none⟩ = some (.string key.s) ∧ w'.cell? ⟨wr.heap.size, 4, none⟩ = some (.int .i64 nn))) (by kernel_rfl) ⟨z0, z1, z2, z3, z4⟩ (fun hHeld => ?_)
              refine wpAnyH_take (i := 0) (v := ?vv0) rfl (by kernel_rfl) (by kernel_rfl) (by kernel_rfl) (fun _ _ _ h => h) (Or.inl ⟨by rfl, ?hy0⟩) (by assumption) ?rest0
              case hy0 =>
                intro w hSw
                (try dsimp only at hSw)
                simp only [List.getElem_toArray, List.getElem_cons_succ, List.getElem_cons_zero]
                go_simp
                try with_reducible rfl
              try simp only [Act.put, List.setIfInBounds_toArray, List.set_cons_zero, List.set_cons_succ, List.getElem_toArray, List.getElem_cons_succ, List.getElem_cons_zero]
              refine wpAnyH_take (i := 1) (v := ?vv1) rfl (by kernel_rfl) (by kernel_rfl) (by kernel_rfl) (fun _ _ _ h => h) (Or.inl ⟨by rfl, ?hy1⟩) (by assumption) ?rest1
              case hy1 =>
                intro w hSw
                (try dsimp only at hSw)
                simp only [List.getElem_toArray, List.getElem_cons_succ, List.getElem_cons_zero]
                go_simp
                try with_reducible rfl
              try simp only [Act.put, List.setIfInBounds_toArray, List.set_cons_zero, List.set_cons_succ, List.getElem_toArray, List.getElem_cons_succ, List.getElem_cons_zero]
              refine wpAnyH_take (i := 2) (v := ?vv2) rfl (by kernel_rfl) (by kernel_rfl) (by kernel_rfl) (fun _ _ _ h => h) (Or.inl ⟨by rfl, ?hy2⟩) (by assumption) ?rest2
              case hy2 =>
                intro w hSw
                (try dsimp only at hSw)
                simp only [List.getElem_toArray, List.getElem_cons_succ, List.getElem_cons_zero]
                go_simp
                try with_reducible rfl
              try simp only [Act.put, List.setIfInBounds_toArray, List.set_cons_zero, List.set_cons_succ, List.getElem_toArray, List.getElem_cons_succ, List.getElem_cons_zero]
              refine wpAnyH_take (i := 3) (v := ?vv3) rfl (by kernel_rfl) (by kernel_rfl) (by kernel_rfl) (fun _ _ _ h => h) (Or.inl ⟨by rfl, ?hy3⟩) (by assumption) ?rest3
              case hy3 =>
                intro w hSw
                (try dsimp only at hSw)
                simp only [List.getElem_toArray, List.getElem_cons_succ, List.getElem_cons_zero]
                go_simp
                try with_reducible rfl
              try simp only [Act.put, List.setIfInBounds_toArray, List.set_cons_zero, List.set_cons_succ, List.getElem_toArray, List.getElem_cons_succ, List.getElem_cons_zero]
              refine wpAnyH_take (i := 4) (v := ?vv4) rfl (by kernel_rfl) (by kernel_rfl) (by kernel_rfl) (fun _ _ _ h => h) (Or.inl ⟨by rfl, ?hy4⟩) (by assumption) ?rest4
              case hy4 =>
                intro w hSw
                (try dsimp only at hSw)
                simp only [List.getElem_toArray, List.getElem_cons_succ, List.getElem_cons_zero]
                go_simp
                try with_reducible rfl
              try simp only [Act.put, List.setIfInBounds_toArray, List.set_cons_zero, List.set_cons_succ, List.getElem_toArray, List.getElem_cons_succ, List.getElem_cons_zero]
              refine wpAnyH_ready (rs := [5]) (by kernel_rfl) (by simp) ?_
              refine AllReadyH.cons rfl (fun K hK => ?_) AllReadyH.nil
              simp only [List.getElem_toArray, List.getElem_cons_succ, List.getElem_cons_zero]
              go_simp
              (go_at_call 17; refine (step_any (hst2.out.keep (Upd.refl [] wA).drew (by simp)) hBA.out (by have := HUL3.out; omega) i1 j1 HI1.out HJ1.out kd iv jv key nn).mono ?_; rintro e w2 ⟨rfl, D3, X, hs3, hX, hu3⟩; have hnX : wr.heap.size ∉ X := (fun hb => (hX _ hb).2.elim hnf.out.1 (fun h => h.elim hnf.out.2.1 (fun ⟨n, hn, hb2⟩ => hnf.out.2.2 n hn hb2))); have k0 := hu3.cellS (show wA.drew.cell? _ = _ from z0) hnX; have k1 := hu3.cellS (show wA.drew.cell? _ = _ from z1) hnX; have k2 := hu3.cellS (show wA.drew.cell? _ = _ from z2) hnX; have k3 := hu3.cellS (show wA.drew.cell? _ = _ from z3) hnX; have k4 := hu3.cellS (show wA.drew.cell? _ = _ from z4) hnX; have e1 := hs3.tcell HI1.out; have e2 := hs3.rcell HI1.out; have HS3 := Lib.hid hs3; have HU3 := Lib.hid (show UpdB w.heap.size wA w2 from ⟨X, fun b hb => (hX b hb).1, (Upd.refl X wA).drew.trans hu3⟩); clear hs3 hX hu3 hnX)
              go_simp
              refine hK.out _ _ (⟨k0, k1, k2, k3, k4⟩) (fun hHeld => ?_)
              clear hK K hHeld
              try simp only [Act.put, List.setIfInBounds_toArray, List.set_cons_zero, List.set_cons_succ, List.getElem_toArray, List.getElem_cons_succ, List.getElem_cons_zero]
              have e3 := HS3.out.tcell HJ1.out
              have e4 := HS3.out.rcell HJ1.out
              have hS2 : (fun w' => w'.cell? ⟨wr.heap.size, 0, none⟩ = some (.int .i64 kd) ∧ w'.cell? ⟨wr.heap.size, 1, none⟩ = some (.int .i64 iv) ∧ w'.cell? ⟨wr.heap.size, 2, none⟩ = some (.int .i64 jv) ∧ w'.cell? ⟨wr.heap.size, 3, none⟩ = some (.string key.s) ∧ w'.cell? ⟨wr.heap.size, 4, none⟩ = some (.int .i64 nn) ∧ w'.cell? ⟨gt, i1, none⟩ = some (.pointer (some ⟨(D3 i1).tb, 0, none⟩)) ∧ w'.cell? ⟨gr, i1, none⟩ = some (.pointer (some ⟨(D3 i1).rb, 0, none⟩)) ∧ w'.cell? ⟨gt, j1, none⟩ = some (.pointer (some ⟨(D3 j1).tb, 0, none⟩)) ∧ w'.cell? ⟨gr, j1, none⟩ = some (.pointer (some ⟨(D3 j1).rb, 0, none⟩))) w2 := ⟨k0, k1, k2, k3, k4, e1, e2, e3, e4⟩
              refine wpAnyH_strong (S2 := (fun w' => w'.cell? ⟨wr.heap.size, 0, none⟩ = some (.int .i64 kd) ∧ w'.cell? ⟨wr.heap.size, 1, none⟩ = some (.int .i64 iv) ∧ w'.cell? ⟨wr.heap.size, 2, none⟩ = some (.int .i64 jv) ∧ w'.cell? ⟨wr.heap.size, 3, none⟩ = some (.string key.s) ∧ w'.cell? ⟨wr.heap.size, 4, none⟩ = some (.int .i64 nn) ∧ w'.cell? ⟨gt, i1, none⟩ = some (.pointer (some ⟨(D3 i1).tb, 0, none⟩)) ∧ w'.cell? ⟨gr, i1, none⟩ = some (.pointer (some ⟨(D3 i1).rb, 0, none⟩)) ∧ w'.cell? ⟨gt, j1, none⟩ = some (.pointer (some ⟨(D3 j1).tb, 0, none⟩)) ∧ w'.cell? ⟨gr, j1, none⟩ = some (.pointer (some ⟨(D3 j1).rb, 0, none⟩)))) (fun w h => ⟨h.1, h.2.1, h.2.2.1, h.2.2.2.1, h.2.2.2.2.1⟩) _ _ _ _ ?_
              refine wpAnyH_take (i := 6) (v := ?vv6) rfl (by kernel_rfl) (by kernel_rfl) (by kernel_rfl) (fun _ _ _ h => h) (Or.inl ⟨by rfl, ?hy6⟩) (by assumption) ?rest6
              case hy6 =>
                intro w hSw
                (try dsimp only at hSw)
                simp only [List.getElem_toArray, List.getElem_cons_succ, List.getElem_cons_zero]
                go_simp
                try with_reducible rfl
              try simp only [Act.put, List.setIfInBounds_toArray, List.set_cons_zero, List.set_cons_succ, List.getElem_toArray, List.getElem_cons_succ, List.getElem_cons_zero]
              refine wpAnyH_take (i := 7) (v := ?vv7) rfl (by kernel_rfl) (by kernel_rfl) (by kernel_rfl) (fun _ _ _ h => h) (Or.inl ⟨by rfl, ?hy7⟩) (by assumption) ?rest7
              case hy7 =>
                intro w hSw
                (try dsimp only at hSw)
                simp only [List.getElem_toArray, List.getElem_cons_succ, List.getElem_cons_zero]
                go_simp
                try with_reducible rfl
              try simp only [Act.put, List.setIfInBounds_toArray, List.set_cons_zero, List.set_cons_succ, List.getElem_toArray, List.getElem_cons_succ, List.getElem_cons_zero]
              refine wpAnyH_take (i := 8) (v := ?vv8) rfl (by kernel_rfl) (by kernel_rfl) (by kernel_rfl) (fun _ _ _ h => h) (Or.inl ⟨by rfl, ?hy8⟩) (by assumption) ?rest8
              case hy8 =>
                intro w hSw
                (try dsimp only at hSw)
                simp only [List.getElem_toArray, List.getElem_cons_succ, List.getElem_cons_zero]
                go_simp
                try with_reducible rfl
              try simp only [Act.put, List.setIfInBounds_toArray, List.set_cons_zero, List.set_cons_succ, List.getElem_toArray, List.getElem_cons_succ, List.getElem_cons_zero]
              refine wpAnyH_take (i := 9) (v := ?vv9) rfl (by kernel_rfl) (by kernel_rfl) (by kernel_rfl) (fun _ _ _ h => h) (Or.inl ⟨by rfl, ?hy9⟩) (by assumption) ?rest9
              case hy9 =>
                intro w hSw
                (try dsimp only at hSw)
                simp only [List.getElem_toArray, List.getElem_cons_succ, List.getElem_cons_zero]
                go_simp
                try with_reducible rfl
              try simp only [Act.put, List.setIfInBounds_toArray, List.set_cons_zero, List.set_cons_succ, List.getElem_toArray, List.getElem_cons_succ, List.getElem_cons_zero]
              refine wpAnyH_take (i := 10) (v := ?vv10) rfl (by kernel_rfl) (by kernel_rfl) (by kernel_rfl) (fun _ _ _ h => h) (Or.inl ⟨by rfl, ?hy10⟩) (by assumption) ?rest10
              case hy10 =>
                intro w hSw
                (try dsimp only at hSw)
                simp only [List.getElem_toArray, List.getElem_cons_succ, List.getElem_cons_zero]
                go_simp
                try with_reducible rfl
              try simp only [Act.put, List.setIfInBounds_toArray, List.set_cons_zero, List.set_cons_succ, List.getElem_toArray, List.getElem_cons_succ, List.getElem_cons_zero]
              refine wpAnyH_take (i := 11) (v := ?vv11) rfl (by kernel_rfl) (by kernel_rfl) (by kernel_rfl) (fun _ _ _ h => h) (Or.inl ⟨by rfl, ?hy11⟩) (by assumption) ?rest11
              case hy11 =>
                intro w hSw
                (try dsimp only at hSw)
                simp only [List.getElem_toArray, List.getElem_cons_succ, List.getElem_cons_zero]
                go_simp
                try with_reducible rfl
              try simp only [Act.put, List.setIfInBounds_toArray, List.set_cons_zero, List.set_cons_succ, List.getElem_toArray, List.getElem_cons_succ, List.getElem_cons_zero]
              refine wpAnyH_take (i := 12) (v := ?vv12) rfl (by kernel_rfl) (by kernel_rfl) (by kernel_rfl) (fun _ _ _ h => h) (Or.inl ⟨by rfl, ?hy12⟩) (by assumption) ?rest12
              case hy12 =>
                intro w hSw
                (try dsimp only at hSw)
                simp only [List.getElem_toArray, List.getElem_cons_succ, List.getElem_cons_zero]
                go_simp
                try with_reducible rfl
              try simp only [Act.put, List.setIfInBounds_toArray, List.set_cons_zero, List.set_cons_succ, List.getElem_toArray, List.getElem_cons_succ, List.getElem_cons_zero]
              refine wpAnyH_take (i := 13) (v := ?vv13) rfl (by kernel_rfl) (by kernel_rfl) (by kernel_rfl) (fun _ _ _ h => h) (Or.inl ⟨by rfl, ?hy13⟩) (by assumption) ?rest13
              case hy13 =>
                intro w hSw
                (try dsimp only at hSw)
                simp only [List.getElem_toArray, List.getElem_cons_succ, List.getElem_cons_zero]
                go_simp
                try with_reducible rfl
              try simp only [Act.put, List.setIfInBounds_toArray, List.set_cons_zero, List.set_cons_succ, List.getElem_toArray, List.getElem_cons_succ, List.getElem_cons_zero]
              refine wpAnyH_take (i := 14) (v := ?vv14) rfl (by kernel_rfl) (by kernel_rfl) (by kernel_rfl) (fun _ _ _ h => h) (Or.inl ⟨by rfl, ?hy14⟩) (by assumption) ?rest14
              case hy14 =>
                intro w hSw
                (try dsimp only at hSw)
                simp only [List.getElem_toArray, List.getElem_cons_succ, List.getElem_cons_zero]
                go_simp
                try with_reducible rfl
              try simp only [Act.put, List.setIfInBounds_toArray, List.set_cons_zero, List.set_cons_succ, List.getElem_toArray, List.getElem_cons_succ, List.getElem_cons_zero]
              refine wpAnyH_take (i := 15) (v := ?vv15) rfl (by kernel_rfl) (by kernel_rfl) (by kernel_rfl) (fun _ _ _ h => h) (Or.inl ⟨by rfl, ?hy15⟩) (by assumption) ?rest15
              case hy15 =>
                intro w hSw
                (try dsimp only at hSw)
                simp only [List.getElem_toArray, List.getElem_cons_succ, List.getElem_cons_zero]
                go_simp
                try with_reducible rfl
              try simp only [Act.put, List.setIfInBounds_toArray, List.set_cons_zero, List.set_cons_succ, List.getElem_toArray, List.getElem_cons_succ, List.getElem_cons_zero]
              refine wpAnyH_take (i := 16) (v := ?vv16) rfl (by kernel_rfl) (by kernel_rfl) (by kernel_rfl) (fun _ _ _ h => h) (Or.inl ⟨by rfl, ?hy16⟩) (by assumption) ?rest16
              case hy16 =>
                intro w hSw
                (try dsimp only at hSw)
                simp only [List.getElem_toArray, List.getElem_cons_succ, List.getElem_cons_zero]
                go_simp
                try with_reducible rfl
              try simp only [Act.put, List.setIfInBounds_toArray, List.set_cons_zero, List.set_cons_succ, List.getElem_toArray, List.getElem_cons_succ, List.getElem_cons_zero]
              refine wpAnyH_take (i := 17) (v := ?vv17) rfl (by kernel_rfl) (by kernel_rfl) (by kernel_rfl) (fun _ _ _ h => h) (Or.inl ⟨by rfl, ?hy17⟩) (by assumption) ?rest17
              case hy17 =>
                intro w hSw
                (try dsimp only at hSw)
                simp only [List.getElem_toArray, List.getElem_cons_succ, List.getElem_cons_zero]
                go_simp
                try with_reducible rfl
              try simp only [Act.put, List.setIfInBounds_toArray, List.set_cons_zero, List.set_cons_succ, List.getElem_toArray, List.getElem_cons_succ, List.getElem_cons_zero]
              refine wpAnyH_ready (rs := [18]) (by kernel_rfl) (by simp) ?_
              refine AllReadyH.cons rfl (fun K hK => ?_) AllReadyH.nil
              simp only [List.getElem_toArray, List.getElem_cons_succ, List.getElem_cons_zero]
              go_simp
              (go_at_call 18; refine (st_alike HS3.out (by have := HUL3.out; simp; omega) i1 HI1.out key).mono ?_; rintro e w3 ⟨rfl, hu4⟩; have l0 := hu4.cellS k0 (by simp); have l1 := hu4.cellS k1 (by simp); have l2 := hu4.cellS k2 (by simp); have l3 := hu4.cellS k3 (by simp); have l4 := hu4.cellS k4 (by simp); have HU4 := Lib.hid hu4; have hs4 := HS3.out.keep hu4 (by simp); have e1 := hs4.tcell HI1.out; have e2 := hs4.rcell HI1.out; have e3 := hs4.tcell HJ1.out; have e4 := hs4.rcell HJ1.out; have HS4 := Lib.hid hs4; clear hu4 hs4)
              go_simp
              refine hK.out _ _ (⟨l0, l1, l2, l3, l4, e1, e2, e3, e4⟩) (fun hHeld => ?_)
              clear hK K hHeld
              try simp only [Act.put, List.setIfInBounds_toArray, List.set_cons_zero, List.set_cons_succ, List.getElem_toArray, List.getElem_cons_succ, List.getElem_cons_zero]
              have hS3 : (fun w' => w'.cell? ⟨wr.heap.size, 0, none⟩ = some (.int .i64 kd) ∧ w'.cell? ⟨wr.heap.size, 1, none⟩ = some (.int .i64 iv) ∧ w'.cell? ⟨wr.heap.size, 2, none⟩ = some (.int .i64 jv) ∧ w'.cell? ⟨wr.heap.size, 3, none⟩ = some (.string key.s) ∧ w'.cell? ⟨wr.heap.size, 4, none⟩ = some (.int .i64 nn) ∧ w'.cell? ⟨gt, i1, none⟩ = some (.pointer (some ⟨(D3 i1).tb, 0, none⟩)) ∧ w'.cell? ⟨gr, i1, none⟩ = some (.pointer (some ⟨(D3 i1).rb, 0, none⟩)) ∧ w'.cell? ⟨gt, j1, none⟩ = some (.pointer (some ⟨(D3 j1).tb, 0, none⟩)) ∧ w'.cell? ⟨gr, j1, none⟩ = some (.pointer (some ⟨(D3 j1).rb, 0, none⟩))) w3 := ⟨l0, l1, l2, l3, l4, e1, e2, e3, e4⟩
              refine wpAnyH_take (i := 19) (v := ?vv19) rfl (by kernel_rfl) (by kernel_rfl) (by kernel_rfl) (fun _ _ _ h => h) (Or.inl ⟨by rfl, ?hy19⟩) (by assumption) ?rest19
              case hy19 =>
                intro w hSw
                (try dsimp only at hSw)
                simp only [List.getElem_toArray, List.getElem_cons_succ, List.getElem_cons_zero]
                go_simp
                try with_reducible rfl
              try simp only [Act.put, List.setIfInBounds_toArray, List.set_cons_zero, List.set_cons_succ, List.getElem_toArray, List.getElem_cons_succ, List.getElem_cons_zero]
              refine wpAnyH_take (i := 20) (v := ?vv20) rfl (by kernel_rfl) (by kernel_rfl) (by kernel_rfl) (fun _ _ _ h => h) (Or.inl ⟨by rfl, ?hy20⟩) (by assumption) ?rest20
              case hy20 =>
                intro w hSw
                (try dsimp only at hSw)
                simp only [List.getElem_toArray, List.getElem_cons_succ, List.getElem_cons_zero]
                go_simp
                try with_reducible rfl
              try simp only [Act.put, List.setIfInBounds_toArray, List.set_cons_zero, List.set_cons_succ, List.getElem_toArray, List.getElem_cons_succ, List.getElem_cons_zero]
              refine wpAnyH_take (i := 21) (v := ?vv21) rfl (by kernel_rfl) (by kernel_rfl) (by kernel_rfl) (fun _ _ _ h => h) (Or.inl ⟨by rfl, ?hy21⟩) (by assumption) ?rest21
              case hy21 =>
                intro w hSw
                (try dsimp only at hSw)
                simp only [List.getElem_toArray, List.getElem_cons_succ, List.getElem_cons_zero]
                go_simp
                try with_reducible rfl
              try simp only [Act.put, List.setIfInBounds_toArray, List.set_cons_zero, List.set_cons_succ, List.getElem_toArray, List.getElem_cons_succ, List.getElem_cons_zero]
              refine wpAnyH_take (i := 22) (v := ?vv22) rfl (by kernel_rfl) (by kernel_rfl) (by kernel_rfl) (fun _ _ _ h => h) (Or.inl ⟨by rfl, ?hy22⟩) (by assumption) ?rest22
              case hy22 =>
                intro w hSw
                (try dsimp only at hSw)
                simp only [List.getElem_toArray, List.getElem_cons_succ, List.getElem_cons_zero]
                go_simp
                try with_reducible rfl
              try simp only [Act.put, List.setIfInBounds_toArray, List.set_cons_zero, List.set_cons_succ, List.getElem_toArray, List.getElem_cons_succ, List.getElem_cons_zero]
              refine wpAnyH_take (i := 23) (v := ?vv23) rfl (by kernel_rfl) (by kernel_rfl) (by kernel_rfl) (fun _ _ _ h => h) (Or.inl ⟨by rfl, ?hy23⟩) (by assumption) ?rest23
              case hy23 =>
                intro w hSw
                (try dsimp only at hSw)
                simp only [List.getElem_toArray, List.getElem_cons_succ, List.getElem_cons_zero]
                go_simp
                try with_reducible rfl
              try simp only [Act.put, List.setIfInBounds_toArray, List.set_cons_zero, List.set_cons_succ, List.getElem_toArray, List.getElem_cons_succ, List.getElem_cons_zero]
              refine wpAnyH_take (i := 24) (v := ?vv24) rfl (by kernel_rfl) (by kernel_rfl) (by kernel_rfl) (fun _ _ _ h => h) (Or.inl ⟨by rfl, ?hy24⟩) (by assumption) ?rest24
              case hy24 =>
                intro w hSw
                (try dsimp only at hSw)
                simp only [List.getElem_toArray, List.getElem_cons_succ, List.getElem_cons_zero]
                go_simp
                try with_reducible rfl
              try simp only [Act.put, List.setIfInBounds_toArray, List.set_cons_zero, List.set_cons_succ, List.getElem_toArray, List.getElem_cons_succ, List.getElem_cons_zero]
              refine wpAnyH_take (i := 25) (v := ?vv25) rfl (by kernel_rfl) (by kernel_rfl) (by kernel_rfl) (fun _ _ _ h => h) (Or.inl ⟨by rfl, ?hy25⟩) (by assumption) ?rest25
              case hy25 =>
                intro w hSw
                (try dsimp only at hSw)
                simp only [List.getElem_toArray, List.getElem_cons_succ, List.getElem_cons_zero]
                go_simp
                try with_reducible rfl
              try simp only [Act.put, List.setIfInBounds_toArray, List.set_cons_zero, List.set_cons_succ, List.getElem_toArray, List.getElem_cons_succ, List.getElem_cons_zero]
              refine wpAnyH_take (i := 26) (v := ?vv26) rfl (by kernel_rfl) (by kernel_rfl) (by kernel_rfl) (fun _ _ _ h => h) (Or.inl ⟨by rfl, ?hy26⟩) (by assumption) ?rest26
              case hy26 =>
                intro w hSw
                (try dsimp only at hSw)
                simp only [List.getElem_toArray, List.getElem_cons_succ, List.getElem_cons_zero]
                go_simp
                try with_reducible rfl
              try simp only [Act.put, List.setIfInBounds_toArray, List.set_cons_zero, List.set_cons_succ, List.getElem_toArray, List.getElem_cons_succ, List.getElem_cons_zero]
              refine wpAnyH_take (i := 27) (v := ?vv27) rfl (by kernel_rfl) (by kernel_rfl) (by kernel_rfl) (fun _ _ _ h => h) (Or.inl ⟨by rfl, ?hy27⟩) (by assumption) ?rest27
              case hy27 =>
                intro w hSw
                (try dsimp only at hSw)
                simp only [List.getElem_toArray, List.getElem_cons_succ, List.getElem_cons_zero]
                go_simp
                try with_reducible rfl
              try simp only [Act.put, List.setIfInBounds_toArray, List.set_cons_zero, List.set_cons_succ, List.getElem_toArray, List.getElem_cons_succ, List.getElem_cons_zero]
              refine wpAnyH_take (i := 28) (v := ?vv28) rfl (by kernel_rfl) (by kernel_rfl) (by kernel_rfl) (fun _ _ _ h => h) (Or.inl ⟨by rfl, ?hy28⟩) (by assumption) ?rest28
              case hy28 =>
                intro w hSw
                (try dsimp only at hSw)
                simp only [List.getElem_toArray, List.getElem_cons_succ, List.getElem_cons_zero]
                go_simp
                try with_reducible rfl
              try simp only [Act.put, List.setIfInBounds_toArray, List.set_cons_zero, List.set_cons_succ, List.getElem_toArray, List.getElem_cons_succ, List.getElem_cons_zero]
              refine wpAnyH_take (i := 29) (v := ?vv29) rfl (by kernel_rfl) (by kernel_rfl) (by kernel_rfl) (fun _ _ _ h => h) (Or.inl ⟨by rfl, ?hy29⟩) (by assumption) ?rest29
              case hy29 =>
                intro w hSw
                (try dsimp only at hSw)
                simp only [List.getElem_toArray, List.getElem_cons_succ, List.getElem_cons_zero]
                go_simp
                try with_reducible rfl
              try simp only [Act.put, List.setIfInBounds_toArray, List.set_cons_zero, List.set_cons_succ, List.getElem_toArray, List.getElem_cons_succ, List.getElem_cons_zero]
              refine wpAnyH_take (i := 30) (v := ?vv30) rfl (by kernel_rfl) (by kernel_rfl) (by kernel_rfl) (fun _ _ _ h => h) (Or.inl ⟨by rfl, ?hy30⟩) (by assumption) ?rest30
              case hy30 =>
                intro w hSw
                (try dsimp only at hSw)
                simp only [List.getElem_toArray, List.getElem_cons_succ, List.getElem_cons_zero]
                go_simp
                try with_reducible rfl
              try simp only [Act.put, List.setIfInBounds_toArray, List.set_cons_zero, List.set_cons_succ, List.getElem_toArray, List.getElem_cons_succ, List.getElem_cons_zero]
              refine wpAnyH_take (i := 31) (v := ?vv31) rfl (by kernel_rfl) (by kernel_rfl) (by kernel_rfl) (fun _ _ _ h => h) (Or.inl ⟨by rfl, ?hy31⟩) (by assumption) ?rest31
              case hy31 =>
                intro w hSw
                (try dsimp only at hSw)
                simp only [List.getElem_toArray, List.getElem_cons_succ, List.getElem_cons_zero]
                go_simp
                try with_reducible rfl
              try simp only [Act.put, List.setIfInBounds_toArray, List.set_cons_zero, List.set_cons_succ, List.getElem_toArray, List.getElem_cons_succ, List.getElem_cons_zero]
              refine wpAnyH_ready (rs := [32]) (by kernel_rfl) (by simp) ?_
              refine AllReadyH.cons rfl (fun K hK => ?_) AllReadyH.nil
              simp only [List.getElem_toArray, List.getElem_cons_succ, List.getElem_cons_zero]
              go_simp
              (go_at_call 18; have HS5 := HS4; refine (st_alike HS5.out (by have := HUL3.out; simp; omega) j1 HJ1.out key).mono ?_; rintro e w4 ⟨rfl, hu5⟩; have m0 := hu5.cellS l0 (by simp); have m1 := hu5.cellS l1 (by simp); have m2 := hu5.cellS l2 (by simp); have m3 := hu5.cellS l3 (by simp); have m4 := hu5.cellS l4 (by simp); have HU5 := Lib.hid hu5; have hs6 := HS5.out.keep hu5 (by simp); have e1 := hs6.tcell HI1.out; have e2 := hs6.rcell HI1.out; have e3 := hs6.tcell HJ1.out; have e4 := hs6.rcell HJ1.out; have HS6 := Lib.hid hs6; clear hu5 hs6)
              go_simp
              refine hK.out _ _ (⟨m0, m1, m2, m3, m4, e1, e2, e3, e4⟩) (fun hHeld => ?_)
              clear hK K hHeld
              try simp only [Act.put, List.setIfInBounds_toArray, List.set_cons_zero, List.set_cons_succ, List.getElem_toArray, List.getElem_cons_succ, List.getElem_cons_zero]
              have hS4 : (fun w' => w'.cell? ⟨wr.heap.size, 0, none⟩ = some (.int .i64 kd) ∧ w'.cell? ⟨wr.heap.size, 1, none⟩ = some (.int .i64 iv) ∧ w'.cell? ⟨wr.heap.size, 2, none⟩ = some (.int .i64 jv) ∧ w'.cell? ⟨wr.heap.size, 3, none⟩ = some (.string key.s) ∧ w'.cell? ⟨wr.heap.size, 4, none⟩ = some (.int .i64 nn) ∧ w'.cell? ⟨gt, i1, none⟩ = some (.pointer (some ⟨(D3 i1).tb, 0, none⟩)) ∧ w'.cell? ⟨gr, i1, none⟩ = some (.pointer (some ⟨(D3 i1).rb, 0, none⟩)) ∧ w'.cell? ⟨gt, j1, none⟩ = some (.pointer (some ⟨(D3 j1).tb, 0, none⟩)) ∧ w'.cell? ⟨gr, j1, none⟩ = some (.pointer (some ⟨(D3 j1).rb, 0, none⟩))) w4 := ⟨m0, m1, m2, m3, m4, e1, e2, e3, e4⟩
              refine wpAnyH_take (i := 33) (v := ?vv33) rfl (by kernel_rfl) (by kernel_rfl) (by kernel_rfl) (fun _ _ _ h => h) (Or.inl ⟨by rfl, ?hy33⟩) (by assumption) ?rest33
              case hy33 =>
                intro w hSw
                (try dsimp only at hSw)
                simp only [List.getElem_toArray, List.getElem_cons_succ, List.getElem_cons_zero]
                go_simp
                try with_reducible rfl
              try simp only [Act.put, List.setIfInBounds_toArray, List.set_cons_zero, List.set_cons_succ, List.getElem_toArray, List.getElem_cons_succ, List.getElem_cons_zero]
              refine wpAnyH_take (i := 34) (v := ?vv34) rfl (by kernel_rfl) (by kernel_rfl) (by kernel_rfl) (fun _ _ _ h => h) (Or.inl ⟨by rfl, ?hy34⟩) (by assumption) ?rest34
              case hy34 =>
                intro w hSw
                (try dsimp only at hSw)
                simp only [List.getElem_toArray, List.getElem_cons_succ, List.getElem_cons_zero]
                go_simp
                try with_reducible rfl
              try simp only [Act.put, List.setIfInBounds_toArray, List.set_cons_zero, List.set_cons_succ, List.getElem_toArray, List.getElem_cons_succ, List.getElem_cons_zero]
              refine wpAnyH_done (by kernel_rfl) ?_ _
              refine NoPanic.normal ?_
              all_goals
                go_wp2_with fail
                have hm := HM.out
                have h300 := H300.out
                go_roundg (xs.length - (i + 1))
                case measure => omega
                case rel => exact ⟨i + 1, key :: U, D3, by omega, by simp, by have := HUL.out; simp; omega, by omega, HS6.out, ((hu2.out.trans HU3.out).trans (Upd.updB HU4.out)).trans (Upd.updB HU5.out)⟩
          · have hii : ¬ (i : Int) < xs.length := by omega
            go_wp2_with fail
            go_meet
            exact ⟨U, D2, by have := HUL.out; omega, HS.out, HU.out⟩
      case rest =>
        obtain ⟨U, D2, hUl, hst, hub⟩ := hcut
        have HS := Lib.hid hst
        have HU := Lib.hid hub
        clear hst hub
        obtain ⟨c0, c1, c2, r0, r1, r2⟩ := HS.out.cells6
        have HUx := Lib.hid (show U.length ≤ 400 by omega)
        clear hUl
        go_wp2_with fail
        go_region_held3 (fun w' => w'.cell? ⟨gt, 0, none⟩ = some (.pointer (some ⟨(D2 0).tb, 0, none⟩)) ∧ w'.cell? ⟨gt, 1, none⟩ = some (.pointer (some ⟨(D2 1).tb, 0, none⟩)) ∧ w'.cell? ⟨gt, 2, none⟩ = some (.pointer (some ⟨(D2 2).tb, 0, none⟩)) ∧ w'.cell? ⟨gr, 0, none⟩ = some (.pointer (some ⟨(D2 0).rb, 0, none⟩)) ∧ w'.cell? ⟨gr, 1, none⟩ = some (.pointer (some ⟨(D2 1).rb, 0, none⟩)) ∧ w'.cell? ⟨gr, 2, none⟩ = some (.pointer (some ⟨(D2 2).rb, 0, none⟩))) (go_keep)
          (first
            | (go_at_call 18; have HS5 := HS4; refine (st_alike HS5.out (by have := HUx.out; omega) 2 (by omega) sE).mono ?_; rintro e w4 ⟨rfl, hu5⟩; have HU5 := Lib.hid hu5; obtain ⟨c0, c1, c2, r0, r1, r2⟩ := (HS5.out.keep hu5 (by simp)).cells6; clear hu5)
            | (go_at_call 18; have HS5 := HS3; refine (st_alike HS5.out (by have := HUx.out; omega) 1 (by omega) sE).mono ?_; rintro e w3 ⟨rfl, hu4⟩; have hs4 := HS3.out.keep hu4 (by simp); have HS4 := Lib.hid hs4; have HU4 := Lib.hid hu4; obtain ⟨c0, c1, c2, r0, r1, r2⟩ := hs4.cells6; clear hu4 hs4)
            | (go_at_call 18; refine (st_alike (HS.out.keep (Upd.refl [] wc).drew (by simp)) (by have := HUx.out; omega) 0 (by omega) sE).mono ?_; rintro e w2 ⟨rfl, hu3⟩; have hs3 := (HS.out.keep (Upd.refl [] wc).drew (by simp)).keep hu3 (by simp); have HS3 := Lib.hid hs3; have HU3 := Lib.hid ((Upd.refl [] wc).drew.trans hu3); obtain ⟨c0, c1, c2, r0, r1, r2⟩ := hs3.cells6; clear hu3 hs3))
        go_wp2_with fail
        go_ret
        exact ⟨rfl, (HU.out.trans (Upd.updB HU3.out)).trans ((Upd.updB HU4.out).trans (Upd.updB HU5.out))⟩
end Go.Proofs.Ytcdmdpgfadopcaa
