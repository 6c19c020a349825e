/-
  sluicelaw14: LedgerPlays, the walk.
-/
import Derived.Test.YtcdmdpgfadopcaaLedgerP4
import Derived.Deep.CutBlock
namespace Go.Proofs.Ytcdmdpgfadopcaa
open Go.Slu Go.MapKept Go.RowKit Go.Sort

theorem sizeLP (W : World) : (Go.sizeOf 84).run Try.prog W = .ok 1 W := size1 _ (by kernel_rfl) W
theorem sizeRP (W : World) : (Go.sizeOf 95).run Try.prog W = .ok 1 W := size1 _ (by kernel_rfl) W
theorem rCells_new {B b : Nat} {cs : Array Value} {t : TypeId} (h : B ≤ b) : ∀ x ∈ (rCells b cs t).foot, B ≤ x := fun x hx => by simp [rCells] at hx; subst hx; exact h
/-- which of the two -/
theorem which (n : Int) : ∃ k : Nat, k < 2 ∧ (n.tmod 2 + 2).tmod 2 = (k : Int) ∧ wrap64 (n.tmod 2 + 2) = n.tmod 2 + 2 := by
  have h := Int.tmod_two_eq n
  rcases h with h | h | h <;> rw [h]
  · exact ⟨1, by omega, rfl, IntWalk.wrap64_in _ (by omega)⟩
  · exact ⟨0, by omega, rfl, IntWalk.wrap64_in _ (by omega)⟩
  · exact ⟨1, by omega, rfl, IntWalk.wrap64_in _ (by omega)⟩
abbrev rOpL (b : Nat) (o : OpL) : Res := rCells b #[.int .i64 o.kd, .int .i64 o.iv, .int .i64 o.s.n, .int .u64 o.s.t.a, .int .u64 o.s.t.b, .int .u64 o.s.t.c] 90

set_option maxHeartbeats 4000000 in
set_option maxRecDepth 20000 in
theorem plays14_any (w : World) (aa : Option Addr) (xs : List OpL) (ca : Nat) (hrd : Rd 6 eeOL w aa xs) (hxl : xs.length ≤ maxLen) :
    Calls Try.prog 8 #[.slice aa xs.length ca] w fun e w' => e = .returned (.bool true) ∧ Below w.heap.size w w' := by
  have HRD := Lib.hid hrd
  have hxl' : (xs.length : Int) ≤ 9223372036854775807 := by simp only [maxLen] at hxl; omega
  clear hrd hxl
  go_enter Try.func8, Try.ntmps8
  go_upto_region 3 with (first
    | (go_at_call 52; have _q := B1; refine (lNew _).mono ?_; rintro e w2 ⟨lb1, tb1, mb1, rfl, ht, h1, h2, h3, hu⟩; have B2 := Lib.hid (B1.out.push (r := rLed lb1 tb1 mb1 []) hu ht (rLed_ge h1 h2 h3)); clear ht h1 h2 h3 hu B1)
    | (go_at_call 52; refine (lNew _).mono ?_; rintro e w1 ⟨lb0, tb0, mb0, rfl, ht, h1, h2, h3, hu⟩; have B1 := Lib.hid ((Bag.start w).push (r := rLed lb0 tb0 mb0 []) hu ht (rLed_ge h1 h2 h3)); clear ht h1 h2 h3 hu))
  have S3 : St2 w ((((w2.alloc (.cells #[pv lb0, pv lb1] 84)).alloc (.cells #[.slice none 0 0] 97)).alloc (.cells #[.slice none 0 0] 97)).alloc (.cells #[pv (w2.heap.size + 1), pv (w2.heap.size + 2)] 95)) w2.heap.size (w2.heap.size + 3) (fun j => if j = 0 then ⟨lb0, tb0, mb0, w2.heap.size + 1, none, 0, [], []⟩ else ⟨lb1, tb1, mb1, w2.heap.size + 2, none, 0, [], []⟩) [] := by
    have b1 := B2.out.push (r := rCells w2.heap.size #[pv lb0, pv lb1] 84) ((Upd.refl [] w2).alloc _) (heap_alloc w2 _).1 (rCells_new (Nat.le_refl _))
    have b2 := b1.push (r := rRef (w2.heap.size + 1) none 0 []) ((Upd.refl [] _).alloc (.cells #[.slice none 0 0] 97)) ⟨by have := (heap_alloc (w2.alloc (.cells #[pv lb0, pv lb1] 84)) (.cells #[.slice none 0 0] 97)).1; simpa using this, OwnAt.nil _ _ _ _⟩ (fun b hb => by simp [rRef, ablk] at hb; subst hb; simp)
    have b3 := b2.push (r := rRef (w2.heap.size + 2) none 0 []) ((Upd.refl [] _).alloc (.cells #[.slice none 0 0] 97)) ⟨by have := (heap_alloc ((w2.alloc (.cells #[pv lb0, pv lb1] 84)).alloc (.cells #[.slice none 0 0] 97)) (.cells #[.slice none 0 0] 97)).1; simpa using this, OwnAt.nil _ _ _ _⟩ (fun b hb => by simp [rRef, ablk] at hb; subst hb; simp)
    have b4 := b3.push (r := rCells (w2.heap.size + 3) #[pv (w2.heap.size + 1), pv (w2.heap.size + 2)] 95) ((Upd.refl [] _).alloc _) (by have := (heap_alloc (((w2.alloc (.cells #[pv lb0, pv lb1] 84)).alloc (.cells #[.slice none 0 0] 97)).alloc (.cells #[.slice none 0 0] 97)) (.cells #[pv (w2.heap.size + 1), pv (w2.heap.size + 2)] 95)).1; simpa [rCells] using this) (rCells_new (by simp))
    exact b4.order [3, 0, 5, 2, 4, 1] 6 (by decide) rfl
  generalize hD0 : (fun j => if j = 0 then (⟨lb0, tb0, mb0, w2.heap.size + 1, none, 0, [], []⟩ : DL) else ⟨lb1, tb1, mb1, w2.heap.size + 2, none, 0, [], []⟩) = D0 at S3
  have HR0 : Hid (RelD D0 0) := Lib.hid (fun i hi => by
    rcases two_cases hi with rfl | rfl <;> subst hD0 <;> exact ⟨fun _ => rfl, fun p hp => by simp at hp, Nat.le_refl _⟩)
  clear hD0 B2
  generalize (((w2.alloc (.cells #[pv lb0, pv lb1] 84)).alloc (.cells #[.slice none 0 0] 97)).alloc (.cells #[.slice none 0 0] 97)).alloc (.cells #[pv (w2.heap.size + 1), pv (w2.heap.size + 2)] 95) = w3 at *
  generalize w2.heap.size + 3 = rsb at *
  generalize w2.heap.size = lsb at *
  have HS3 := Lib.hid S3
  clear S3
  go_upto_block 0 with (go_at_call 43; refine (known14_any _).mono ?_; rintro e w4 ⟨rfl, hu⟩; have HS4 := Lib.hid (HS3.out.step0 hu); clear hu HS3)
  go_cut [] (fun wx => ∃ D, St2 w wx lsb rsb D [] ∧ RelD D 400)
  case first =>
    go_wp2_with fail
    go_loopg [5, 6, 7, 8, 21] xs.length (fun m v5 v6 v7 v8 v21 wz => ∃ (i : Nat) (D : Nat → DL), m + i = xs.length ∧ v21 = .int .i64 i ∧ i ≤ 400 ∧ St2 w wz lsb rsb D [] ∧ RelD D i)
    case atStart => exact ⟨0, D0, rfl, rfl, by omega, HS4.out, HR0.out⟩
    case round =>
      obtain ⟨i, D, hm, rfl, hi4, hs, hr⟩ := hrel
      have HM := Lib.hid hm
      have HS := Lib.hid hs
      have HR := Lib.hid hr
      clear hm hs hr HS4 HR0
      by_cases hi : i < xs.length
      · have hii : (i : Int) < xs.length := by omega
        obtain ⟨o, ho⟩ : ∃ o, xs[i]? = some o := ⟨xs[i], List.getElem?_eq_getElem hi⟩
        obtain ⟨b', off, rfl, hc⟩ := (Bag.rd HS.out HRD.out) i o ho
        have y0 := hc 0 _ rfl
        have y1 := hc 1 _ rfl
        have y2 := hc 2 _ rfl
        have y3 := hc 3 _ rfl
        have y4 := hc 4 _ rfl
        have y5 := hc 5 _ rfl
        clear hc ho
        simp only [Nat.add_zero] at y0
        have z0 := cell_new wr #[.int .i64 o.kd, .int .i64 o.iv, .int .i64 o.s.n, .int .u64 o.s.t.a, .int .u64 o.s.t.b, .int .u64 o.s.t.c] 90 0 (v := .int .i64 o.kd) rfl
        have z1 := cell_new wr #[.int .i64 o.kd, .int .i64 o.iv, .int .i64 o.s.n, .int .u64 o.s.t.a, .int .u64 o.s.t.b, .int .u64 o.s.t.c] 90 1 (v := .int .i64 o.iv) rfl
        have z2 := cell_new wr #[.int .i64 o.kd, .int .i64 o.iv, .int .i64 o.s.n, .int .u64 o.s.t.a, .int .u64 o.s.t.b, .int .u64 o.s.t.c] 90 2 (v := .int .i64 o.s.n) rfl
        have z3 := cell_new wr #[.int .i64 o.kd, .int .i64 o.iv, .int .i64 o.s.n, .int .u64 o.s.t.a, .int .u64 o.s.t.b, .int .u64 o.s.t.c] 90 3 (v := .int .u64 o.s.t.a) rfl
        have z4 := cell_new wr #[.int .i64 o.kd, .int .i64 o.iv, .int .i64 o.s.n, .int .u64 o.s.t.a, .int .u64 o.s.t.b, .int .u64 o.s.t.c] 90 4 (v := .int .u64 o.s.t.b) rfl
        have z5 := cell_new wr #[.int .i64 o.kd, .int .i64 o.iv, .int .i64 o.s.n, .int .u64 o.s.t.a, .int .u64 o.s.t.b, .int .u64 o.s.t.c] 90 5 (v := .int .u64 o.s.t.c) rfl
        have S1 : St2 w (wr.alloc (.cells #[.int .i64 o.kd, .int .i64 o.iv, .int .i64 o.s.n, .int .u64 o.s.t.a, .int .u64 o.s.t.b, .int .u64 o.s.t.c] 90)) lsb rsb D [rOpL wr.heap.size o] := Bag.order (Bag.push HS.out (r := rOpL wr.heap.size o) ((Upd.refl [] wr).alloc (.cells #[.int .i64 o.kd, .int .i64 o.iv, .int .i64 o.s.n, .int .u64 o.s.t.a, .int .u64 o.s.t.b, .int .u64 o.s.t.c] 90)) (heap_alloc wr _).1 (rCells_new (Nat.le_refl _))) [1, 2, 3, 4, 5, 6, 0] 7 (by decide) rfl
        have HS1 := Lib.hid S1
        clear S1
        by_cases h400 : i = 400
        · subst h400
          go_wp2_with fail
          go_meet
          exact ⟨D, Bag.sub HS1.out (by simp), HR.out⟩
        · have h4b : ((i : Int) == 400) = false := by simp; omega
          obtain ⟨k, hk2, hk, hkw⟩ := which o.iv
          go_upto_block 2 with fail
          generalize wr.alloc (.cells #[.int .i64 o.kd, .int .i64 o.iv, .int .i64 o.s.n, .int .u64 o.s.t.a, .int .u64 o.s.t.b, .int .u64 o.s.t.c] 90) = wA at *
          generalize wr.heap.size = ob at *
          obtain ⟨d, hd0⟩ : ∃ d, D k = d := ⟨_, rfl⟩
          have hd := Lib.hid hd0
          have hRd : Hid ((∀ x, cnt d.M x = tot d.L x) ∧ ROk d.L ∧ d.L.length ≤ i) := Lib.hid (hd0 ▸ HR.out k hk2)
          have hbd : Hid (-1000000 ≤ cnt d.M o.s ∧ cnt d.M o.s ≤ 1000000) := Lib.hid (by have := hRd.out.2.1.tot o.s; have := hRd.out.2.2; rw [hRd.out.1]; omega)
          have z2 := HS1.out.xcell 2 (v := .int .i64 o.s.n) rfl
          have z3 := HS1.out.xcell 3 (v := .int .u64 o.s.t.a) rfl
          have z4 := HS1.out.xcell 4 (v := .int .u64 o.s.t.b) rfl
          have z5 := HS1.out.xcell 5 (v := .int .u64 o.s.t.c) rfl
          have hkl : (k : Int) < 2 := by omega
          clear hd0 y0 y1 y2 y3 y4 y5 z0 z1 hk hkw h4b
          go_cut [8, 34] (fun v8 _v34 wx => v8 = .bool true ∧ ∃ D', St2 w wx lsb rsb D' [rOpL ob o] ∧ RelD D' (i + 1))
          case first =>
            by_cases hk0 : o.kd = 0
            · have hmk := Lib.hid (fun W (hW : LedAt W d.lb d.tb d.mb d.M) => makeL hW o.s hbd.out)
              have hadd := Lib.hid (fun W (hW : RefL W d.rb d.a d.c d.L) => rAdd hW hRd.out.2.1 (by have := hRd.out.2.2; omega) o.s 1 (by omega))
              have x0 := HS1.out.lcell hk2 hd.out
              have x1 := HS1.out.rcell hk2 hd.out
              go_wp2_with fail
              go_region_held3 (fun w' => w'.cell? ⟨lsb, k, none⟩ = some (pv d.lb) ∧ w'.cell? ⟨rsb, k, none⟩ = some (pv d.rb) ∧ w'.cell? ⟨ob, 2, none⟩ = some (.int .i64 o.s.n) ∧ w'.cell? ⟨ob, 3, none⟩ = some (.int .u64 o.s.t.a) ∧ w'.cell? ⟨ob, 4, none⟩ = some (.int .u64 o.s.t.b) ∧ w'.cell? ⟨ob, 5, none⟩ = some (.int .u64 o.s.t.c)) (go_keep)
                (first
                  | (go_at_call 50; refine (hmk.out _ ((HS1.out.step0 (Upd.refl [] _).drew).led hk2 hd.out)).mono ?_; rintro e w5 ⟨M', rfl, ht, hcM, _, hu⟩; have S2 := (HS1.out.step0 (Upd.refl [] _).drew).turnLed hk2 hd.out hu ht; have k0 := S2.lcell hk2 (updD_at _ _ _); have k1 := S2.rcell hk2 (updD_at _ _ _); simp only at k0 k1; have k2 := S2.xcell 2 (v := .int .i64 o.s.n) rfl; have k3 := S2.xcell 3 (v := .int .u64 o.s.t.a) rfl; have k4 := S2.xcell 4 (v := .int .u64 o.s.t.b) rfl; have k5 := S2.xcell 5 (v := .int .u64 o.s.t.c) rfl; have HS2 := Lib.hid S2; have HCM := Lib.hid hcM; clear S2 ht hcM hu)
                  | (go_at_call 53; have hrf := HS2.out.ref hk2 (updD_at _ _ _); refine (hadd.out _ hrf).mono ?_; rintro e w6 ⟨rfl, a', c', hr', hf', hu'⟩; have S3 := HS2.out.turnRef hk2 (updD_at _ _ _) hu' hr' hf'; have j0 := S3.lcell hk2 (updD_at _ _ _); have j1 := S3.rcell hk2 (updD_at _ _ _); simp only at j0 j1; have j2 := S3.xcell 2 (v := .int .i64 o.s.n) rfl; have j3 := S3.xcell 3 (v := .int .u64 o.s.t.a) rfl; have j4 := S3.xcell 4 (v := .int .u64 o.s.t.b) rfl; have j5 := S3.xcell 5 (v := .int .u64 o.s.t.c) rfl; have HS5 := Lib.hid S3; clear S3 hr' hf' hu'))
              go_wp2_with fail
              go_meet
              exact ⟨rfl, _, HS5.out, by
                rw [updD_upd]
                exact (HR.out.mono (Nat.le_succ i)).upd k (fun x => by simp only [HCM.out x, tot_append, tot_one, hRd.out.1 x]) (rok_add hRd.out.2.1 _ (by omega)) (by have := hRd.out.2.2; simp; omega)⟩
            have hk0b : (o.kd == 0) = false := by simpa using hk0
            by_cases hk1 : o.kd = 1
            · have hmk := Lib.hid (fun W (hW : LedAt W d.lb d.tb d.mb d.M) => useL hW o.s hbd.out)
              have hadd := Lib.hid (fun W (hW : RefL W d.rb d.a d.c d.L) => rAdd hW hRd.out.2.1 (by have := hRd.out.2.2; omega) o.s (-1) (by omega))
              have x0 := HS1.out.lcell hk2 hd.out
              have x1 := HS1.out.rcell hk2 hd.out
              go_wp2_with fail
              go_region_held3 (fun w' => w'.cell? ⟨lsb, k, none⟩ = some (pv d.lb) ∧ w'.cell? ⟨rsb, k, none⟩ = some (pv d.rb) ∧ w'.cell? ⟨ob, 2, none⟩ = some (.int .i64 o.s.n) ∧ w'.cell? ⟨ob, 3, none⟩ = some (.int .u64 o.s.t.a) ∧ w'.cell? ⟨ob, 4, none⟩ = some (.int .u64 o.s.t.b) ∧ w'.cell? ⟨ob, 5, none⟩ = some (.int .u64 o.s.t.c)) (go_keep)
                (first
                  | (go_at_call 49; refine (hmk.out _ ((HS1.out.step0 (Upd.refl [] _).drew).led hk2 hd.out)).mono ?_; rintro e w5 ⟨M', rfl, ht, hcM, _, hu⟩; have S2 := (HS1.out.step0 (Upd.refl [] _).drew).turnLed hk2 hd.out hu ht; have k0 := S2.lcell hk2 (updD_at _ _ _); have k1 := S2.rcell hk2 (updD_at _ _ _); simp only at k0 k1; have k2 := S2.xcell 2 (v := .int .i64 o.s.n) rfl; have k3 := S2.xcell 3 (v := .int .u64 o.s.t.a) rfl; have k4 := S2.xcell 4 (v := .int .u64 o.s.t.b) rfl; have k5 := S2.xcell 5 (v := .int .u64 o.s.t.c) rfl; have HS2 := Lib.hid S2; have HCM := Lib.hid hcM; clear S2 ht hcM hu)
                  | (go_at_call 53; have hrf := HS2.out.ref hk2 (updD_at _ _ _); refine (hadd.out _ hrf).mono ?_; rintro e w6 ⟨rfl, a', c', hr', hf', hu'⟩; have S3 := HS2.out.turnRef hk2 (updD_at _ _ _) hu' hr' hf'; have j0 := S3.lcell hk2 (updD_at _ _ _); have j1 := S3.rcell hk2 (updD_at _ _ _); simp only at j0 j1; have j2 := S3.xcell 2 (v := .int .i64 o.s.n) rfl; have j3 := S3.xcell 3 (v := .int .u64 o.s.t.a) rfl; have j4 := S3.xcell 4 (v := .int .u64 o.s.t.b) rfl; have j5 := S3.xcell 5 (v := .int .u64 o.s.t.c) rfl; have HS5 := Lib.hid S3; clear S3 hr' hf' hu'))
              go_wp2_with fail
              go_meet
              exact ⟨rfl, _, HS5.out, by
                rw [updD_upd]
                exact (HR.out.mono (Nat.le_succ i)).upd k (fun x => by simp only [HCM.out x, tot_append, tot_one, hRd.out.1 x]) (rok_add hRd.out.2.1 _ (by omega)) (by have := hRd.out.2.2; simp; omega)⟩
            have hk1b : (o.kd == 1) = false := by simpa using hk1
            by_cases hk2' : o.kd = 2
            · have x0 := HS1.out.lcell hk2 hd.out
              go_upto_region 18 with (go_at_call 54; refine (lClear (HS1.out.led hk2 hd.out)).mono ?_; rintro e w5 ⟨rfl, ht, hu⟩; have HS2 := Lib.hid (HS1.out.turnLed hk2 hd.out hu ht); clear ht hu)
              clear x0 z2 z3 z4 z5
              have x1 := HS2.out.rcell hk2 (updD_at _ _ _)
              have hrf := HS2.out.ref hk2 (updD_at _ _ _)
              simp only at x1 hrf
              have hrb := hrf.blk
              go_wp2_with (refine wpList_store1 (by rfl) _ _ (by rfl) sizeLedger hrb (i := 0) (by simp) (by simp [Act.eval, Act.put]) (by simp [Act.eval, Act.put]; rfl) (by rfl) ?_; intro w6 hb6 hu6; have HB6 := Lib.hid hb6; have HU6 := Lib.hid hu6; clear hb6 hu6)
              go_meet
              exact ⟨rfl, _, HS2.out.turnRef hk2 (updD_at _ _ _) (a' := none) (c' := 0) (L' := []) (HU6.out.mono (fun b _ hb => by simp at hb; simp [hb])) ⟨by simpa using HB6.out, OwnAt.nil _ _ _ _⟩ (by simp [ablk]), by
                rw [updD_upd]
                exact (HR.out.mono (Nat.le_succ i)).upd k (fun x => rfl) (fun p hp => by simp at hp) (by simp)⟩
            have hk2b : (o.kd == 2) = false := by simpa using hk2'
            by_cases hk3 : o.kd = 3
            · obtain ⟨d2, hd2'⟩ : ∃ d2, D (1 - k) = d2 := ⟨_, rfl⟩
              have hd2 := Lib.hid hd2'
              have h1k : 1 - k < 2 := by omega
              have hks : wrap64 (1 - (k : Int)) = ((1 - k : Nat) : Int) := by rw [IntWalk.wrap64_in _ (by omega)]; omega
              have hkn : ((1 - k : Nat) : Int) < 2 := by omega
              have hR2 : Hid ((∀ x, cnt d2.M x = tot d2.L x) ∧ ROk d2.L ∧ d2.L.length ≤ i) := Lib.hid (hd2' ▸ HR.out (1 - k) h1k)
              clear hd2'
              have x1 := HS1.out.lcell h1k hd2.out
              have HB1 := Lib.hid HS1.out.lblk
              go_upto_region 21 with (first
                | (go_at_call 55; refine (lCopy (HS1.out.led h1k hd2.out)).mono ?_; rintro e w5 ⟨lb', tb', mb', rfl, ht, h1, h2, h3, hu⟩; have HT5 := Lib.hid ht; have HL5 := Lib.hid (And.intro h1 (And.intro h2 h3)); have HU5 := Lib.hid hu; have hb5 := hu.at HB1.out (by simp); clear ht h1 h2 h3 hu)
                | (refine wpList_store1 (by rfl) _ _ (by rfl) sizeLP hb5 (i := k) (by simp; omega) (by simp [Act.eval, Act.put]) (by simp [Act.eval, Act.put]; rfl) (by rfl) ?_; intro w6 hb6 hu6; have HB6 := Lib.hid hb6; have HU6 := Lib.hid hu6; clear hb6 hu6))
              clear x1 hb5
              have HS6 := Lib.hid (HS1.out.copyLed hk2 hd.out HU5.out HT5.out HL5.out.1 HL5.out.2.1 HL5.out.2.2 HB6.out HU6.out)
              clear HU5 HT5 HL5 HB6 HU6 HB1
              have hne : 1 - k ≠ k := by omega
              have x1 := HS6.out.rcell h1k (d := d2) (by rw [updD_ne D hne]; exact hd2.out)
              have hrf := Lib.hid (HS6.out.ref h1k (d := d2) (by rw [updD_ne D hne]; exact hd2.out))
              have HB1 := Lib.hid HS6.out.rblk
              go_wp2_with (first
                | (go_at_call 56; refine (rCopy hrf.out (by have := hR2.out.2.2; omega)).mono ?_; rintro e w7 ⟨rb', a', c', rfl, ht, h1, h2, hu⟩; have HT7 := Lib.hid ht; have HL7 := Lib.hid (And.intro h1 h2); have HU7 := Lib.hid hu; have hb7 := hu.at HB1.out (by simp); clear ht h1 h2 hu)
                | (refine wpList_store1 (by rfl) _ _ (by rfl) sizeRP hb7 (i := k) (by simp; omega) (by simp [Act.eval, Act.put]) (by simp [Act.eval, Act.put]; rfl) (by rfl) ?_; intro w8 hb8 hu8; have HB8 := Lib.hid hb8; have HU8 := Lib.hid hu8; clear hb8 hu8))
              go_meet
              exact ⟨rfl, _, HS6.out.copyRef hk2 (updD_at _ _ _) HU7.out HT7.out HL7.out.1 HL7.out.2 HB8.out HU8.out, by
                rw [updD_upd]
                exact (HR.out.mono (Nat.le_succ i)).upd k hR2.out.1 hR2.out.2.1 (by have := hR2.out.2.2; simp only; omega)⟩
            have hk3b : (o.kd == 3) = false := by simpa using hk3
            go_wp2_with fail
            go_meet
            exact ⟨rfl, D, HS1.out, HR.out.mono (Nat.le_succ i)⟩
          case rest =>
            obtain ⟨rfl, D2, hs2, hr2⟩ := hcut
            clear HS1 HR hd hRd hbd z2 z3 z4 z5
            obtain ⟨d, hd0⟩ : ∃ d, D2 k = d := ⟨_, rfl⟩
            obtain ⟨k', hk'⟩ : ∃ k', k' = 1 - k := ⟨_, rfl⟩
            obtain ⟨d2, hd2⟩ : ∃ d2, D2 k' = d2 := ⟨_, rfl⟩
            have h1k : k' < 2 := by omega
            have hR1 : Hid ((∀ x, cnt d.M x = tot d.L x) ∧ ROk d.L ∧ d.L.length ≤ i + 1) := Lib.hid (hd0 ▸ hr2 k hk2)
            have hR2 : Hid ((∀ x, cnt d2.M x = tot d2.L x) ∧ ROk d2.L ∧ d2.L.length ≤ i + 1) := Lib.hid (hd2 ▸ hr2 k' h1k)
            have hks : wrap64 (1 - (k : Int)) = (k' : Int) := by rw [IntWalk.wrap64_in _ (by omega)]; omega
            have hks2 : IntKind.i64.wrap (1 - (k : Int)) = (k' : Int) := by rw [IntWalk.i64_in _ (by omega)]; omega
            have hkn : (k' : Int) < 2 := by omega
            clear hk'
            have x0 := hs2.lcell hk2 hd0
            have x1 := hs2.rcell hk2 hd0
            have x2 := hs2.lcell h1k hd2
            have x3 := hs2.rcell h1k hd2
            have z2 := hs2.xcell 2 (v := .int .i64 o.s.n) rfl
            have z3 := hs2.xcell 3 (v := .int .u64 o.s.t.a) rfl
            have z4 := hs2.xcell 4 (v := .int .u64 o.s.t.b) rfl
            have z5 := hs2.xcell 5 (v := .int .u64 o.s.t.c) rfl
            have hal := Lib.hid (fun W (hW : Upd [] wc W) => alike14 ((hs2.step0 hW).led hk2 hd0) ((hs2.step0 hW).ref hk2 hd0) hR1.out.2.1 (by have := hR1.out.2.2; omega) hR1.out.1 o.s)
            have hal2 := Lib.hid (fun W (hW : Upd [] wc W) => alike14 ((hs2.step0 hW).led h1k hd2) ((hs2.step0 hW).ref h1k hd2) hR2.out.2.1 (by have := hR2.out.2.2; omega) hR2.out.1 o.s)
            have HS2 := Lib.hid hs2
            have HR2 := Lib.hid hr2
            clear hs2 hr2 hd0 hd2
            go_wp2_with fail
            go_region_held3 (fun w' => w'.cell? ⟨lsb, k, none⟩ = some (pv d.lb) ∧ w'.cell? ⟨rsb, k, none⟩ = some (pv d.rb) ∧ w'.cell? ⟨lsb, k', none⟩ = some (pv d2.lb) ∧ w'.cell? ⟨rsb, k', none⟩ = some (pv d2.rb) ∧ w'.cell? ⟨ob, 2, none⟩ = some (.int .i64 o.s.n) ∧ w'.cell? ⟨ob, 3, none⟩ = some (.int .u64 o.s.t.a) ∧ w'.cell? ⟨ob, 4, none⟩ = some (.int .u64 o.s.t.b) ∧ w'.cell? ⟨ob, 5, none⟩ = some (.int .u64 o.s.t.c)) (go_keep)
              (first
                | (go_at_call_of 57 (pv d2.lb); have _q := HV1; refine (hal2.out _ HV1.out).mono ?_; rintro e w6 ⟨rfl, hu⟩; have HV2 := Lib.hid (HV1.out.trans hu); have hk := fun (pp : Addr) v (h : w5.cell? pp = some v) => hu.cellS h (by simp); have j0 := hk _ _ k0; have j1 := hk _ _ k1; have j2 := hk _ _ k2; have j3 := hk _ _ k3; have j4 := hk _ _ k4; have j5 := hk _ _ k5; have j6 := hk _ _ k6; have j7 := hk _ _ k7; clear hu hk)
                | (go_at_call_of 57 (pv d.lb); refine (hal.out _ (Upd.refl [] _).drew).mono ?_; rintro e w5 ⟨rfl, hu⟩; have HV1 := Lib.hid ((Upd.refl [] wc).drew.trans hu); have hk := fun (pp : Addr) v (h : wc.cell? pp = some v) => hu.cellS (show wc.drew.cell? pp = some v from h) (by simp); have k0 := hk _ _ x0; have k1 := hk _ _ x1; have k2 := hk _ _ x2; have k3 := hk _ _ x3; have k4 := hk _ _ z2; have k5 := hk _ _ z3; have k6 := hk _ _ z4; have k7 := hk _ _ z5; clear hu hk))
            go_wp2_with fail
            go_roundg (xs.length - (i + 1))
            case measure => have := HM.out; omega
            case rel => exact ⟨i + 1, D2, by have := HM.out; omega, rfl, by omega, Bag.sub (Bag.step0 HS2.out HV2.out) (by simp), HR2.out⟩
      · have hii : ¬ (i : Int) < xs.length := by omega
        go_wp2_with fail
        go_meet
        exact ⟨D, HS.out, HR.out.mono hi4⟩
  case rest =>
    obtain ⟨wx, rfl⟩ : ∃ wx, wx = wc := ⟨_, rfl⟩
    obtain ⟨D, hs, hr⟩ := hcut
    obtain ⟨d, hd0⟩ : ∃ d, D 0 = d := ⟨_, rfl⟩
    obtain ⟨d2, hd2⟩ : ∃ d2, D 1 = d2 := ⟨_, rfl⟩
    have hR1 : Hid ((∀ x, cnt d.M x = tot d.L x) ∧ ROk d.L ∧ d.L.length ≤ 400) := Lib.hid (hd0 ▸ hr 0 (by omega))
    have hR2 : Hid ((∀ x, cnt d2.M x = tot d2.L x) ∧ ROk d2.L ∧ d2.L.length ≤ 400) := Lib.hid (hd2 ▸ hr 1 (by omega))
    have x0 := hs.lcell (by omega) hd0
    have x1 := hs.rcell (by omega) hd0
    have x2 := hs.lcell (by omega) hd2
    have x3 := hs.rcell (by omega) hd2
    have hal := Lib.hid (fun W (hW : Upd [] wx W) => alike14 ((hs.step0 hW).led (by omega) hd0) ((hs.step0 hW).ref (by omega) hd0) hR1.out.2.1 (by have := hR1.out.2.2; omega) hR1.out.1 ⟨0, ⟨0, 0, 0, by omega, by omega, by omega⟩, by omega⟩)
    have hal2 := Lib.hid (fun W (hW : Upd [] wx W) => alike14 ((hs.step0 hW).led (by omega) hd2) ((hs.step0 hW).ref (by omega) hd2) hR2.out.2.1 (by have := hR2.out.2.2; omega) hR2.out.1 ⟨0, ⟨0, 0, 0, by omega, by omega, by omega⟩, by omega⟩)
    have HS := Lib.hid hs
    clear hs hr hd0 hd2 HRD HS4 HR0
    go_wp2_with fail
    go_region_held3 (fun w' => w'.cell? ⟨lsb, 0, none⟩ = some (pv d.lb) ∧ w'.cell? ⟨rsb, 0, none⟩ = some (pv d.rb) ∧ w'.cell? ⟨lsb, 1, none⟩ = some (pv d2.lb) ∧ w'.cell? ⟨rsb, 1, none⟩ = some (pv d2.rb)) (go_keep)
      (first
        | (go_at_call_of 57 (pv d2.lb); have _q := HV1; refine (hal2.out _ HV1.out).mono ?_; rintro e w6 ⟨rfl, hu⟩; have HV2 := Lib.hid (HV1.out.trans hu); have hk := fun (pp : Addr) v (h : w5.cell? pp = some v) => hu.cellS h (by simp); have j0 := hk _ _ k0; have j1 := hk _ _ k1; have j2 := hk _ _ k2; have j3 := hk _ _ k3; clear hu hk)
        | (go_at_call_of 57 (pv d.lb); refine (hal.out _ (Upd.refl [] _).drew).mono ?_; rintro e w5 ⟨rfl, hu⟩; have HV1 := Lib.hid ((Upd.refl [] wx).drew.trans hu); have hk := fun (pp : Addr) v (h : wx.cell? pp = some v) => hu.cellS (show wx.drew.cell? pp = some v from h) (by simp); have k0 := hk _ _ x0; have k1 := hk _ _ x1; have k2 := hk _ _ x2; have k3 := hk _ _ x3; clear hu hk))
    go_wp2_with fail
    go_ret
    exact ⟨rfl, Bag.below (Bag.step0 HS.out HV2.out)⟩
end Go.Proofs.Ytcdmdpgfadopcaa
