/-
  multi: chains of times: Covers, Insert (in the order in which Multi inserts).
-/
import Derived.Test.YtcdmdpgfadopcaaMulti1
import Derived.Deep.RegionLaw
namespace Go.Proofs.Ytcdmdpgfadopcaa
open Go.Slu Go.MapKept Go.RowKit Go.Sort

theorem hmf (fn : Fn) (first cap : Array Value) (w : World) : (Instr.makeFunc fn first cap).run Try.prog w = .ok (.func fn first cap) w := rfl
abbrev box2 (b2 b3 : Nat) : Array Value := #[.pointer (some ⟨b2, 0, none⟩), .pointer (some ⟨b3, 0, none⟩)]
section
variable {w : World} {cb b2 b3 : Nat} {v : TimeK}
set_option maxRecDepth 20000 in
/-- 'func(x T) bool { return c.below(x, v) }' -/
theorem covers1 (hc0 : w.cell? ⟨cb, 0, none⟩ = some fAhead) (h2 : w.cell? ⟨b2, 0, none⟩ = some (.pointer (some ⟨cb, 0, none⟩))) (hv : w.cell? ⟨b3, 0, none⟩ = some (.int .u64 v.a) ∧ w.cell? ⟨b3, 1, none⟩ = some (.int .u64 v.b) ∧ w.cell? ⟨b3, 2, none⟩ = some (.int .u64 v.c)) :
    PredIn Try.prog 150 (box2 b2 b3) ekT (fun x => aheadT x v) w := by
  intro W x hW
  have hu := (Upd.refl [] W).alloc (.cells #[.int .u64 x.a, .int .u64 x.b, .int .u64 x.c] 50)
  have e0 := hu.cellS (hW.cellS hc0 (by simp)) (by simp)
  have e1 := hu.cellS (hW.cellS h2 (by simp)) (by simp)
  have v0 := hu.cellS (hW.cellS hv.1 (by simp)) (by simp)
  have v1 := hu.cellS (hW.cellS hv.2.1 (by simp)) (by simp)
  have v2 := hu.cellS (hW.cellS hv.2.2 (by simp)) (by simp)
  have x0 := cell_new W #[.int .u64 x.a, .int .u64 x.b, .int .u64 x.c] 50 0 (v := .int .u64 x.a) rfl
  have x1 := cell_new W #[.int .u64 x.a, .int .u64 x.b, .int .u64 x.c] 50 1 (v := .int .u64 x.b) rfl
  have x2 := cell_new W #[.int .u64 x.a, .int .u64 x.b, .int .u64 x.c] 50 2 (v := .int .u64 x.c) rfl
  have ha := Lib.hid (fun W2 => ahead_any x v W2)
  have HU := Lib.hid (hW.trans hu)
  obtain ⟨r, hr⟩ : ∃ r, r = aheadT x v := ⟨_, rfl⟩
  rw [← hr] at ha
  have HR := Lib.hid hr
  clear hr
  clear hc0 h2 hv hW hu
  show Calls _ _ #[ekT x, .pointer (some ⟨b2, 0, none⟩), .pointer (some ⟨b3, 0, none⟩)] W _
  go_enter Try.func150, Try.ntmps150
  go_upto_region 1 with fail
  generalize W.alloc (.cells #[.int .u64 x.a, .int .u64 x.b, .int .u64 x.c] 50) = w2 at *
  generalize W.heap.size = bx at *
  go_region_held3 (fun w' => w'.cell? ⟨cb, 0, none⟩ = some fAhead ∧ w'.cell? ⟨b2, 0, none⟩ = some (.pointer (some ⟨cb, 0, none⟩)) ∧ w'.cell? ⟨b3, 0, none⟩ = some (.int .u64 v.a) ∧ w'.cell? ⟨b3, 1, none⟩ = some (.int .u64 v.b) ∧ w'.cell? ⟨b3, 2, none⟩ = some (.int .u64 v.c) ∧ w'.cell? ⟨bx, 0, none⟩ = some (.int .u64 x.a) ∧ w'.cell? ⟨bx, 1, none⟩ = some (.int .u64 x.b) ∧ w'.cell? ⟨bx, 2, none⟩ = some (.int .u64 x.c)) (go_keep)
    ((go_at_call 107; refine (ha.out _).mono ?_; rintro e w3 ⟨rfl, hu⟩; have hk := fun (pp : Addr) v (h : w2.cell? pp = some v) => hu.cellS (show w2.drew.cell? pp = some v from h) (by simp); have k0 := hk _ _ e0; have k1 := hk _ _ e1; have k2 := hk _ _ v0; have k3 := hk _ _ v1; have k4 := hk _ _ v2; have k5 := hk _ _ x0; have k6 := hk _ _ x1; have k7 := hk _ _ x2; have HU2 := Lib.hid (HU.out.trans ((Upd.refl [] w2).drew.trans hu)); clear hu hk))
  go_wp2_with fail
  go_ret
  exact ⟨by rw [← HR.out]; rfl, HU2.out⟩
set_option maxRecDepth 20000 in
/-- 'func(x T) bool { return c.below(v, x) }' -/
theorem cut1 (hc0 : w.cell? ⟨cb, 0, none⟩ = some fAhead) (h2 : w.cell? ⟨b2, 0, none⟩ = some (.pointer (some ⟨cb, 0, none⟩))) (hv : w.cell? ⟨b3, 0, none⟩ = some (.int .u64 v.a) ∧ w.cell? ⟨b3, 1, none⟩ = some (.int .u64 v.b) ∧ w.cell? ⟨b3, 2, none⟩ = some (.int .u64 v.c)) :
    PredIn Try.prog 175 (box2 b2 b3) ekT (fun x => aheadT v x) w := by
  intro W x hW
  have hu := (Upd.refl [] W).alloc (.cells #[.int .u64 x.a, .int .u64 x.b, .int .u64 x.c] 50)
  have e0 := hu.cellS (hW.cellS hc0 (by simp)) (by simp)
  have e1 := hu.cellS (hW.cellS h2 (by simp)) (by simp)
  have v0 := hu.cellS (hW.cellS hv.1 (by simp)) (by simp)
  have v1 := hu.cellS (hW.cellS hv.2.1 (by simp)) (by simp)
  have v2 := hu.cellS (hW.cellS hv.2.2 (by simp)) (by simp)
  have x0 := cell_new W #[.int .u64 x.a, .int .u64 x.b, .int .u64 x.c] 50 0 (v := .int .u64 x.a) rfl
  have x1 := cell_new W #[.int .u64 x.a, .int .u64 x.b, .int .u64 x.c] 50 1 (v := .int .u64 x.b) rfl
  have x2 := cell_new W #[.int .u64 x.a, .int .u64 x.b, .int .u64 x.c] 50 2 (v := .int .u64 x.c) rfl
  have ha := Lib.hid (fun W2 => ahead_any v x W2)
  have HU := Lib.hid (hW.trans hu)
  obtain ⟨r, hr⟩ : ∃ r, r = aheadT v x := ⟨_, rfl⟩
  rw [← hr] at ha
  have HR := Lib.hid hr
  clear hr
  clear hc0 h2 hv hW hu
  show Calls _ _ #[ekT x, .pointer (some ⟨b2, 0, none⟩), .pointer (some ⟨b3, 0, none⟩)] W _
  go_enter Try.func175, Try.ntmps175
  go_upto_region 1 with fail
  generalize W.alloc (.cells #[.int .u64 x.a, .int .u64 x.b, .int .u64 x.c] 50) = w2 at *
  generalize W.heap.size = bx at *
  go_region_held3 (fun w' => w'.cell? ⟨cb, 0, none⟩ = some fAhead ∧ w'.cell? ⟨b2, 0, none⟩ = some (.pointer (some ⟨cb, 0, none⟩)) ∧ w'.cell? ⟨b3, 0, none⟩ = some (.int .u64 v.a) ∧ w'.cell? ⟨b3, 1, none⟩ = some (.int .u64 v.b) ∧ w'.cell? ⟨b3, 2, none⟩ = some (.int .u64 v.c) ∧ w'.cell? ⟨bx, 0, none⟩ = some (.int .u64 x.a) ∧ w'.cell? ⟨bx, 1, none⟩ = some (.int .u64 x.b) ∧ w'.cell? ⟨bx, 2, none⟩ = some (.int .u64 x.c)) (go_keep)
    ((go_at_call 107; refine (ha.out _).mono ?_; rintro e w3 ⟨rfl, hu⟩; have hk := fun (pp : Addr) v (h : w2.cell? pp = some v) => hu.cellS (show w2.drew.cell? pp = some v from h) (by simp); have k0 := hk _ _ e0; have k1 := hk _ _ e1; have k2 := hk _ _ v0; have k3 := hk _ _ v1; have k4 := hk _ _ v2; have k5 := hk _ _ x0; have k6 := hk _ _ x1; have k7 := hk _ _ x2; have HU2 := Lib.hid (HU.out.trans ((Upd.refl [] w2).drew.trans hu)); clear hu hk))
  go_wp2_with fail
  go_ret
  exact ⟨by rw [← HR.out]; rfl, HU2.out⟩
set_option maxRecDepth 20000 in
/-- 'func(y T) bool { return c.first(v, y) }' -/
theorem insert1 (hc1 : w.cell? ⟨cb, 1, none⟩ = some fTold) (h2 : w.cell? ⟨b2, 0, none⟩ = some (.pointer (some ⟨cb, 0, none⟩))) (hv : w.cell? ⟨b3, 0, none⟩ = some (.int .u64 v.a) ∧ w.cell? ⟨b3, 1, none⟩ = some (.int .u64 v.b) ∧ w.cell? ⟨b3, 2, none⟩ = some (.int .u64 v.c)) :
    PredIn Try.prog 144 (box2 b2 b3) ekT (fun x => decide (cmpT v x < 0)) w := by
  intro W x hW
  have hu := (Upd.refl [] W).alloc (.cells #[.int .u64 x.a, .int .u64 x.b, .int .u64 x.c] 50)
  have e0 := hu.cellS (hW.cellS hc1 (by simp)) (by simp)
  have e1 := hu.cellS (hW.cellS h2 (by simp)) (by simp)
  have v0 := hu.cellS (hW.cellS hv.1 (by simp)) (by simp)
  have v1 := hu.cellS (hW.cellS hv.2.1 (by simp)) (by simp)
  have v2 := hu.cellS (hW.cellS hv.2.2 (by simp)) (by simp)
  have x0 := cell_new W #[.int .u64 x.a, .int .u64 x.b, .int .u64 x.c] 50 0 (v := .int .u64 x.a) rfl
  have x1 := cell_new W #[.int .u64 x.a, .int .u64 x.b, .int .u64 x.c] 50 1 (v := .int .u64 x.b) rfl
  have x2 := cell_new W #[.int .u64 x.a, .int .u64 x.b, .int .u64 x.c] 50 2 (v := .int .u64 x.c) rfl
  have ha := Lib.hid (fun W2 => told_any v x W2)
  have HU := Lib.hid (hW.trans hu)
  obtain ⟨r, hr⟩ : ∃ r, r = decide (cmpT v x < 0) := ⟨_, rfl⟩
  rw [← hr] at ha
  have HR := Lib.hid hr
  clear hr
  clear hc1 h2 hv hW hu
  show Calls _ _ #[ekT x, .pointer (some ⟨b2, 0, none⟩), .pointer (some ⟨b3, 0, none⟩)] W _
  go_enter Try.func144, Try.ntmps144
  go_upto_region 1 with fail
  generalize W.alloc (.cells #[.int .u64 x.a, .int .u64 x.b, .int .u64 x.c] 50) = w2 at *
  generalize W.heap.size = bx at *
  go_region_held3 (fun w' => w'.cell? ⟨cb, 1, none⟩ = some fTold ∧ w'.cell? ⟨b2, 0, none⟩ = some (.pointer (some ⟨cb, 0, none⟩)) ∧ w'.cell? ⟨b3, 0, none⟩ = some (.int .u64 v.a) ∧ w'.cell? ⟨b3, 1, none⟩ = some (.int .u64 v.b) ∧ w'.cell? ⟨b3, 2, none⟩ = some (.int .u64 v.c) ∧ w'.cell? ⟨bx, 0, none⟩ = some (.int .u64 x.a) ∧ w'.cell? ⟨bx, 1, none⟩ = some (.int .u64 x.b) ∧ w'.cell? ⟨bx, 2, none⟩ = some (.int .u64 x.c)) (go_keep)
    ((go_at_call 108; refine (ha.out _).mono ?_; rintro e w3 ⟨rfl, hu⟩; have hk := fun (pp : Addr) v (h : w2.cell? pp = some v) => hu.cellS (show w2.drew.cell? pp = some v from h) (by simp); have k0 := hk _ _ e0; have k1 := hk _ _ e1; have k2 := hk _ _ v0; have k3 := hk _ _ v1; have k4 := hk _ _ v2; have k5 := hk _ _ x0; have k6 := hk _ _ x1; have k7 := hk _ _ x2; have HU2 := Lib.hid (HU.out.trans ((Upd.refl [] w2).drew.trans hu)); clear hu hk))
  go_wp2_with fail
  go_ret
  exact ⟨by rw [← HR.out]; rfl, HU2.out⟩
variable {a : Option Addr} {c : Nat} {l : List TimeK}
set_option maxRecDepth 20000 in
/-- 'Covers' -/
theorem coversC (h : ChainAt w cb a c l) (hl : l.length ≤ 1000000000) (v : TimeK) : Calls Try.prog 121 #[.pointer (some ⟨cb, 0, none⟩), ekT v] w fun e w' => e = .returned (.bool (l.any fun x => aheadT x v)) ∧ Upd [] w w' := by
  have hu := ((Upd.refl [] w).alloc (.cells #[.pointer (some ⟨cb, 0, none⟩)] 168)).alloc (.cells #[.int .u64 v.a, .int .u64 v.b, .int .u64 v.c] 50)
  have hs : (w.alloc (.cells #[.pointer (some ⟨cb, 0, none⟩)] 168)).heap.size = w.heap.size + 1 := by simp
  have e1 := ((Upd.refl [] (w.alloc (.cells #[.pointer (some ⟨cb, 0, none⟩)] 168))).alloc (.cells #[.int .u64 v.a, .int .u64 v.b, .int .u64 v.c] 50)).cellS (cell_new w #[.pointer (some ⟨cb, 0, none⟩)] 168 0 (v := .pointer (some ⟨cb, 0, none⟩)) rfl) (by simp)
  have v0 := cell_new (w.alloc (.cells #[.pointer (some ⟨cb, 0, none⟩)] 168)) #[.int .u64 v.a, .int .u64 v.b, .int .u64 v.c] 50 0 (v := .int .u64 v.a) rfl
  have v1 := cell_new (w.alloc (.cells #[.pointer (some ⟨cb, 0, none⟩)] 168)) #[.int .u64 v.a, .int .u64 v.b, .int .u64 v.c] 50 1 (v := .int .u64 v.b) rfl
  have v2 := cell_new (w.alloc (.cells #[.pointer (some ⟨cb, 0, none⟩)] 168)) #[.int .u64 v.a, .int .u64 v.b, .int .u64 v.c] 50 2 (v := .int .u64 v.c) rfl
  rw [hs] at v0 v1 v2
  have h2 := h.keep hu (by simp) (by simp)
  have c2 := h2.c2
  have H2 := Lib.hid h2
  have HU := Lib.hid hu
  clear hs h h2 hu
  go_enter Try.func121, Try.ntmps121
  go_upto_region 1 with fail
  generalize (w.alloc (.cells #[.pointer (some ⟨cb, 0, none⟩)] 168)).alloc (.cells #[.int .u64 v.a, .int .u64 v.b, .int .u64 v.c] 50) = w2 at *
  generalize w.heap.size + 1 = b3 at *
  generalize w.heap.size = b2 at *
  have hcf := Lib.hid (containsFuncT (c := c) (by omega) (H2.out.own.rd elemTi.len) _ _ (enters_of Try.func150 (by kernel_rfl) rfl) _ (covers1 (b2 := b2) (b3 := b3) H2.out.c0 e1 ⟨v0, v1, v2⟩))
  obtain ⟨r, hr⟩ : ∃ r, r = l.any fun x => aheadT x v := ⟨_, rfl⟩
  rw [← hr] at hcf
  have HR := Lib.hid hr
  clear hr
  have hmk := hmf
  go_wp2_with (go_at_call 149; refine hcf.out.mono ?_; rintro e w3 ⟨rfl, hu⟩; have HU2 := Lib.hid hu; clear hu)
  go_ret
  exact ⟨by rw [← HR.out]; rfl, HU.out.trans HU2.out⟩
end
end Go.Proofs.Ytcdmdpgfadopcaa
