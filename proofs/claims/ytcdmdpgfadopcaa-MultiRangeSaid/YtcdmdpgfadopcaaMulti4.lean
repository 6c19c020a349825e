/-
  multi: chains of times: Cut, Insert, in the order in which Multi inserts.
-/
import Derived.Test.YtcdmdpgfadopcaaMulti3
import Derived.Test.YtcdmdpgfadopcaaStoreK
namespace Go.Proofs.Ytcdmdpgfadopcaa
open Go.Slu Go.MapKept Go.RowKit Go.Sort

/-- slices.DeleteFunc where there is nothing to delete -/
theorem deleteFuncT {w : World} {a : Option Addr} {c : Nat} {xs : List TimeK} (hl : xs.length ≤ 1099511627776) (hrd : Rd 3 eeT w a xs) (g : Nat) (lb : Array Value) (eg : ∀ args W, (callFunc g args).run Try.prog W = .ok (.enter g args) W) (p : TimeK → Bool) (hp : PredIn Try.prog g lb ekT p w) (hno : ∀ (j : Nat) (y : TimeK), xs[j]? = some y → p y = false) :
    Calls Try.prog 174 #[.slice a xs.length c, .func (.func g) #[] lb] w fun e w' => e = .returned (.slice a xs.length c) ∧ Upd [] w w' := by
  have hi := Lib.hid (indexFuncT (c := c) hl hrd g lb eg p hp)
  rw [ixF_miss hno] at hi
  clear hrd hp hno
  go_enter Try.func174, Try.ntmps174
  go_wp2_with (go_at_call 143; refine hi.out.mono ?_; rintro e w2 ⟨rfl, hu⟩; have HU := Lib.hid hu; clear hu)
  go_ret
  exact ⟨rfl, HU.out⟩
section
variable {w : World} {cb : Nat} {a : Option Addr} {c : Nat} {l : List TimeK}
set_option maxHeartbeats 1000000 in
set_option maxRecDepth 20000 in
/-- 'Cut' where there is nothing to cut -/
theorem cutC (h : ChainAt w cb a c l) (hl : l.length ≤ 1000000) (v : TimeK) (hno : ∀ y ∈ l, aheadT v y = false) : Calls Try.prog 142 #[.pointer (some ⟨cb, 0, none⟩), ekT v] w fun e w' => e = .returned (.int .i64 0) ∧ ChainAt w' cb a c l ∧ Upd [cb] w w' := by
  have hu := ((Upd.refl [] w).alloc (.cells #[.pointer (some ⟨cb, 0, none⟩)] 168)).alloc (.cells #[.int .u64 v.a, .int .u64 v.b, .int .u64 v.c] 50)
  have hs : (w.alloc (.cells #[.pointer (some ⟨cb, 0, none⟩)] 168)).heap.size = w.heap.size + 1 := by simp
  have e1 := ((Upd.refl [] (w.alloc (.cells #[.pointer (some ⟨cb, 0, none⟩)] 168))).alloc (.cells #[.int .u64 v.a, .int .u64 v.b, .int .u64 v.c] 50)).cellS (cell_new w #[.pointer (some ⟨cb, 0, none⟩)] 168 0 (v := .pointer (some ⟨cb, 0, none⟩)) rfl) (by simp)
  have v0 := cell_new (w.alloc (.cells #[.pointer (some ⟨cb, 0, none⟩)] 168)) #[.int .u64 v.a, .int .u64 v.b, .int .u64 v.c] 50 0 (v := .int .u64 v.a) rfl
  have v1 := cell_new (w.alloc (.cells #[.pointer (some ⟨cb, 0, none⟩)] 168)) #[.int .u64 v.a, .int .u64 v.b, .int .u64 v.c] 50 1 (v := .int .u64 v.b) rfl
  have v2 := cell_new (w.alloc (.cells #[.pointer (some ⟨cb, 0, none⟩)] 168)) #[.int .u64 v.a, .int .u64 v.b, .int .u64 v.c] 50 2 (v := .int .u64 v.c) rfl
  rw [hs] at v0 v1 v2
  have h2 := h.keep hu (by simp) (by simp)
  have hne : Hid (w.heap.size ≠ cb) := Lib.hid (by have := lt_of_block h.blk; omega)
  have c2 := h2.c2
  have H2 := Lib.hid h2
  have HU := Lib.hid hu
  have HN := Lib.hid (fun (j : Nat) (y : TimeK) (hy : l[j]? = some y) => hno y (List.mem_of_getElem? hy))
  clear hs h h2 hu hno
  go_enter Try.func142, Try.ntmps142
  go_upto_region 1 with fail
  generalize (w.alloc (.cells #[.pointer (some ⟨cb, 0, none⟩)] 168)).alloc (.cells #[.int .u64 v.a, .int .u64 v.b, .int .u64 v.c] 50) = w2 at *
  generalize w.heap.size + 1 = b3 at *
  generalize w.heap.size = b2 at *
  have hcf := Lib.hid (fun W (hW : Upd [] w2 W) => deleteFuncT (c := c) (by omega) ((H2.out.own.keep hW (by simp)).rd elemTi.len) _ _ (enters_of Try.func175 (by kernel_rfl) rfl) _ (cut1 (b2 := b2) (b3 := b3) (hW.cellS H2.out.c0 (by simp)) (hW.cellS e1 (by simp)) ⟨hW.cellS v0 (by simp), hW.cellS v1 (by simp), hW.cellS v2 (by simp)⟩) HN.out)
  have hmk := hmf
  have f1 : w2.frozen? ⟨cb, 2, none⟩ = false := by simp [World.frozen?, H2.out.blk]
  go_upto_region 4 with fail
  go_region_law
    (first
      | (go_simp; go_at_call 174; refine (hcf.out _ (Upd.refl [] w2).drew).mono ?_; rintro e w3 ⟨rfl, hu⟩; have hk := fun (pp : Addr) v (h : w2.cell? pp = some v) => hu.cellS (show w2.drew.cell? pp = some v from h) (by simp); have e1' := hk _ _ e1; have c2' := hk _ _ c2; have f1' : w3.frozen? ⟨cb, 2, none⟩ = false := (hu.frozen (lt_of_block H2.out.blk) (by simp)).trans (show w2.drew.frozen? _ = _ from f1); have hblk := hu.at (show w2.drew.heap[cb]? = _ from H2.out.blk) (by simp)))
  all_goals
    have u4 : Upd [cb] w3 (w3.setCell ⟨cb, 2, none⟩ (.slice a l.length c)) := (Upd.refl [cb] w3).setCell _ _ (fun _ => by simp)
    have hblk4 := setCell_block hblk 2 (.slice a l.length c)
    have e4 := u4.cellS e1' (by simpa using hne.out)
    generalize w3.setCell ⟨cb, 2, none⟩ (.slice a l.length c) = w4 at *
    have h4 : ChainAt w4 cb a c l := ⟨by simpa using hblk4, (H2.out.own.keep ((Upd.refl [] w2).drew.trans hu) (by simp)).keep u4 (fun b hb => by simpa using H2.out.far b hb)⟩
    have c4 := h4.c2
    have H4 := Lib.hid h4
    have HU4 := Lib.hid (((HU.out.trans ((Upd.refl [] w2).drew.trans hu)).mono (by simp)).trans u4)
    clear u4 hblk4 hblk h4 hu f1' c2' e1' hk f1 c2 e1 v0 v1 v2
    go_wp2_with fail
    go_ret
    exact ⟨rfl, H4.out, HU4.out⟩
theorem ahead_le {x y : TimeK} (h : cmpT x y < 0) : aheadT y x = false := by
  rw [cmpT_lt] at h
  simp only [numsT, LexLt] at h
  unfold aheadT
  rcases h with h | ⟨e, h | ⟨e2, h | ⟨e3, h⟩⟩⟩
  · rw [decide_eq_false (by omega : ¬ y.a ≤ x.a)]; rfl
  · rw [decide_eq_false (by omega : ¬ y.b ≤ x.b)]; simp
  · rw [decide_eq_false (by omega : ¬ y.c ≤ x.c)]; simp
  · exact h.elim
/-- behind 'Insert' -/
def InsC (cb : Nat) (a : Option Addr) (l : List TimeK) (v : TimeK) (w : World) (e : Ending) (w' : World) : Prop :=
  ∃ r a' c', e = .returned (.bool r) ∧ ChainAt w' cb a' c' (if l.any fun x => aheadT x v then l else l ++ [v]) ∧ (∀ b ∈ ablk a', b ∈ ablk a ∨ w.heap.size ≤ b) ∧ Upd (cb :: ablk a) w w'
theorem sizeTi (W : World) : (Go.sizeOf 50).run Try.prog W = .ok 3 W := by
  have := elem_size elemTi W
  rwa [elem_eq elemTi] at this
set_option maxHeartbeats 2000000 in
set_option maxRecDepth 20000 in
/-- 'Insert' of one that is told behind all -/
theorem insertC (h : ChainAt w cb a c l) (hl : l.length ≤ 1000000) (v : TimeK) (hs : ∀ y ∈ l, cmpT y v < 0) : Calls Try.prog 118 #[.pointer (some ⟨cb, 0, none⟩), ekT v] w (InsC cb a l v w) := by
  have hu := ((Upd.refl [] w).alloc (.cells #[.pointer (some ⟨cb, 0, none⟩)] 168)).alloc (.cells #[.int .u64 v.a, .int .u64 v.b, .int .u64 v.c] 50)
  have hsz : (w.alloc (.cells #[.pointer (some ⟨cb, 0, none⟩)] 168)).heap.size = w.heap.size + 1 := by simp
  have e1 := ((Upd.refl [] (w.alloc (.cells #[.pointer (some ⟨cb, 0, none⟩)] 168))).alloc (.cells #[.int .u64 v.a, .int .u64 v.b, .int .u64 v.c] 50)).cellS (cell_new w #[.pointer (some ⟨cb, 0, none⟩)] 168 0 (v := .pointer (some ⟨cb, 0, none⟩)) rfl) (by simp)
  have v0 := cell_new (w.alloc (.cells #[.pointer (some ⟨cb, 0, none⟩)] 168)) #[.int .u64 v.a, .int .u64 v.b, .int .u64 v.c] 50 0 (v := .int .u64 v.a) rfl
  have v1 := cell_new (w.alloc (.cells #[.pointer (some ⟨cb, 0, none⟩)] 168)) #[.int .u64 v.a, .int .u64 v.b, .int .u64 v.c] 50 1 (v := .int .u64 v.b) rfl
  have v2 := cell_new (w.alloc (.cells #[.pointer (some ⟨cb, 0, none⟩)] 168)) #[.int .u64 v.a, .int .u64 v.b, .int .u64 v.c] 50 2 (v := .int .u64 v.c) rfl
  rw [hsz] at v0 v1 v2
  have h2 := h.keep hu (by simp) (by simp)
  have hne : Hid (w.heap.size ≠ cb ∧ w.heap.size + 1 ≠ cb ∧ w.heap.size ∉ ablk a ∧ w.heap.size + 1 ∉ ablk a) := Lib.hid (by
    have h1 := lt_of_block h.blk
    exact ⟨by omega, by omega, fun hb => by have := h.own.lt _ hb; omega, fun hb => by have := h.own.lt _ hb; omega⟩)
  have hs0 : Hid (w.heap.size < (w.alloc (.cells #[.pointer (some ⟨cb, 0, none⟩)] 168)).heap.size + 1) := Lib.hid (by simp; omega)
  have H2 := Lib.hid h2
  have HU := Lib.hid hu
  have HN1 := Lib.hid (fun y hy => ahead_le (hs y hy))
  have HN2 := Lib.hid (fun (j : Nat) (y : TimeK) (hy : l[j]? = some y) => decide_eq_false (cmpT_asym (hs y (List.mem_of_getElem? hy))))
  clear hsz h h2 hu hs hs0
  go_enter Try.func118, Try.ntmps118
  go_upto_region 1 with fail
  generalize (w.alloc (.cells #[.pointer (some ⟨cb, 0, none⟩)] 168)).alloc (.cells #[.int .u64 v.a, .int .u64 v.b, .int .u64 v.c] 50) = w2 at *
  have HB : Hid (∀ b, w.heap.size ≤ b → b = w.heap.size ∨ b = w.heap.size + 1 ∨ w.heap.size ≤ b) := Lib.hid (fun b hb => .inr (.inr hb))
  have hbs : Hid (w.heap.size ≤ w2.heap.size) := Lib.hid HU.out.size
  generalize hz3 : w.heap.size + 1 = b3 at *
  generalize hz2 : w.heap.size = b2 at *
  have HZ := Lib.hid hz2
  clear hz2 hz3 HB
  have hcov := Lib.hid (coversC H2.out (by omega) v)
  by_cases hc : (l.any fun x => aheadT x v) = true
  · rw [hc] at hcov
    have HC := Lib.hid hc
    clear hc
    go_wp2_with (go_at_call 121; refine hcov.out.mono ?_; rintro e w3 ⟨rfl, hu⟩; have HU3 := Lib.hid hu; clear hu)
    go_ret
    exact ⟨false, a, c, rfl, by rw [if_pos HC.out]; exact H2.out.keep HU3.out (by simp) (by simp), fun b hb => .inl hb, (HU.out.trans HU3.out).mono (by simp)⟩
  · have hc' : (l.any fun x => aheadT x v) = false := by simpa using hc
    rw [hc'] at hcov
    have HC := Lib.hid hc
    clear hc hc'
    have hcut := Lib.hid (fun W (hW : Upd [] w2 W) => cutC (H2.out.keep hW (by simp) (by simp)) hl v HN1.out)
    have hmk := hmf
    go_upto_region 4 with (first
      | (go_at_call 121; refine hcov.out.mono ?_; rintro e w3 ⟨rfl, hu⟩; have HU3 := Lib.hid hu; replace v0 := hu.cellS v0 (by simp); replace v1 := hu.cellS v1 (by simp); replace v2 := hu.cellS v2 (by simp); replace e1 := hu.cellS e1 (by simp); clear hu)
      | (go_at_call 142; refine (hcut.out _ HU3.out).mono ?_; rintro e w4 ⟨rfl, hc4, hu⟩; have H4 := Lib.hid hc4; have HU4 := Lib.hid hu; have c2 := hc4.c2; replace v0 := hu.cellS v0 (by simpa using hne.out.2.1); replace v1 := hu.cellS v1 (by simpa using hne.out.2.1); replace v2 := hu.cellS v2 (by simpa using hne.out.2.1); replace e1 := hu.cellS e1 (by simpa using hne.out.1); clear hu hc4))
    have hix := Lib.hid (indexFuncT (c := c) (by omega) (H4.out.own.rd elemTi.len) _ _ (enters_of Try.func144 (by kernel_rfl) rfl) _ (insert1 (b2 := b2) (b3 := b3) H4.out.c1 e1 ⟨v0, v1, v2⟩))
    rw [ixF_miss HN2.out] at hix
    go_upto_region 7 with (go_at_call 143; refine hix.out.mono ?_; rintro e w5 ⟨rfl, hu⟩; have HU5 := Lib.hid hu; have H5 := Lib.hid (H4.out.keep hu (by simp) (by simp)); replace c2 := hu.cellS c2 (by simp); replace v0 := hu.cellS v0 (by simp); replace v1 := hu.cellS v1 (by simp); replace v2 := hu.cellS v2 (by simp); replace e1 := hu.cellS e1 (by simp); clear hu)
    clear hix hcut hcov H4
    have f1 : w5.frozen? ⟨cb, 2, none⟩ = false := by simp [World.frozen?, H5.out.blk]
    have da : ∀ o, (w5.alloc o).cell? ⟨cb, 2, none⟩ = some (.slice a l.length c) := fun o => ((Upd.refl [] w5).alloc o).cellS c2 (by simp)
    have ea : ∀ o, (w5.alloc o).cell? ⟨b2, 0, none⟩ = some (.pointer (some ⟨cb, 0, none⟩)) := fun o => ((Upd.refl [] w5).alloc o).cellS e1 (by simp)
    have va0 : ∀ o, (w5.alloc o).cell? ⟨b3, 0, none⟩ = some (.int .u64 v.a) := fun o => ((Upd.refl [] w5).alloc o).cellS v0 (by simp)
    have va1 : ∀ o, (w5.alloc o).cell? ⟨b3, 1, none⟩ = some (.int .u64 v.b) := fun o => ((Upd.refl [] w5).alloc o).cellS v1 (by simp)
    have va2 : ∀ o, (w5.alloc o).cell? ⟨b3, 2, none⟩ = some (.int .u64 v.c) := fun o => ((Upd.refl [] w5).alloc o).cellS v2 (by simp)
    have HL2 := Lib.hid (fun (W : World) => OwnAt.lit (e := 50) elemTi.len W [v] (by simp [maxLen]) #[.int .u64 v.a, .int .u64 v.b, .int .u64 v.c] rfl)
    go_cut [] (fun wx => ∃ a' c', ChainAt wx cb a' c' (l ++ [v]) ∧ (∀ b ∈ ablk a', b ∈ ablk a ∨ w5.heap.size ≤ b) ∧ Upd (cb :: ablk a) w5 wx)
    case first =>
      go_region_law
        (first
          | (refine step_append_rep (by rfl) _ _ 111 (by rfl) elemTi (xs := l) (ys := [v]) (aa := a) (c := c) (c2 := 1) (a2 := some ⟨w5.heap.size, 0, none⟩) (H5.out.own.keep (((Upd.refl [] w5).alloc _).drew) (by simp)) ((HL2.out w5).rd elemTi.len) (by simp [Act.eval, Act.put]) (by simp [Act.eval, Act.put]) (by simp [maxLen]; omega) (by simp; omega) ?_; intro a' c' w6 ho hu hor hnn; have hk := fun (pp : Addr) v (h : w5.cell? pp = some v) (hne : pp.block ∉ ablk a) => hu.cellS (show ((w5.alloc _).drew).cell? pp = some v from ((Upd.refl [] w5).alloc _).cellS h (by simp)) hne; have d1' := hk _ _ c2 (fun hb => H5.out.far _ hb rfl); have e1' := hk _ _ e1 hne.out.2.2.1; have k0 := hk _ _ v0 hne.out.2.2.2; have k1 := hk _ _ v1 hne.out.2.2.2; have k2 := hk _ _ v2 hne.out.2.2.2; have f1' : w6.frozen? ⟨cb, 2, none⟩ = false := (hu.frozen (by simp; exact Nat.lt_succ_of_lt (lt_of_block H5.out.blk)) (fun hb => H5.out.far _ hb rfl)).trans (((Upd.refl [] w5).alloc _).drew.frozen (lt_of_block H5.out.blk) (by simp) |>.trans f1); have hblk := hu.at (((Upd.refl [] w5).alloc (.cells #[.int .u64 v.a, .int .u64 v.b, .int .u64 v.c] 50)).drew.at H5.out.blk (by simp)) (fun hb => H5.out.far _ hb rfl)))
      all_goals
        have u4 : Upd [cb] w6 (w6.setCell ⟨cb, 2, none⟩ (.slice a' (l.length + 1) c')) := (Upd.refl [cb] w6).setCell _ _ (fun _ => by simp)
        have hblk4 := setCell_block hblk 2 (.slice a' (l.length + 1) c')
        generalize w6.setCell ⟨cb, 2, none⟩ (.slice a' (l.length + 1) c') = w7 at *
        have hlr := lt_of_block H5.out.blk
        have ho4 := ho.keep u4 (fun b hb => by
          simp only [List.mem_singleton]
          rintro rfl
          rcases hor with rfl | rfl
          · exact H5.out.far _ hb rfl
          · simp [ablk] at hb; omega)
        have hend : ∃ a' c', ChainAt w7 cb a' c' (l ++ [v]) ∧ (∀ b ∈ ablk a', b ∈ ablk a ∨ w5.heap.size ≤ b) ∧ Upd (cb :: ablk a) w5 w7 := ⟨a', c', ⟨by simpa using hblk4, ho4⟩, fun b hb => by
          rcases hor with rfl | rfl
          · exact .inl hb
          · simp [ablk] at hb; right; omega, ((((Upd.refl [] w5).alloc _).drew.mono (by simp)).trans (hu.mono (fun b _ h => List.mem_cons_of_mem _ h))).trans (u4.mono (fun b _ h => by simp at h; simp [h]))⟩
        have HE := Lib.hid hend
        clear hend u4 hblk4 hblk ho ho4 hu hor hnn d1' k0 k1 k2 e1' hk f1' da ea va0 va1 va2 c2 f1 HL2 e1 v0 v1 v2
        go_wp2_with fail
        go_meet
        exact HE.out
    case rest =>
      obtain ⟨w7, rfl⟩ : ∃ w7, w7 = wc := ⟨_, rfl⟩
      obtain ⟨a', c', h7, hf7, hu7⟩ := hcut
      have hcap : l.length + 1 ≤ c' := by have := h7.own.cap_le.1; simpa using this
      obtain ⟨g, rfl⟩ : ∃ g, a' = some ⟨g, 0, none⟩ := by
        rcases h7.own.cases with ⟨_, _, h⟩ | ⟨g, h, _⟩
        · simp at h
        · exact ⟨g, h⟩
      have d2 : w7.cell? ⟨cb, 2, none⟩ = some (.slice (some ⟨g, 0, none⟩) (l.length + 1) c') := by have := h7.c2; simpa using this
      have hn2 : b2 ∉ cb :: ablk a := by simp only [List.mem_cons, not_or]; exact ⟨hne.out.1, hne.out.2.2.1⟩
      have hn3 : b3 ∉ cb :: ablk a := by simp only [List.mem_cons, not_or]; exact ⟨hne.out.2.1, hne.out.2.2.2⟩
      have e7 := hu7.cellS e1 hn2
      have v7 := hu7.cellS v0 hn3
      have v8 := hu7.cellS v1 hn3
      have v9 := hu7.cellS v2 hn3
      have hcopy := fun ty d s dc sc W => run_copy_zero elemTi ty d s dc 1 sc W
      have hw1 : wrap64 ((l.length : Int) + 1) = (l.length : Int) + 1 := IntWalk.wrap64_in _ (by omega)
      have hw2 : IntKind.i64.wrap ((l.length : Int) + 1) = (l.length : Int) + 1 := IntWalk.i64_in _ (by omega)
      have hcapI : (l.length : Int) + 1 ≤ c' := by omega
      have hcapJ : (l.length : Int) ≤ c' := by omega
      have H7 := Lib.hid h7
      have HF7 := Lib.hid hf7
      have HU7 := Lib.hid hu7
      clear hu7 h7 hf7 hn2 hn3 e1 v0 v1 v2 c2 da ea va0 va1 va2 HL2 f1
      go_wp2_with fail
      go_cut [] (fun wx => Upd [] w7 wx)
      case first =>
        go_quiet (fail)
        go_wp2_with fail
        all_goals
          go_meet
          exact (Upd.refl [] w7).drewN _
      case rest =>
        obtain ⟨w8, rfl⟩ : ∃ w8, w8 = wc := ⟨_, rfl⟩
        have d8 := hcut.cellS d2 (by simp)
        have e8 := hcut.cellS e7 (by simp)
        have x8 := hcut.cellS v7 (by simp)
        have x9 := hcut.cellS v8 (by simp)
        have x10 := hcut.cellS v9 (by simp)
        have H8 := Lib.hid (H7.out.keep hcut (by simp) (by simp))
        have HU8 := Lib.hid (HU7.out.trans (hcut.mono (by simp)))
        clear hcopy d2 e7 v7 v8 v9 hcut
        go_wp2_with fail
        go_still_tail 6, (by kernel_rfl)
        change wpList _ _ _ _ _ w8.drew
        go_wp2_with (refine wpList_storeK2 (by rfl) _ _ (by rfl) elemTi sizeTi (g := g) (c := c') (i := l.length) (xs := l ++ [v]) (by exact H8.out.own) v (by simp) (by simp [Act.eval, Act.put]) (by simp [Act.eval, Act.put]) ?_; intro w9 ho9 hu9; have HO9 := Lib.hid ho9; have HU9 : Hid (Upd [g] w8 w9) := Lib.hid (show Upd [g] w8 w9 from ⟨hu9.os, hu9.tape, hu9.output, hu9.size, hu9.block⟩); clear ho9 hu9)
        go_ret
        have s2 := HU.out.size
        have s3 := HU3.out.size
        have s4 := HU4.out.size
        have s5 := HU5.out.size
        have hset : (l ++ [v]).set l.length v = l ++ [v] := by simp
        have ho := HO9.out
        rw [hset] at ho
        have h25 : Upd (cb :: ablk a) w w5 := (((HU.out.trans HU3.out).mono (by simp)).trans (HU4.out.mono (fun b _ hb => by simp at hb; simp [hb]))).trans (HU5.out.mono (by simp))
        refine ⟨true, some ⟨g, 0, none⟩, c', rfl, ?_, fun b hb => ?_, (h25.trans HU8.out).then HU9.out (fun b hb hl => ?_)⟩
        · rw [if_neg HC.out]
          exact ⟨HU9.out.at H8.out.blk (fun hx => by simp at hx; exact H8.out.far g (by simp [ablk]) hx.symm), ho⟩
        · rcases HF7.out b hb with h | h
          · exact .inl h
          · right; omega
        · simp at hb
          subst hb
          rcases HF7.out b (by simp [ablk]) with h | h
          · exact List.mem_cons_of_mem _ h
          · omega
end
end Go.Proofs.Ytcdmdpgfadopcaa
