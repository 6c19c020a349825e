/-
  The document's tally (sluiceref04): Get, Add, Clear, Copy.
-/
import Derived.Test.YtcdmdpgfadopcaaRefTally2
import Derived.Test.YtcdmdpgfadopcaaBaseMem
import Derived.Deep.RegionLaw
namespace Go.Proofs.Ytcdmdpgfadopcaa
open Go.Slu Go.MapKept Go.RowKit Go.Sort

variable {w w' : World} {rb : Nat} {kind : Int} {L : List (RKey × Int)} {a a2 : Option Addr} {c c2 : Nat}
theorem ix_some {k : RKey} {r : Int} {i : Nat} {n : Int} (hnd : (L.map (·.1)).Nodup) (hi : L[i]? = some (k, n)) (h : ixOf L k r) : r = i := by
  rcases h with ⟨i', n', rfl, hi', hmin⟩ | ⟨_, hno⟩
  · rcases Nat.lt_trichotomy i i' with h | h | h
    · exact absurd rfl (hmin i (k, n) h hi)
    · rw [h]
    · exfalso
      obtain ⟨l1, g1⟩ := List.getElem?_eq_some_iff.1 hi'
      obtain ⟨l2, g2⟩ := List.getElem?_eq_some_iff.1 hi
      have := List.pairwise_iff_getElem.1 hnd i' i (by simpa using l1) (by simpa using l2) h
      simp [g1, g2] at this
  · exact absurd (List.mem_map.2 ⟨(k, n), List.mem_of_getElem? hi, rfl⟩) hno
theorem ix_none {k : RKey} {r : Int} (hno : k ∉ L.map (·.1)) (h : ixOf L k r) : r = -1 := by
  rcases h with ⟨i', n', rfl, hi', hmin⟩ | ⟨h, _⟩
  · exact absurd (List.mem_map.2 ⟨(k, n'), List.mem_of_getElem? hi', rfl⟩) hno
  · exact h
theorem ix_at {k : RKey} (h : k ∈ L.map (·.1)) : ∃ (i : Nat) (n : Int), L[i]? = some (k, n) := by
  obtain ⟨p, hp, rfl⟩ := List.mem_map.1 h
  obtain ⟨i, hi, he⟩ := List.getElem_of_mem hp
  exact ⟨i, p.2, by rw [List.getElem?_eq_getElem hi, he]⟩
theorem set_same {α : Type} {l : List α} {i : Nat} {x : α} (h : l[i]? = some x) : l.set i x = l := by
  obtain ⟨hi, rfl⟩ := List.getElem?_eq_some_iff.1 h
  exact List.set_getElem_self hi
theorem lk_ix {L : List (RKey × Int)} (hnd : (L.map (·.1)).Nodup) {i : Nat} {k : RKey} {n : Int} (hi : L[i]? = some (k, n)) : cnt L k = n := by
  unfold cnt
  rw [lk_of_mem hnd (List.mem_of_getElem? hi)]; rfl
theorem cnt_no {L : List (RKey × Int)} {k : RKey} (h : k ∉ L.map (·.1)) : cnt L k = 0 := by
  unfold cnt
  rw [lk_none.2 h]; rfl
theorem put_new {L : List (RKey × Int)} {k : RKey} (h : k ∉ L.map (·.1)) (n : Int) : put L k n = L ++ [(k, n)] := by
  induction L with
  | nil => rfl
  | cons p r ih =>
    simp only [List.map_cons, List.mem_cons, not_or] at h
    simp only [put, if_neg (Ne.symm h.1), ih h.2, List.cons_append]
theorem put_set {L : List (RKey × Int)} (hnd : (L.map (·.1)).Nodup) {i : Nat} {k : RKey} {n : Int} (hi : L[i]? = some (k, n)) (m : Int) : put L k m = L.set i (k, m) := by
  induction L generalizing i with
  | nil => simp at hi
  | cons p r ih =>
    cases i with
    | zero => simp at hi; subst hi; simp [put]
    | succ i =>
      simp at hi
      simp only [List.map_cons, List.nodup_cons] at hnd
      have : p.1 ≠ k := fun e => hnd.1 (e ▸ List.mem_map.2 ⟨(k, n), List.mem_of_getElem? hi, rfl⟩)
      simp only [put, if_neg this, ih hnd.2 hi, List.set_cons_succ]
theorem put_keys {L : List (RKey × Int)} (hnd : (L.map (·.1)).Nodup) (k : RKey) (m : Int) : ((put L k m).map (·.1)).Nodup := by
  rw [put_keys_perm]
  split
  · exact hnd
  · rename_i h
    exact List.nodup_append.2 ⟨hnd, by simp, fun a ha b hb e => by simp at hb; subst hb; subst e; exact h ha⟩

theorem getR (w : World) (rb : Nat) (kind : Int) (L : List (RKey × Int)) (a : Option Addr) (c : Nat) (a2 : Option Addr) (c2 : Nat) (h : RefAt w rb kind L a c a2 c2) (hnd : (L.map (·.1)).Nodup) (k : RKey) (hL : L.length ≤ 1000000) :
    Calls Try.prog 27 #[.pointer (some ⟨rb, 0, none⟩), ekR k] w fun e w' => e = .returned (.int .i64 (cnt L k)) ∧ Grew w w' := by
  have hat := fun W (hW : RefAt W rb kind L a c a2 c2) => at_any W rb kind L a c a2 c2 hW k hL
  have cc := fun W (hW : RefAt W rb kind L a c a2 c2) => hW.k2
  have hg0 := fun o => (Grew.refl w).alloc (o := o)
  have H := Lib.hid h
  have HA := Lib.hid hat
  have HC := Lib.hid cc
  clear h hat cc
  by_cases hk : k ∈ L.map (·.1)
  · obtain ⟨i, n, hi⟩ := ix_at hk
    have HI := Lib.hid hi
    have HN := Lib.hid hnd
    have e1 := lk_ix hnd hi
    rw [e1]
    have hil := (List.getElem?_eq_some_iff.1 hi).1
    have hii : (i : Int) < L.length := by omega
    have hin : ¬ (i : Int) < 0 := by omega
    clear hk hnd hi e1
    obtain ⟨ks, kn⟩ := k
    go_enter Try.func27, Try.ntmps27
    go_wp2_with (go_at_call 87; refine (HA.out _ (H.out.grew (hg0 _))).mono ?_; rintro e w1 ⟨r, rfl, hix, hg⟩; have hw := Lib.hid ((hg0 _).trans hg); have hr := H.out.grew hw.out; obtain ⟨b, hb, d1⟩ := hr.count HI.out; have d2 := hr.k2; rw [hb] at d2; have hr := ix_some HN.out HI.out hix; subst hr; clear hix hr hb)
    go_ret
    exact ⟨rfl, hw.out⟩
  · rw [cnt_no hk]
    have HK := Lib.hid hk
    clear hk
    obtain ⟨ks, kn⟩ := k
    go_enter Try.func27, Try.ntmps27
    go_wp2_with (go_at_call 87; refine (HA.out _ (H.out.grew (hg0 _))).mono ?_; rintro e w1 ⟨r, rfl, hix, hg⟩; have hw := Lib.hid ((hg0 _).trans hg); have hr := ix_none HK.out hix; subst hr; clear hix)
    go_ret
    exact ⟨rfl, hw.out⟩
/-- A TALLY OF THE DOCUMENT's at block rb, all of its memory in F. -/
def RefF (F : List Nat) (w : World) (rb : Nat) (kind : Int) (L : List (RKey × Int)) : Prop :=
  ∃ a c a2 c2, RefAt w rb kind L a c a2 c2 ∧ ∀ b, (b = rb ∨ b ∈ ablk a ∨ b ∈ ablk a2) ↔ b ∈ F
/-- .. after a step -/
def StepR (F : List Nat) (w w' : World) (rb : Nat) (kind : Int) (L : List (RKey × Int)) : Prop :=
  ∃ F', RefF F' w' rb kind L ∧ (∀ b ∈ F', b ∈ F ∨ w.heap.size ≤ b) ∧ Upd F w w'
theorem RefAt.far (h : RefAt w rb kind L a c a2 c2) : (∀ b ∈ ablk a, b ≠ rb) ∧ (∀ b ∈ ablk a2, b ≠ rb) ∧ (∀ b ∈ ablk a, ∀ b' ∈ ablk a2, b ≠ b') := by
  have e0 := h.blk
  have e1 : ∀ b ∈ ablk a, ∃ cur, w.heap[b]? = some (.cells cur 60 (0, 0)) := by
    rcases h.names.cases with ⟨rfl, _, _⟩ | ⟨g, rfl, _⟩
    · simp [ablk]
    · obtain ⟨cur, hb, _⟩ := h.names.block
      intro b hb2; simp [ablk] at hb2; subst hb2; exact ⟨cur, hb⟩
  have e2 : ∀ b ∈ ablk a2, ∃ cur, w.heap[b]? = some (.cells cur 2 (0, 0)) := by
    rcases h.counts.cases with ⟨rfl, _, _⟩ | ⟨g, rfl, _⟩
    · simp [ablk]
    · obtain ⟨cur, hb, _⟩ := h.counts.block
      intro b hb2; simp [ablk] at hb2; subst hb2; exact ⟨cur, hb⟩
  refine ⟨fun b hb e => ?_, fun b hb e => ?_, fun b hb b' hb' e => ?_⟩
  · obtain ⟨cur, h1⟩ := e1 b hb; subst e; rw [e0] at h1; cases h1
  · obtain ⟨cur, h1⟩ := e2 b hb; subst e; rw [e0] at h1; cases h1
  · obtain ⟨cur, h1⟩ := e1 b hb; obtain ⟨cur2, h2⟩ := e2 b' hb'; subst e; rw [h1] at h2; cases h2

theorem RefAt.fz (h : RefAt w rb kind L a c a2 c2) (i : Nat) : w.frozen? ⟨rb, i, none⟩ = false := by simp [World.frozen?, h.blk]
theorem size1 (t : TypeId) (h : (Try.prog.info? t).map (·.size) = some 1) (W : World) : (Go.sizeOf t).run Try.prog W = .ok 1 W := by
  unfold Go.sizeOf
  cases hi : Try.prog.info? t with
  | none => rw [hi] at h; cases h
  | some i =>
    rw [hi] at h
    simp at h
    simp [typeInfo, go_sem, Result.andThen, hi, h]
theorem sizeNames (W : World) : (Go.sizeOf 28).run Try.prog W = .ok 1 W := size1 _ (by kernel_rfl) W
theorem sizeCounts (W : World) : (Go.sizeOf 29).run Try.prog W = .ok 1 W := size1 _ (by kernel_rfl) W
theorem sizeCount (W : World) : (Go.sizeOf 2).run Try.prog W = .ok 1 W := size1 _ (by kernel_rfl) W

theorem addR_refused (w : World) (rb : Nat) (kind : Int) (L : List (RKey × Int)) (a : Option Addr) (c : Nat) (a2 : Option Addr) (c2 : Nat) (h : RefAt w rb kind L a c a2 c2) (hnd : (L.map (·.1)).Nodup) (k : RKey) (n : Int) (hL : L.length ≤ 1000000) (hc : okC (cnt L k) = true)
    (hno : (okC n && okC (cnt L k + n)) = false) :
    Calls Try.prog 24 #[.pointer (some ⟨rb, 0, none⟩), ekR k, .int .i64 n] w fun e w' => e = .returned (.int .i64 12) ∧ Grew w w' := by
  have hget := fun W (hW : RefAt W rb kind L a c a2 c2) => getR W rb kind L a c a2 c2 hW hnd k hL
  have hg0 := fun o => (Grew.refl w).alloc (o := o)
  have H := Lib.hid h
  have HG := Lib.hid hget
  clear h hget hnd
  have hcb : -2147483647 ≤ cnt L k ∧ cnt L k ≤ 2147483647 := by simpa [okC] using hc
  generalize cnt L k = x at *
  by_cases h1 : okC n = true
  · have hnb : -2147483647 ≤ n ∧ n ≤ 2147483647 := by simpa [okC] using h1
    have h2 : okC (x + n) = false := by simpa [h1] using hno
    obtain ⟨ks, kn⟩ := k
    clear hno hc
    go_enter Try.func24, Try.ntmps24
    go_wp2_with (first
      | (go_at_call 86; refine (beyond_any _ _).mono ?_; rintro e w1 ⟨rfl, rfl⟩)
      | (go_at_call 27; refine (HG.out _ (H.out.grew (hg0 _))).mono ?_; rintro e w1 ⟨rfl, hg⟩; have hw := Lib.hid ((hg0 _).trans hg)))
    go_ret
    exact ⟨rfl, hw.out⟩
  · have h1' : okC n = false := by simpa using h1
    obtain ⟨ks, kn⟩ := k
    clear hno hc
    go_enter Try.func24, Try.ntmps24
    go_wp2_with (first
      | (go_at_call 86; refine (beyond_any _ _).mono ?_; rintro e w1 ⟨rfl, rfl⟩))
    go_ret
    exact ⟨rfl, hg0 _⟩

theorem add_done {F : List Nat} {w2 w4 w5 w6 : World} {a' a2' : Option Addr} {c' c2' : Nat} {k : RKey} {n : Int} (hF : ∀ b, (b = rb ∨ b ∈ ablk a ∨ b ∈ ablk a2) → b ∈ F) (hR : RefAt w rb kind L a c a2 c2) (h02 : Upd [] w w2) (hu2 : Upd (rb :: ablk a) w2 w4)
    (ho4 : OwnAt 60 2 eeR w4 a' c' (L.map (·.1) ++ [k])) (hor : a' = a ∨ ∃ g, a' = some ⟨g, 0, none⟩ ∧ w2.heap.size ≤ g) (hu5 : Upd (ablk a2) w4 w5) (ho5 : OwnAt 2 1 eeC w5 a2' c2' (L.map (·.2) ++ [n]))
    (hor5 : a2' = a2 ∨ ∃ g, a2' = some ⟨g, 0, none⟩ ∧ w4.heap.size ≤ g) (hb6 : w6.heap[rb]? = some (.cells #[.int .i64 kind, .slice a' (L.length + 1) c', .slice a2' (L.length + 1) c2'] 31 (0, 0))) (hu6 : Upd [rb] w5 w6) : StepR F w w6 rb kind (L ++ [(k, n)]) := by
  have hfar := hR.far
  have hrb := lt_of_block hR.blk
  have hla2 := hR.counts.lt
  have s02 := h02.size
  have s24 := hu2.size
  have n4 : ∀ b ∈ ablk a', b ∉ ablk a2 ∧ b ≠ rb := fun b hb => by
    rcases hor with rfl | ⟨g, rfl, hg⟩
    · exact ⟨fun h => hfar.2.2 b hb b h rfl, hfar.1 b hb⟩
    · simp [ablk] at hb; subst hb
      exact ⟨fun h => by have := hla2 _ h; omega, by omega⟩
  have n5 : ∀ b ∈ ablk a2', b ≠ rb := fun b hb => by
    rcases hor5 with rfl | ⟨g, rfl, hg⟩
    · exact hfar.2.1 b hb
    · simp [ablk] at hb; subst hb; omega
  refine ⟨rb :: (ablk a' ++ ablk a2'), ⟨a', c', a2', c2', ⟨by simpa using hb6, ?_, ?_⟩, fun b => by simp⟩, fun b hb => ?_, ?_⟩
  · simpa using (ho4.keep hu5 (fun b hb => (n4 b hb).1)).keep hu6 (fun b hb => by simpa using (n4 b hb).2)
  · simpa using ho5.keep hu6 (fun b hb => by simpa using n5 b hb)
  · simp only [List.mem_cons, List.mem_append] at hb
    rcases hb with rfl | hb | hb
    · exact .inl (hF _ (.inl rfl))
    · rcases hor with rfl | ⟨g, rfl, hg⟩
      · exact .inl (hF _ (.inr (.inl hb)))
      · simp [ablk] at hb; subst hb; exact .inr (by omega)
    · rcases hor5 with rfl | ⟨g, rfl, hg⟩
      · exact .inl (hF _ (.inr (.inr hb)))
      · simp [ablk] at hb; subst hb; exact .inr (by omega)
  · refine (((Upd.refl F w).then h02 (by simp)).then hu2 (fun i hi _ => ?_)).then hu5 (fun i hi _ => hF _ (.inr (.inr hi))) |>.then hu6 (fun i hi _ => by simp at hi; subst hi; exact hF _ (.inl rfl))
    rcases List.mem_cons.1 hi with rfl | hi
    · exact hF _ (.inl rfl)
    · exact hF _ (.inr (.inl hi))

set_option maxHeartbeats 1000000 in
theorem addR_new (F : List Nat) (w : World) (rb : Nat) (kind : Int) (L : List (RKey × Int)) (a : Option Addr) (c : Nat) (a2 : Option Addr) (c2 : Nat) (h : RefAt w rb kind L a c a2 c2) (hF : ∀ b, (b = rb ∨ b ∈ ablk a ∨ b ∈ ablk a2) → b ∈ F) (k : RKey) (n : Int) (hL : L.length < 1000000)
    (hno : k ∉ L.map (·.1)) (hnd : (L.map (·.1)).Nodup) (hok : okC n = true) :
    Calls Try.prog 24 #[.pointer (some ⟨rb, 0, none⟩), ekR k, .int .i64 n] w fun e w' => e = .returned (.int .i64 0) ∧ StepR F w w' rb kind (L ++ [(k, n)]) := by
  have hget := fun W (hW : RefAt W rb kind L a c a2 c2) => getR W rb kind L a c a2 c2 hW hnd k (by omega)
  have hat := fun W (hW : RefAt W rb kind L a c a2 c2) => at_any W rb kind L a c a2 c2 hW k (by omega)
  rw [cnt_no hno] at hget
  have H := Lib.hid h
  have HG := Lib.hid hget
  have HA := Lib.hid hat
  have HN := Lib.hid hno
  have HF := Lib.hid hF
  have HL := Lib.hid hL
  clear h hget hnd hat hno hF hL
  have hok2 : okC (0 + n) = true := by simpa using hok
  have hnb : -2147483647 ≤ n ∧ n ≤ 2147483647 := by simpa [okC] using hok
  obtain ⟨ks, kn⟩ := k
  have h0 := fun (W : World) (hg : Grew (w.alloc (.cells #[.string ks.s, .int .i64 kn] 60)) W) => And.intro (hg.upd.cellS (p := ⟨w.heap.size, 0, none⟩) (v := .string ks.s) (cell_new _ _ _ _ (by simp)) (by simp)) (hg.upd.cellS (p := ⟨w.heap.size, 1, none⟩) (v := .int .i64 kn) (cell_new _ _ _ _ (by simp)) (by simp))
  have H0 := Lib.hid h0
  clear h0
  have hg0 := fun o => (Grew.refl w).alloc (o := o)
  go_enter Try.func24, Try.ntmps24
  go_wp2_with (first
    | (go_at_call 86; refine (beyond_any _ _).mono ?_; rintro e w1 ⟨rfl, rfl⟩)
    | (go_at_call 27; refine (HG.out _ (H.out.grew (hg0 _))).mono ?_; rintro e w1 ⟨rfl, hg⟩; have hw := Lib.hid hg; obtain ⟨b0, b1⟩ := H0.out _ hg; clear hg)
    | (go_at_call 87; refine (HA.out _ (H.out.grew ((hg0 _).trans hw.out))).mono ?_; rintro e w2 ⟨r, rfl, hix, hg⟩; have hr := ix_none HN.out hix; subst hr; clear hix; have hw2 := Lib.hid (hw.out.trans hg); clear hg; obtain ⟨b0, b1⟩ := H0.out _ hw2.out))
  have hr := H.out.grew ((hg0 _).trans hw2.out)
  have d1 := hr.k1
  have HR := Lib.hid hr
  clear hr
  have hlit := fun (W : World) => OwnAt.lit (e := 60) elemR.len W [(⟨ks, kn⟩ : RKey)] (by simp [maxLen]) #[.string ks.s, .int .i64 kn] rfl
  have HL2 := Lib.hid hlit
  clear hlit
  have f1 := HR.out.fz 1
  have da : ∀ o, (w2.alloc o).cell? ⟨rb, 1, none⟩ = some (.slice a L.length c) := fun o => ((Upd.refl [] w2).alloc o).cellS d1 (by simp)
  have ba0 : ∀ o, (w2.alloc o).cell? ⟨w.heap.size, 0, none⟩ = some (.string ks.s) := fun o => ((Upd.refl [] w2).alloc o).cellS b0 (by simp)
  have ba1 : ∀ o, (w2.alloc o).cell? ⟨w.heap.size, 1, none⟩ = some (.int .i64 kn) := fun o => ((Upd.refl [] w2).alloc o).cellS b1 (by simp)
  go_region_law
    (first
      | (refine step_append_rep (by rfl) _ _ 28 (by rfl) elemR (xs := L.map (fun p => p.1)) (ys := [(⟨ks, kn⟩ : RKey)]) (aa := a) (c := c) (c2 := 1) (a2 := some ⟨w2.heap.size, 0, none⟩) (HR.out.names.keep (((Upd.refl [] w2).alloc _).drew) (by simp)) ((HL2.out w2).rd elemR.len) (by simp [Act.eval, Act.put]) (by simp [Act.eval, Act.put]) (by have := HL.out; simp [maxLen]; omega) (by have := HL.out; simp; omega) ?_; intro a' c' w3 ho hu hor hnn; have hbn : w.heap.size ∉ ablk a := (fun hb => by have := H.out.names.lt _ hb; omega); have d1' := hu.cellS (show ((w2.alloc _).drew).cell? ⟨rb, 1, none⟩ = _ from ((Upd.refl [] w2).alloc _).cellS d1 (by simp)) (fun hb => HR.out.far.1 _ hb rfl); have d2' := hu.cellS (show ((w2.alloc _).drew).cell? ⟨w.heap.size, 0, none⟩ = _ from ((Upd.refl [] w2).alloc _).cellS b0 (by simp)) hbn; have d3' := hu.cellS (show ((w2.alloc _).drew).cell? ⟨w.heap.size, 1, none⟩ = _ from ((Upd.refl [] w2).alloc _).cellS b1 (by simp)) hbn; have f1' : w3.frozen? ⟨rb, 1, none⟩ = false := (hu.frozen (by simp; exact Nat.lt_succ_of_lt (lt_of_block HR.out.blk)) (fun hb => HR.out.far.1 _ hb rfl)).trans (((Upd.refl [] w2).alloc _).drew.frozen (lt_of_block HR.out.blk) (by simp) |>.trans f1); have hblk := hu.at (((Upd.refl [] w2).alloc (.cells #[.string ks.s, .int .i64 kn] 60)).drew.at HR.out.blk (by simp)) (fun hb => HR.out.far.1 _ hb rfl)))
  all_goals
    have u4 : Upd [rb] w3 (w3.setCell ⟨rb, 1, none⟩ (.slice a' (L.length + 1) c')) := (Upd.refl [rb] w3).setCell _ _ (fun _ => by simp)
    have hblk4 := setCell_block hblk 1 (.slice a' (L.length + 1) c')
    generalize w3.setCell ⟨rb, 1, none⟩ (.slice a' (L.length + 1) c') = w4 at *
    have hu2 := Lib.hid (show Upd (rb :: ablk a) w2 w4 from (((Upd.refl (rb :: ablk a) w2).alloc _).drew.then hu (fun i h _ => List.mem_cons_of_mem _ h)).then u4 (fun i h _ => by simp at h; simp [h]))
    simp at hblk4
    have ho4 := ho.keep u4 (fun b hb => by
      simp only [List.mem_singleton]
      rintro rfl
      rcases hor with rfl | rfl
      · exact HR.out.far.1 _ hb rfl
      · simp [ablk] at hb; have := lt_of_block HR.out.blk; omega)
    have hc4 := HR.out.counts.keep hu2.out (fun b hb => by
      simp only [List.mem_cons, not_or]
      exact ⟨HR.out.far.2.1 _ hb, fun hb2 => HR.out.far.2.2 _ hb2 _ hb rfl⟩)
    have d2 : w4.cell? ⟨rb, 2, none⟩ = some (.slice a2 L.length c2) := by simp [World.cell?, hblk4]
    have hlit2 : OwnAt 2 1 eeC (w4.alloc (.cells #[.int .i64 n] 2)) (some ⟨w4.heap.size, 0, none⟩) 1 [n] := OwnAt.lit elemC.len w4 [n] (by simp [maxLen]) _ rfl
    have hb4 := Lib.hid hblk4
    have HC4 := Lib.hid hc4
    have HO4 := Lib.hid ho4
    have HOR := Lib.hid hor
    clear hblk4 hc4 hor hnn hu ho u4 d1' d2' d3' f1' hblk da ba0 ba1 d1 f1 b0 b1 hbn ho4
    go_wp2_with (first
      | (at_builtin; refine wpList_append_rep rfl _ _ 29 rfl elemC (xs := L.map (fun p => p.2)) (ys := [n]) (aa := a2) (c := c2) (c2 := 1) (a2 := some ⟨w4.heap.size, 0, none⟩) (HC4.out.keep ((Upd.refl [] w4).alloc _) (by simp)) (hlit2.rd elemC.len) (by simp [Act.eval, Act.put]) (by simp [Act.eval, Act.put]) (by have := HL.out; simp [maxLen]; omega) (by have := HL.out; simp; omega) ?_; intro a2' c2' w5 ho5 hu5 hor5 hnn5; have hblk5 := hu5.at (((Upd.refl [] w4).alloc _).at hb4.out (by simp)) (fun hb => HR.out.far.2.1 _ hb rfl))
      | (refine wpList_store1 (by rfl) _ _ (by rfl) sizeCounts hblk5 (i := 2) (by simp) (by simp [Act.eval, Act.put]) (by simp [Act.eval, Act.put]; rfl) (by rfl) ?_; intro w6 hblk6 hu6))
    go_ret
    refine ⟨rfl, add_done HF.out H.out (((Upd.refl [] w).alloc _).trans hw2.out.upd) hu2.out HO4.out (HOR.out.imp id fun h => ⟨_, h, by simp⟩) (((Upd.refl (ablk a2) w4).alloc _).trans hu5) ho5 (hor5.imp id fun h => ⟨_, h, by simp⟩) (by simpa using hblk6) hu6⟩
set_option maxHeartbeats 1000000 in
set_option maxRecDepth 20000 in
theorem addR_old (F : List Nat) (w : World) (rb : Nat) (kind : Int) (L : List (RKey × Int)) (a : Option Addr) (c : Nat) (a2 : Option Addr) (c2 : Nat) (h : RefAt w rb kind L a c a2 c2) (hF : ∀ b, (b = rb ∨ b ∈ ablk a ∨ b ∈ ablk a2) ↔ b ∈ F) (k : RKey) (n m : Int) (i : Nat) (hL : L.length < 1000000)
    (hi : L[i]? = some (k, m)) (hnd : (L.map (·.1)).Nodup) (hm : okC m = true) (hok : okC n = true) (hok2 : okC (m + n) = true) :
    Calls Try.prog 24 #[.pointer (some ⟨rb, 0, none⟩), ekR k, .int .i64 n] w fun e w' => e = .returned (.int .i64 0) ∧ StepR F w w' rb kind (L.set i (k, m + n)) := by
  have hget := fun W (hW : RefAt W rb kind L a c a2 c2) => getR W rb kind L a c a2 c2 hW hnd k (by omega)
  have hat := fun W (hW : RefAt W rb kind L a c a2 c2) => at_any W rb kind L a c a2 c2 hW k (by omega)
  rw [lk_ix hnd hi] at hget
  have H := Lib.hid h
  have HG := Lib.hid hget
  have HA := Lib.hid hat
  have HN := Lib.hid hnd
  have HI := Lib.hid hi
  have HF := Lib.hid hF
  have hil := (List.getElem?_eq_some_iff.1 hi).1
  clear h hget hnd hat hF hi
  have hnb : -2147483647 ≤ n ∧ n ≤ 2147483647 := by simpa [okC] using hok
  have hmb : -2147483647 ≤ m ∧ m ≤ 2147483647 := by simpa [okC] using hm
  obtain ⟨ks, kn⟩ := k
  have hg0 := fun o => (Grew.refl w).alloc (o := o)
  have hii : (i : Int) < L.length := by omega
  have hin : ¬ (i : Int) < 0 := by omega
  have hsum : IntKind.i64.wrap (m + n) = m + n := IntWalk.i64_in _ (by omega)
  go_enter Try.func24, Try.ntmps24
  go_wp2_with (first
    | (go_at_call 86; refine (beyond_any _ _).mono ?_; rintro e w1 ⟨rfl, rfl⟩)
    | (go_at_call 27; refine (HG.out _ (H.out.grew (hg0 _))).mono ?_; rintro e w1 ⟨rfl, hg⟩; have hw := Lib.hid ((hg0 _).trans hg); have b0 := hg.upd.cellS (p := ⟨w.heap.size, 0, none⟩) (v := .string ks.s) (cell_new _ _ _ _ (by simp)) (by simp); have b1 := hg.upd.cellS (p := ⟨w.heap.size, 1, none⟩) (v := .int .i64 kn) (cell_new _ _ _ _ (by simp)) (by simp); clear hg)
    | (go_at_call 87; refine (HA.out _ (H.out.grew hw.out)).mono ?_; rintro e w2 ⟨r, rfl, hix, hg⟩; have hr := ix_some HN.out HI.out hix; subst hr; clear hix; have hw2 := Lib.hid (hw.out.trans hg); clear hg))
  have hr := H.out.grew hw2.out
  obtain ⟨b, hb, d1⟩ := hr.count HI.out
  subst hb
  have d2 := hr.k2
  obtain ⟨cur, hcb, -, -, hcs, -⟩ := hr.counts.block
  have hic : i < cur.size := by have := hr.counts.cap_le.1; simp at this; omega
  have HR := Lib.hid hr
  have HCB := Lib.hid hcb
  clear hr hcb hcs
  go_still_tail 14, (by kernel_rfl)
  have HCB' := Lib.hid (show w2.drew.heap[b]? = _ from HCB.out)
  change wpList _ _ _ _ _ w2.drew
  go_wp2_with (refine wpList_store1 (by rfl) _ _ (by rfl) sizeCount HCB'.out (i := i) hic (by simp [Act.eval, Act.put]) (by simp [Act.eval, Act.put]; rfl) (by rfl) ?_; intro w6 hblk6 hu6)
  go_ret
  have hfar := HR.out.far
  refine ⟨rfl, F, ⟨a, c, some ⟨b, 0, none⟩, c2, ⟨?_, ?_, ?_⟩, HF.out⟩, fun b hb => .inl hb, ?_⟩
  · rw [List.length_set]
    exact hu6.at (show w2.drew.heap[rb]? = _ from HR.out.blk) (by simp; exact fun e => hfar.2.1 b (by simp [ablk]) e.symm)
  · have e1 : (L.set i (⟨ks, kn⟩, m + n)).map (·.1) = L.map (·.1) := by
      rw [List.map_set]
      exact set_same (by simp [HI.out])
    rw [e1]
    exact HR.out.names.keep ((Upd.refl [b] w2).drew.trans hu6) (fun b' hb' => by simp; exact hfar.2.2 b' hb' b (by simp [ablk]))
  · rw [List.map_set]
    exact HR.out.counts.setAt elemC.len (v := .int .i64 (m + n)) rfl (by simpa using hil) HCB.out hblk6
  · exact (((Upd.refl F w).then hw2.out.upd (by simp)).drew).then hu6 (fun j hj _ => by simp at hj; subst hj; exact (HF.out _).1 (.inr (.inr (by simp [ablk]))))
end Go.Proofs.Ytcdmdpgfadopcaa
