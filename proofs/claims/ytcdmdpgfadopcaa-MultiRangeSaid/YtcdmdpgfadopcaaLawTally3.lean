/-
  sluicelaw04: alike.
-/
import Derived.Test.YtcdmdpgfadopcaaLawTally2
namespace Go.Slu
/-- lists in one strict order with the same members are the same -/
theorem sorted_ext {α : Type} {R : α → α → Prop} (irr : ∀ x, ¬ R x x) (tr : ∀ x y z, R x y → R y z → R x z) : ∀ {l m : List α}, l.Pairwise R → m.Pairwise R → (∀ x, x ∈ l ↔ x ∈ m) → l = m
  | [], [], _, _, _ => rfl
  | [], y :: m, _, _, h => by have := (h y).2 (by simp); cases this
  | x :: l, [], _, _, h => by have := (h x).1 (by simp); cases this
  | x :: l, y :: m, h1, h2, h => by
    obtain ⟨a1, a2⟩ := List.pairwise_cons.1 h1
    obtain ⟨b1, b2⟩ := List.pairwise_cons.1 h2
    have hxy : x = y := by
      rcases List.mem_cons.1 ((h x).1 (by simp)) with e | hx
      · exact e
      · rcases List.mem_cons.1 ((h y).2 (by simp)) with e | hy
        · exact e.symm
        · exact absurd (tr _ _ _ (a1 y hy) (b1 x hx)) (irr x)
    subst hxy
    rw [sorted_ext irr tr a2 b2 (fun z => ?_)]
    have hz := h z
    simp only [List.mem_cons] at hz
    constructor
    · intro hzl
      rcases hz.1 (.inr hzl) with e | h3
      · subst e; exact absurd (a1 z hzl) (irr z)
      · exact h3
    · intro hzm
      rcases hz.2 (.inr hzm) with e | h3
      · subst e; exact absurd (b1 z hzm) (irr z)
      · exact h3
end Go.Slu
namespace Go.Proofs.Ytcdmdpgfadopcaa
open Go.Slu Go.MapKept Go.RowKit Go.Sort

/-- a text as a key -/
abbrev rk (x : Str) : RKey := ⟨x, 0⟩
theorem cfO_cfK (k : Int) (x y : Str) : cfO k x y = cfK k (rk x) (rk y) := rfl
/-- a tally's map and the document's lists tell the same -/
structure Same (M : List (Str × Int)) (L : List (RKey × Int)) : Prop where
  txt : ∀ k ∈ L.map (·.1), k.n = 0
  eq : ∀ x, cnt M x = cnt L (rk x)

theorem tally_keys {T : TypeId} {w : World} {tb mb g : Nat} {M : List (Str × Int)} (h : TallyAt T ekS w tb mb g M) (x : Str) : x ∈ M.map (·.1) ↔ cnt M x ≠ 0 := by
  have hnd := MapRep.nodup keysS h.map
  constructor
  · intro hx
    obtain ⟨p, hp, rfl⟩ := List.mem_map.1 hx
    have : cnt M p.1 = p.2 := by unfold cnt; rw [lk_of_mem hnd (v := p.2) hp]; rfl
    rw [this]; exact (h.nz p hp).1
  · intro hx
    by_cases h1 : x ∈ M.map (·.1)
    · exact h1
    · exact absurd (by unfold cnt; rw [lk_none.2 h1]; rfl) hx

theorem keys_mem {T : TypeId} {w : World} {tb mb g : Nat} {M : List (Str × Int)} {L : List (RKey × Int)} (h : TallyAt T ekS w tb mb g M) (hL : LOk L) (hs : Same M L) {l' : List RKey}
    (hp' : l'.Perm ((L.filter fun p => decide (p.2 ≠ 0)).map (·.1))) (y : RKey) : y ∈ l' ↔ y ∈ (M.map (·.1)).map rk := by
  rw [cnt_keys hL hp' y, List.mem_map]
  constructor
  · intro hy
    have hin : y ∈ L.map (·.1) := by
      by_cases h2 : y ∈ L.map (·.1)
      · exact h2
      · exact absurd (cnt_no h2) hy
    have hy0 := hs.txt y hin
    have hyr : y = rk y.s := by cases y; simp only at hy0; subst hy0; rfl
    refine ⟨y.s, ?_, hyr.symm⟩
    rw [tally_keys h, hs.eq, ← hyr]
    exact hy
  · rintro ⟨x, hx, rfl⟩
    rw [tally_keys h, hs.eq] at hx
    exact hx
/-- the keys of both, one list -/
theorem keys_same {T : TypeId} {w : World} {tb mb g : Nat} {k : Int} (hk : kOk k) {M : List (Str × Int)} {L : List (RKey × Int)} (h : TallyAt T ekS w tb mb g M) (hL : LOk L) (hs : Same M L) {l : List Str} {l' : List RKey} (hp : l.Perm (M.map (·.1))) (ho : l.Pairwise (fun x y => 0 ≤ cfO k y x))
    (hp' : l'.Perm ((L.filter fun p => decide (p.2 ≠ 0)).map (·.1))) (ho' : l'.Pairwise (fun x y => cfK k x y < 0)) : l' = l.map rk := by
  have hnd : l.Nodup := hp.nodup_iff.2 (MapRep.nodup keysS h.map)
  have h1 : l.Pairwise (fun x y => cfK k (rk x) (rk y) < 0) := by
    refine (hnd.and ho).imp fun {a b} hab => ?_
    rcases Int.lt_or_le (cfK k (rk a) (rk b)) 0 with h5 | h5
    · exact h5
    · have h6 := hab.2
      rw [cfO_cfK] at h6
      have := cfK_tot k (rk a) (rk b) (by omega) (by omega)
      exact absurd (congrArg RKey.s this) hab.1
  refine (sorted_ext (R := fun x y => cfK k x y < 0) (fun x => cfK_irr k x) (fun x y z a b => cfK_trans k a b) ho' (List.pairwise_map.2 h1) (fun y => ?_))
  rw [keys_mem h hL hs hp' y, List.mem_map, List.mem_map]
  constructor
  · rintro ⟨x, hx, rfl⟩; exact ⟨x, hp.mem_iff.2 hx, rfl⟩
  · rintro ⟨x, hx, rfl⟩; exact ⟨x, hp.mem_iff.1 hx, rfl⟩
theorem keys_len {T : TypeId} {w : World} {tb mb g : Nat} {k : Int} {M : List (Str × Int)} {L : List (RKey × Int)} (h : TallyAt T ekS w tb mb g M) (hL : LOk L) (hs : Same M L) {l' : List RKey} 
    (hp' : l'.Perm ((L.filter fun p => decide (p.2 ≠ 0)).map (·.1))) (ho' : l'.Pairwise (fun x y => cfK k x y < 0)) : l'.length = M.length := by
  have n1 : l'.Nodup := ho'.imp (fun {a b} (h : cfK k a b < 0) (e : a = b) => cfK_irr k a (by rw [← e] at h; exact h))
  have n2 : ((M.map (·.1)).map rk).Nodup := List.pairwise_map.2 ((MapRep.nodup keysS h.map).imp fun {a b} h e => h (congrArg RKey.s e))
  have := ((List.perm_ext_iff_of_nodup n1 n2).2 (fun y => keys_mem h hL hs hp' y)).length_eq
  simpa using this

set_option maxHeartbeats 1000000 in
set_option maxRecDepth 20000 in
theorem alike_any (k : Int) (hk : kOk k) (F : List Nat) (w : World) (tb mb rb : Nat) (M : List (Str × Int)) (L : List (RKey × Int)) (h : TallyS w tb mb (gOf k) M) (hr : RefF F w rb k L) (hL : LOk L) (hs : Same M L) (hm : M.length ≤ 1000000) (hl : L.length < 1000000) (key : Str) :
    Calls Try.prog 18 #[.pointer (some ⟨tb, 0, none⟩), .pointer (some ⟨rb, 0, none⟩), .string key.s] w fun e w' => e = .returned (.bool true) ∧ Upd [] w w' := by
  have H := Lib.hid h
  have HR := Lib.hid hr
  have HL := Lib.hid hL
  have HS := Lib.hid hs
  have HK := Lib.hid hk
  clear h hr hL hs hk
  have hkr := Lib.hid (keysR F w rb k L HR.out HL.out hl)
  go_enter Try.func18, Try.ntmps18
  have hget := Lib.hid (fun (W : World) (hW : Upd [] w W) (x : Str) => getS tb mb (gOf k) M x W (H.out.keep hW (by simp) (by simp)))
  have hgetr := Lib.hid (fun (W : World) (hW : Upd [] w W) (x : Str) => (HS.out.eq x) ▸ getF F W rb k L (HR.out.keep hW (by simp)) HL.out hl (rk x))
  go_wp2_with (first
    | (go_at_call 82; refine hkr.out.mono ?_; rintro e w1 ⟨ar, cr, l', rfl, h1, h2, h3, h4, h5⟩; have H1 := Lib.hid (And.intro h1 (And.intro h2 (And.intro h3 h5))); have hlen : l'.length = M.length := keys_len H.out HL.out HS.out h2 h3; have HLen := Lib.hid hlen; have HU1 := Lib.hid h5; clear h1 h2 h3 h4 h5 hlen)
    | (go_at_call 40; refine (lenS tb mb _ M _ (H.out.keep HU1.out (by simp) (by simp))).mono ?_; rintro e w2 ⟨rfl, rfl⟩; have hlen := HLen.out; rw [← hlen])
    | (go_at_call 42; refine (hget.out _ HU1.out key).mono ?_; rintro e w3 ⟨rfl, rfl⟩)
    | (go_at_call 78; refine (text_any key.s _).mono ?_; rintro e w4 ⟨rfl, hg4⟩; have HU4 := Lib.hid (HU1.out.trans hg4.upd); have HUy := Lib.hid hg4.upd; clear hg4)
    | (go_at_call 27; refine (hgetr.out _ HU4.out key).mono ?_; rintro e w5 ⟨rfl, hg5⟩; have HU5 := Lib.hid (HU4.out.trans hg5.upd); have HUx := Lib.hid (HUy.out.trans hg5.upd); clear hg5 hlen)
    | (go_at_call 34; refine (keysS_any tb mb _ M (cfO k) (ordOk_of k HK.out) _ (H.out.keep HU5.out (by simp) (by simp)) (by omega)).mono ?_; rintro e w6 ⟨al, cl, l, rfl, h1, h2, h3, h4, h5⟩; have hlen2 : l.length = M.length := (by simpa using h2.length_eq); have H6 := Lib.hid (And.intro h1 (And.intro h2 (And.intro h3 h5))); have HU6 := Lib.hid (HU5.out.trans h5); clear h1 h2 h3 h4 h5))
  have HLen2 := Lib.hid hlen2
  have hll := Lib.hid (keys_same HK.out H.out HL.out HS.out H6.out.2.1 H6.out.2.2.1 H1.out.2.1 H1.out.2.2.1)
  have hu16 : Hid (Upd [] w1 w6) := (HUx.out).trans H6.out.2.2.2
  clear hlen2
  go_loopg [9, 40] M.length (fun m v9 v40 wr => ∃ i : Nat, m + i = M.length ∧ v40 = .int .i64 i ∧ Upd [] w6 wr)
  case atStart => exact ⟨0, rfl, rfl, Upd.refl _ _⟩
  case round =>
    obtain ⟨i, hmi, rfl, hu⟩ := hrel
    have HM := Lib.hid hmi
    clear hmi
    by_cases hi : i < M.length
    · have hii : (i : Int) < M.length := by omega
      obtain ⟨x, hx⟩ : ∃ x, l[i]? = some x := ⟨l[i]'(by rw [HLen2.out]; exact hi), List.getElem?_eq_getElem _⟩
      obtain ⟨g1, o1, rfl, hc⟩ := (H6.out.1.keep hu (by simp)).rd elemS.len i x hx
      have y0 := hc 0 _ rfl
      clear hc
      obtain ⟨g2, o2, rfl, hc⟩ := (H1.out.1.keep (hu16.out.trans hu) (by simp)).rd elemR.len i (rk x) (by rw [hll.out]; simp [hx])
      have z0 := hc 0 _ rfl
      have z1 := hc 1 _ rfl
      clear hc
      simp only [Nat.add_zero, Nat.mul_one] at y0 z0
      clear hx
      have g1' := Lib.hid (fun W hW => hget.out W hW x)
      have g2' := Lib.hid (fun W hW => hgetr.out W hW x)
      obtain ⟨xs, xok⟩ := x
      generalize hv : cnt M ⟨xs, xok⟩ = v at g1' g2'
      clear hv
      have hu6 := Lib.hid (HU6.out.trans hu)
      simp only at y0 z0
      go_wp2_with fail
      go_region_held3 (fun w' => w'.cell? ⟨g1, o1 + i, none⟩ = some (.string xs) ∧ w'.cell? ⟨g2, o2 + i * 2, none⟩ = some (.string xs) ∧ w'.cell? ⟨g2, o2 + i * 2 + 1, none⟩ = some (.int .i64 0)) (go_keep)
        (first
          | (go_at_call 42; refine (g1'.out _ hu6.out.drew).mono ?_; rintro e w7 ⟨rfl, rfl⟩)
          | (go_at_call 27; refine (g2'.out _ hu6.out.drew).mono ?_; rintro e w8 ⟨rfl, hg8⟩; have a0 := hg8.upd.cellS (show wr.drew.cell? _ = _ from y0) (by simp); have a1 := hg8.upd.cellS (show wr.drew.cell? _ = _ from z0) (by simp); have a2 := hg8.upd.cellS (show wr.drew.cell? _ = _ from z1) (by simp); have HG8 := Lib.hid hg8; clear hg8))
      go_wp2_with fail
      have hm := HM.out
      go_roundg (M.length - (i + 1))
      case measure => omega
      case rel => exact ⟨i + 1, by omega, rfl, hu.drew.trans HG8.out.upd⟩
    · have hii : ¬ (i : Int) < M.length := by omega
      go_wp2_with fail
      go_ret
      exact ⟨rfl, HU6.out.trans hu⟩
end Go.Proofs.Ytcdmdpgfadopcaa
