/-
  sluicelaw04: paired.
-/
import Derived.Test.YtcdmdpgfadopcaaLawAny1
namespace Go.Proofs.Ytcdmdpgfadopcaa
open Go.Slu Go.MapKept Go.RowKit Go.Sort

/-- a tally of pairs and the document's tell the same -/
structure SameP (M : List (PairK × Int)) (L : List (RKey × Int)) : Prop where
  img : ∀ k ∈ L.map (·.1), ∃ x, k = rkP x
  eq : ∀ x, cnt M x = cnt L (rkP x)
theorem tally_keysK {κ : Type} [DecidableEq κ] {ek : κ → Value} {kt T : TypeId} {w : World} {tb mb g : Nat} {M : List (κ × Int)} (K : KeyOps Try.prog kt ek) (h : TallyAt T ek w tb mb g M) (x : κ) : x ∈ M.map (·.1) ↔ cnt M x ≠ 0 := by
  have hnd := MapRep.nodup K h.map
  constructor
  · intro hx
    obtain ⟨p, hp, rfl⟩ := List.mem_map.1 hx
    have : cnt M p.1 = p.2 := by unfold cnt; rw [lk_of_mem hnd (v := p.2) hp]; rfl
    rw [this]; exact (h.nz p hp).1
  · intro hx
    by_cases h1 : x ∈ M.map (·.1)
    · exact h1
    · exact absurd (by unfold cnt; rw [lk_none.2 h1]; rfl) hx
theorem tally_okcK {κ : Type} [DecidableEq κ] {ek : κ → Value} {kt T : TypeId} {w : World} {tb mb g : Nat} {M : List (κ × Int)} (K : KeyOps Try.prog kt ek) (h : TallyAt T ek w tb mb g M) (x : κ) : okC (cnt M x) = true := by
  by_cases hx : x ∈ M.map (·.1)
  · obtain ⟨p, hp, rfl⟩ := List.mem_map.1 hx
    have : cnt M p.1 = p.2 := by unfold cnt; rw [lk_of_mem (MapRep.nodup K h.map) (v := p.2) hp]; rfl
    rw [this]; exact (h.nz p hp).2
  · unfold cnt; rw [lk_none.2 hx]; rfl
theorem keys_sameP {w : World} {tb mb g : Nat} {M : List (PairK × Int)} {L : List (RKey × Int)} (h : TallyPk ekP2 w tb mb g M) (hL : LOk L) (hs : SameP M L) {l : List PairK} {l' : List RKey} (hp : l.Perm (M.map (·.1))) (ho : l.Pairwise (fun x y => 0 ≤ cfP y x))
    (hp' : l'.Perm ((L.filter fun p => decide (p.2 ≠ 0)).map (·.1))) (ho' : l'.Pairwise (fun x y => cfK 0 x y < 0)) : l' = l.map rkP := by
  have hnd : l.Nodup := hp.nodup_iff.2 (MapRep.nodup kvP.ops h.map)
  have h1 : l.Pairwise (fun x y => cfK 0 (rkP x) (rkP y) < 0) := by
    refine (hnd.and ho).imp fun {a b} hab => ?_
    rcases Int.lt_or_le (cfK 0 (rkP a) (rkP b)) 0 with h5 | h5
    · exact h5
    · have h6 : 0 ≤ cfK 0 (rkP b) (rkP a) := hab.2
      exact absurd (rkP_inj (cfK_tot 0 (rkP a) (rkP b) (by omega) (by omega))) hab.1
  refine (sorted_ext (R := fun x y => cfK 0 x y < 0) (fun x => cfK_irr 0 x) (fun x y z a b => cfK_trans 0 a b) ho' (List.pairwise_map.2 h1) (fun y => ?_))
  rw [cnt_keys hL hp' y, List.mem_map]
  constructor
  · intro hy
    have hin : y ∈ L.map (·.1) := by
      by_cases h2 : y ∈ L.map (·.1)
      · exact h2
      · exact absurd (cnt_no h2) hy
    obtain ⟨x, rfl⟩ := hs.img y hin
    exact ⟨x, hp.mem_iff.2 ((tally_keysK kvP.ops h x).2 (by rw [hs.eq]; exact hy)), rfl⟩
  · rintro ⟨x, hx, rfl⟩
    have := (tally_keysK kvP.ops h x).1 (hp.mem_iff.1 hx)
    rwa [hs.eq] at this

set_option maxHeartbeats 1000000 in
set_option maxRecDepth 20000 in
theorem paired_any (F : List Nat) (w : World) (tb mb rb : Nat) (M : List (PairK × Int)) (L : List (RKey × Int)) (h : TallyPk ekP2 w tb mb 20 M) (hr : RefF F w rb 0 L) (hL : LOk L) (hs : SameP M L) (hm : M.length ≤ 1000000) (hl : L.length < 1000000) :
    Calls Try.prog 28 #[.pointer (some ⟨tb, 0, none⟩), .pointer (some ⟨rb, 0, none⟩)] w fun e w' => e = .returned (.bool true) ∧ Upd [] w w' := by
  have H := Lib.hid h
  have HR := Lib.hid hr
  have HL := Lib.hid hL
  have HS := Lib.hid hs
  clear h hr hL hs
  have hkr := Lib.hid (keysR F w rb 0 L HR.out HL.out hl)
  go_enter Try.func28, Try.ntmps28
  have hget := Lib.hid (fun (W : World) (hW : Upd [] w W) (x : PairK) => getPk kvP tb mb 20 M x W (H.out.keep hW (by simp) (by simp)))
  have hgetr := Lib.hid (fun (W : World) (hW : Upd [] w W) (x : PairK) => (HS.out.eq x) ▸ getF F W rb 0 L (HR.out.keep hW (by simp)) HL.out hl (rkP x))
  go_wp2_with (first
    | (go_at_call 82; refine hkr.out.mono ?_; rintro e w1 ⟨ar, cr, l', rfl, h1, h2, h3, h4, h5⟩; have H1 := Lib.hid (And.intro h1 (And.intro h2 h3)); have HU1 := Lib.hid h5; clear h1 h2 h3 h4 h5)
    | (go_at_call 88; refine (keysPk kvP elemP2 (fun _ => rfl) tb mb _ M cfP ordP _ (H.out.keep HU1.out (by simp) (by simp)) (by omega)).mono ?_; rintro e w6 ⟨al, cl, l, rfl, h1, h2, h3, h4, h5⟩; have hlen2 : l.length = M.length := (by simpa using h2.length_eq); obtain rfl : l' = l.map rkP := (keys_sameP H.out HL.out HS.out h2 h3 H1.out.2.1 H1.out.2.2); have H6 := Lib.hid h1; have H7 := Lib.hid (H1.out.1.keep h5 (by simp)); have HU6 := Lib.hid (HU1.out.trans h5); clear h1 h2 h3 h4 h5 H1)
    | (go_at_call 89; refine (lenPk tb mb _ M _ (H.out.keep HU6.out (by simp) (by simp))).mono ?_; rintro e w2 ⟨rfl, rfl⟩; rw [← hlen2]; try rw [List.length_map]))
  have HLen2 := Lib.hid hlen2
  clear hlen2
  go_loopg [7, 26] M.length (fun m v7 v26 wr => ∃ i : Nat, m + i = M.length ∧ v26 = .int .i64 i ∧ Upd [] w6 wr)
  case atStart => exact ⟨0, rfl, by simp, Upd.refl _ _⟩
  case round =>
    obtain ⟨i, hmi, rfl, hu⟩ := hrel
    have HM := Lib.hid hmi
    clear hmi
    by_cases hi : i < M.length
    · have hii : (i : Int) < l.length := by have := HLen2.out; omega
      have hii' : (i : Int) < (l.map rkP).length := by simpa using hii
      obtain ⟨x, hx⟩ : ∃ x, l[i]? = some x := ⟨l[i]'(by rw [HLen2.out]; exact hi), List.getElem?_eq_getElem _⟩
      obtain ⟨g1, o1, rfl, hc⟩ := (H6.out.keep hu (by simp)).rd elemP2.len i x hx
      have y0 := hc 0 _ rfl
      have y1 := hc 1 _ rfl
      have y2 := hc 2 _ rfl
      clear hc
      obtain ⟨g2, o2, rfl, hc⟩ := (H7.out.keep hu (by simp)).rd elemR.len i (rkP x) (by simp [hx])
      have z0 := hc 0 _ rfl
      have z1 := hc 1 _ rfl
      clear hc
      simp only [Nat.add_zero] at y0 z0
      clear hx
      have g1' := Lib.hid (fun W hW => hget.out W hW x)
      have g2' := Lib.hid (fun W hW => hgetr.out W hW x)
      have g3' := Lib.hid (fun W => key_any x W)
      generalize hv : cnt M x = v at g1' g2'
      clear hv
      have hu6 := Lib.hid (HU6.out.trans hu)
      go_upto_region 8 with fail
      go_region_held3 (fun w' => w'.cell? ⟨g1, o1 + i * 3, none⟩ = some (.int .i64 x.a) ∧ w'.cell? ⟨g1, o1 + i * 3 + 1, none⟩ = some (.int .u8 (x.b0.toNat : Int)) ∧ w'.cell? ⟨g1, o1 + i * 3 + 2, none⟩ = some (.int .u8 (x.b1.toNat : Int)) ∧ w'.cell? ⟨g2, o2 + i * 2, none⟩ = some (.string (rkP x).s.s) ∧ w'.cell? ⟨g2, o2 + i * 2 + 1, none⟩ = some (.int .i64 (rkP x).n)) (go_keep)
        (first
          | (go_at_call 25; refine (g3'.out _).mono ?_; rintro e w7 ⟨rfl, hg7⟩; have a0 := hg7.upd.cellS (show wr.drew.cell? _ = _ from y0) (by simp); have a1 := hg7.upd.cellS (show wr.drew.cell? _ = _ from y1) (by simp); have a2 := hg7.upd.cellS (show wr.drew.cell? _ = _ from y2) (by simp); have a3 := hg7.upd.cellS (show wr.drew.cell? _ = _ from z0) (by simp); have a4 := hg7.upd.cellS (show wr.drew.cell? _ = _ from z1) (by simp); have HU7 := Lib.hid (hu6.out.drew.trans hg7.upd); have HV7 := Lib.hid (hu.drew.trans hg7.upd); clear hg7)
          | (go_at_call 26; refine (g1'.out _ HU7.out).mono ?_; rintro e w8 ⟨rfl, hu8⟩; have b0 := hu8.cellS a0 (by simp); have b1 := hu8.cellS a1 (by simp); have b2 := hu8.cellS a2 (by simp); have b3 := hu8.cellS a3 (by simp); have b4 := hu8.cellS a4 (by simp); have HU8 := Lib.hid (HU7.out.trans hu8); have HV8 := Lib.hid (HV7.out.trans hu8); clear hu8)
          | (go_at_call 27; refine (g2'.out _ HU8.out).mono ?_; rintro e w9 ⟨rfl, hg9⟩; have c0 := hg9.upd.cellS b0 (by simp); have c1 := hg9.upd.cellS b1 (by simp); have c2 := hg9.upd.cellS b2 (by simp); have c3 := hg9.upd.cellS b3 (by simp); have c4 := hg9.upd.cellS b4 (by simp); have HV9 := Lib.hid (HV8.out.trans hg9.upd); clear hg9))
      go_wp2_with fail
      have hm := HM.out
      go_roundg (M.length - (i + 1))
      case measure => omega
      case rel => exact ⟨i + 1, by omega, rfl, HV9.out⟩
    · have hii : ¬ (i : Int) < l.length := by have := HLen2.out; omega
      go_wp2_with fail
      go_ret
      exact ⟨rfl, HU6.out.trans hu⟩
end Go.Proofs.Ytcdmdpgfadopcaa
