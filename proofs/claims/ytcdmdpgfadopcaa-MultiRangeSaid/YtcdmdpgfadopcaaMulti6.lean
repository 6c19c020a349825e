/-
  multi: turned.
-/
import Derived.Test.YtcdmdpgfadopcaaMulti5
namespace Go.Proofs.Ytcdmdpgfadopcaa
open Go.Slu Go.MapKept Go.RowKit Go.Sort

/-- those of xs that are not in ys, with a count -/
def gone (xs ys : List TimeK) (n : Int) : List (TimeK × Int) := (xs.filter fun x => decide (x ∉ ys)).map fun x => (x, n)
theorem gone_take {xs ys : List TimeK} {n : Int} {i : Nat} {x : TimeK} (hx : xs[i]? = some x) : gone (xs.take (i + 1)) ys n = gone (xs.take i) ys n ++ if x ∈ ys then [] else [(x, n)] := by
  rw [List.take_add_one, hx]
  simp only [gone, Option.toList_some, List.filter_append, List.map_append]
  congr 1
  by_cases h : x ∈ ys <;> simp [h]
theorem gone_len (xs ys : List TimeK) (n : Int) : (gone xs ys n).length ≤ xs.length := by
  simp only [gone, List.length_map]
  exact List.length_filter_le _ _
def outL (was now : List TimeK) : List (TimeK × Int) := gone was now (-1) ++ gone now was 1
theorem outL_nodup {was now : List TimeK} (h1 : was.Nodup) (h2 : now.Nodup) : ((outL was now).map (·.1)).Nodup := by
  have hm : ∀ (xs ys : List TimeK) (n : Int), (gone xs ys n).map (·.1) = xs.filter fun x => decide (x ∉ ys) := fun xs ys n => by simp [gone, Function.comp_def]
  rw [outL, List.map_append, hm, hm]
  refine List.nodup_append.2 ⟨h1.filter _, h2.filter _, fun x hx y hy e => ?_⟩
  subst e
  simp at hx hy
  exact hx.2 hy.1
/-- what turned tells -/
def Turned (was now : List TimeK) (w : World) (e : Ending) (w' : World) : Prop :=
  ∃ a c l, e = .returned (.slice a l.length c) ∧ OwnAt 117 4 eeD w' a c l ∧ l.Perm (outL was now) ∧ l.Pairwise (fun x y => 0 ≤ cmpD y x) ∧ (∀ b ∈ ablk a, w.heap.size ≤ b) ∧ Upd [] w w'

set_option maxHeartbeats 2000000 in
set_option maxRecDepth 20000 in
theorem turned_any {w : World} {a a2 : Option Addr} {c c2 : Nat} {was now : List TimeK} (hr1 : Rd 3 eeT w a was) (hr2 : Rd 3 eeT w a2 now) (hl1 : was.length ≤ 1000000) (hl2 : now.length ≤ 1000000) (hn1 : was.Nodup) (hn2 : now.Nodup) :
    Calls Try.prog 119 #[.slice a was.length c, .slice a2 now.length c2] w (Turned was now w) := by
  have H1 := Lib.hid hr1
  have H2 := Lib.hid hr2
  have hnd := Lib.hid (outL_nodup hn1 hn2)
  clear hr1 hr2 hn1 hn2
  go_enter Try.func119, Try.ntmps119
  go_upto_block 0 with fail
  go_cut [5] (fun v5 wx => ∃ (ao : Option Addr) (co : Nat), v5 = .slice ao (gone was now (-1)).length co ∧ OwnAt 117 4 eeD wx ao co (gone was now (-1)) ∧ (∀ b ∈ ablk ao, w.heap.size ≤ b) ∧ Upd [] w wx)
  case first =>
    go_wp2_with fail
    go_loopg [5, 7, 12] was.length (fun m v5 v7 v12 wz => ∃ (i : Nat) (ao : Option Addr) (co : Nat) (o : List (TimeK × Int)), m + i = was.length ∧ v12 = .int .i64 i ∧ o = gone (was.take i) now (-1) ∧ v5 = .slice ao o.length co ∧ OwnAt 117 4 eeD wz ao co o ∧ (∀ b ∈ ablk ao, w.heap.size ≤ b) ∧ Upd [] w wz)
    case atStart => exact ⟨0, none, 0, [], rfl, rfl, by simp [gone], rfl, OwnAt.nil _ _ _ _, by simp [ablk], Upd.refl _ _⟩
    case round =>
      obtain ⟨i, ao, co, o, hm, rfl, hoe, rfl, ho, hf, hu⟩ := hrel
      have HM := Lib.hid hm
      have HOE := Lib.hid hoe
      have HF := Lib.hid hf
      have hol : o.length ≤ 1000000 := by rw [hoe]; have := gone_len (was.take i) now (-1); simp only [List.length_take] at this; omega
      clear hm hoe hf
      by_cases hi : i < was.length
      · have hii : (i : Int) < was.length := by omega
        obtain ⟨x, hx⟩ : ∃ x, was[i]? = some x := ⟨was[i], List.getElem?_eq_getElem hi⟩
        obtain ⟨b, off, rfl, hc⟩ := H1.out i x hx
        have y0 := hu.cellS (hc 0 _ rfl) (by simp)
        have y1 := hu.cellS (hc 1 _ rfl) (by simp)
        have y2 := hu.cellS (hc 2 _ rfl) (by simp)
        simp only [Nat.add_zero] at y0
        have htk := Lib.hid (gone_take (ys := now) (n := -1) hx)
        clear hc hx
        have z0 := cell_new wr #[.int .u64 x.a, .int .u64 x.b, .int .u64 x.c] 50 0 (v := .int .u64 x.a) rfl
        have z1 := cell_new wr #[.int .u64 x.a, .int .u64 x.b, .int .u64 x.c] 50 1 (v := .int .u64 x.b) rfl
        have z2 := cell_new wr #[.int .u64 x.a, .int .u64 x.b, .int .u64 x.c] 50 2 (v := .int .u64 x.c) rfl
        have hA := hu.alloc (.cells #[.int .u64 x.a, .int .u64 x.b, .int .u64 x.c] 50)
        have HO := Lib.hid (ho.keep ((Upd.refl [] wr).alloc (.cells #[.int .u64 x.a, .int .u64 x.b, .int .u64 x.c] 50)) (by simp))
        go_upto_region 5 with fail
        generalize wr.alloc (.cells #[.int .u64 x.a, .int .u64 x.b, .int .u64 x.c] 50) = wA at *
        generalize wr.heap.size = bx at *
        have HA := Lib.hid hA
        have hct := Lib.hid (containsT (c := c2) (by omega) (H2.out.keep' elemTi hA (by simp)) x)
        clear ho hu hA y0 y1 y2
        by_cases hq : x ∈ now
        · rw [decide_eq_true hq] at hct
          have HQ := Lib.hid hq
          clear hq
          go_wp2_with (go_at_call 145; refine hct.out.mono ?_; rintro e wB ⟨rfl, hu⟩; have HB := Lib.hid (HA.out.trans hu); have HO2 := Lib.hid (HO.out.keep hu (by simp)); clear hu)
          go_roundg (was.length - (i + 1))
          case measure => have := HM.out; omega
          case rel => exact ⟨i + 1, ao, co, o, by have := HM.out; omega, rfl, by rw [htk.out, ← HOE.out, if_pos HQ.out, List.append_nil], rfl, HO2.out, HF.out, HB.out⟩
        · rw [decide_eq_false hq] at hct
          have HQ := Lib.hid hq
          clear hq
          have hlit := Lib.hid (fun W => OwnAt.lit (e := 117) elemD.len W [(x, (-1 : Int))] (by simp [maxLen]) #[.int .u64 x.a, .int .u64 x.b, .int .u64 x.c, .int .i64 (-1)] rfl)
          go_wp2_with (first
            | (go_at_call 145; refine hct.out.mono ?_; rintro e wB ⟨rfl, hu⟩; have HB := Lib.hid (HA.out.trans hu); have HO2 := Lib.hid (HO.out.keep hu (by simp)); replace z0 := hu.cellS z0 (by simp); replace z1 := hu.cellS z1 (by simp); replace z2 := hu.cellS z2 (by simp); clear hu)
            | (at_builtin; refine wpList_append_rep rfl _ _ 112 rfl elemD (xs := o) (ys := [(x, (-1 : Int))]) (aa := ao) (c := co) (a2 := some ⟨wB.heap.size, 0, none⟩) (c2 := 1) (HO2.out.keep ((Upd.refl [] wB).alloc _) (by simp)) ((hlit.out wB).rd elemD.len) (by simp [Act.eval]) (by simp [Act.eval]) (by simp [maxLen]; omega) (by simp; omega) ?_; intro a' c' w3 ho3 hu3 hor _; have HO3 := Lib.hid ho3; have HU3 := Lib.hid hu3; have HOR := Lib.hid hor; clear ho3 hu3 hor))
          go_roundg (was.length - (i + 1))
          case measure => have := HM.out; omega
          case rel =>
            have s1 := HB.out.size
            refine ⟨i + 1, a', c', o ++ [(x, -1)], by have := HM.out; omega, rfl, by rw [htk.out, ← HOE.out, if_neg HQ.out], by simp, HO3.out, fun b hb => ?_, (HB.out.alloc _).then HU3.out (fun b hb hl => absurd (HF.out b hb) (by omega))⟩
            rcases HOR.out with e | e
            · rw [e] at hb; exact HF.out b hb
            · rw [e] at hb; simp [ablk] at hb; omega
      · have hii : ¬ (i : Int) < was.length := by omega
        obtain rfl : i = was.length := by have := HM.out; omega
        obtain rfl : o = gone was now (-1) := by rw [HOE.out, List.take_length]
        go_wp2_with fail
        go_meet
        exact ⟨ao, co, rfl, ho, HF.out, hu⟩
  case rest =>
    obtain ⟨wx, rfl⟩ : ∃ wx, wx = wc := ⟨_, rfl⟩
    obtain ⟨ao, co, rfl, ho, hf, hu⟩ := hcut
    have HOa := Lib.hid ho
    have HFa := Lib.hid hf
    have HUa := Lib.hid hu
    have hgl := gone_len was now (-1)
    clear ho hf hu
    generalize hg : gone was now (-1) = o1 at *
    have HG := Lib.hid hg
    clear hg
    go_upto_block 2 with fail
    go_cut [5] (fun v5 wx => ∃ (ao : Option Addr) (co : Nat), v5 = .slice ao (o1 ++ gone now was 1).length co ∧ OwnAt 117 4 eeD wx ao co (o1 ++ gone now was 1) ∧ (∀ b ∈ ablk ao, w.heap.size ≤ b) ∧ Upd [] w wx)
    case first =>
      go_wp2_with fail
      go_loopg [5, 9, 28] now.length (fun m v5 v9 v28 wz => ∃ (i : Nat) (ao : Option Addr) (co : Nat) (o : List (TimeK × Int)), m + i = now.length ∧ v28 = .int .i64 i ∧ o = o1 ++ gone (now.take i) was 1 ∧ v5 = .slice ao o.length co ∧ OwnAt 117 4 eeD wz ao co o ∧ (∀ b ∈ ablk ao, w.heap.size ≤ b) ∧ Upd [] w wz)
      case atStart => exact ⟨0, ao, co, o1, rfl, rfl, by simp [gone], rfl, HOa.out, HFa.out, HUa.out⟩
      case round =>
        obtain ⟨i, ao, co, o, hm, rfl, hoe, rfl, ho, hf, hu⟩ := hrel
        clear HOa HFa HUa
        have HM := Lib.hid hm
        have HOE := Lib.hid hoe
        have HF := Lib.hid hf
        have hol : o.length ≤ 2000000 := by rw [hoe]; have := gone_len (now.take i) was 1; simp only [List.length_append, List.length_take] at this ⊢; omega
        clear hm hoe hf
        by_cases hi : i < now.length
        · have hii : (i : Int) < now.length := by omega
          obtain ⟨x, hx⟩ : ∃ x, now[i]? = some x := ⟨now[i], List.getElem?_eq_getElem hi⟩
          obtain ⟨b, off, rfl, hc⟩ := H2.out i x hx
          have y0 := hu.cellS (hc 0 _ rfl) (by simp)
          have y1 := hu.cellS (hc 1 _ rfl) (by simp)
          have y2 := hu.cellS (hc 2 _ rfl) (by simp)
          simp only [Nat.add_zero] at y0
          have htk := Lib.hid (gone_take (ys := was) (n := 1) hx)
          clear hc hx
          have z0 := cell_new wr #[.int .u64 x.a, .int .u64 x.b, .int .u64 x.c] 50 0 (v := .int .u64 x.a) rfl
          have z1 := cell_new wr #[.int .u64 x.a, .int .u64 x.b, .int .u64 x.c] 50 1 (v := .int .u64 x.b) rfl
          have z2 := cell_new wr #[.int .u64 x.a, .int .u64 x.b, .int .u64 x.c] 50 2 (v := .int .u64 x.c) rfl
          have hA := hu.alloc (.cells #[.int .u64 x.a, .int .u64 x.b, .int .u64 x.c] 50)
          have HO := Lib.hid (ho.keep ((Upd.refl [] wr).alloc (.cells #[.int .u64 x.a, .int .u64 x.b, .int .u64 x.c] 50)) (by simp))
          go_upto_region 11 with fail
          generalize wr.alloc (.cells #[.int .u64 x.a, .int .u64 x.b, .int .u64 x.c] 50) = wA at *
          generalize wr.heap.size = bx at *
          have HA := Lib.hid hA
          have hct := Lib.hid (containsT (c := c) (by omega) (H1.out.keep' elemTi hA (by simp)) x)
          clear ho hu hA y0 y1 y2
          by_cases hq : x ∈ was
          · rw [decide_eq_true hq] at hct
            have HQ := Lib.hid hq
            clear hq
            go_wp2_with (go_at_call 145; refine hct.out.mono ?_; rintro e wB ⟨rfl, hu⟩; have HB := Lib.hid (HA.out.trans hu); have HO2 := Lib.hid (HO.out.keep hu (by simp)); clear hu)
            go_roundg (now.length - (i + 1))
            case measure => have := HM.out; omega
            case rel => exact ⟨i + 1, ao, co, o, by have := HM.out; omega, rfl, by rw [htk.out, if_pos HQ.out, List.append_nil, HOE.out], rfl, HO2.out, HF.out, HB.out⟩
          · rw [decide_eq_false hq] at hct
            have HQ := Lib.hid hq
            clear hq
            have hlit := Lib.hid (fun W => OwnAt.lit (e := 117) elemD.len W [(x, (1 : Int))] (by simp [maxLen]) #[.int .u64 x.a, .int .u64 x.b, .int .u64 x.c, .int .i64 1] rfl)
            go_wp2_with (first
              | (go_at_call 145; refine hct.out.mono ?_; rintro e wB ⟨rfl, hu⟩; have HB := Lib.hid (HA.out.trans hu); have HO2 := Lib.hid (HO.out.keep hu (by simp)); replace z0 := hu.cellS z0 (by simp); replace z1 := hu.cellS z1 (by simp); replace z2 := hu.cellS z2 (by simp); clear hu)
              | (at_builtin; refine wpList_append_rep rfl _ _ 112 rfl elemD (xs := o) (ys := [(x, (1 : Int))]) (aa := ao) (c := co) (a2 := some ⟨wB.heap.size, 0, none⟩) (c2 := 1) (HO2.out.keep ((Upd.refl [] wB).alloc _) (by simp)) ((hlit.out wB).rd elemD.len) (by simp [Act.eval]) (by simp [Act.eval]) (by simp [maxLen]; omega) (by simp; omega) ?_; intro a' c' w3 ho3 hu3 hor _; have HO3 := Lib.hid ho3; have HU3 := Lib.hid hu3; have HOR := Lib.hid hor; clear ho3 hu3 hor))
            go_roundg (now.length - (i + 1))
            case measure => have := HM.out; omega
            case rel =>
              have s1 := HB.out.size
              refine ⟨i + 1, a', c', o ++ [(x, 1)], by have := HM.out; omega, rfl, by rw [htk.out, if_neg HQ.out, HOE.out, List.append_assoc], by simp, HO3.out, fun b hb => ?_, (HB.out.alloc _).then HU3.out (fun b hb hl => absurd (HF.out b hb) (by omega))⟩
              rcases HOR.out with e | e
              · rw [e] at hb; exact HF.out b hb
              · rw [e] at hb; simp [ablk] at hb; omega
        · have hii : ¬ (i : Int) < now.length := by omega
          obtain rfl : i = now.length := by have := HM.out; omega
          obtain rfl : o = o1 ++ gone now was 1 := by rw [HOE.out, List.take_length]
          go_wp2_with fail
          go_meet
          exact ⟨ao, co, by simp, ho, HF.out, hu⟩
    case rest =>
      obtain ⟨wy, rfl⟩ : ∃ wy, wy = wc := ⟨_, rfl⟩
      obtain ⟨ao, co, rfl, ho, hf, hu⟩ := hcut
      have hgl2 := gone_len now was 1
      have hlen : (o1 ++ gone now was 1).length ≤ 3000000 := by rw [List.length_append]; omega
      have hn2 : ((o1 ++ gone now was 1).map (·.1)).Nodup := by have := hnd.out; rw [outL, HG.out] at this; exact this
      have he2 : outL was now = o1 ++ gone now was 1 := by rw [outL, HG.out]
      generalize o1 ++ gone now was 1 = o2 at *
      have hsd := Lib.hid (sortD ho (by omega) hn2)
      have HE2 := Lib.hid he2
      have HF := Lib.hid hf
      have HU := Lib.hid hu
      clear ho hf hu HOa HFa HUa hn2 he2
      go_wp2_with (go_at_call 146; refine hsd.out.mono ?_; rintro e w5 ⟨rfl, l, ho, hp, hs, hu⟩; have HO5 := Lib.hid ho; have HP5 := Lib.hid (And.intro hp hs); have HU5 := Lib.hid hu; clear ho hp hs hu)
      go_ret
      exact ⟨ao, co, l, by rw [HP5.out.1.length_eq]; rfl, HO5.out, by rw [HE2.out]; exact HP5.out.1, HP5.out.2, HF.out, HU.out.then HU5.out (fun b hb hl => absurd (HF.out b hb) (by omega))⟩
end Go.Proofs.Ytcdmdpgfadopcaa
