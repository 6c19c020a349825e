/-
  The document's tally (sluiceref04): Join.
-/
import Derived.Test.YtcdmdpgfadopcaaRefTally5
namespace Go.Proofs.Ytcdmdpgfadopcaa
open Go.Slu Go.MapKept Go.RowKit Go.Sort

variable {w w' : World} {rb : Nat} {kind : Int} {L : List (RKey × Int)}

theorem StepR.refl {F : List Nat} (h : RefF F w rb kind L) : StepR F w w rb kind L := ⟨F, h, fun _ hb => .inl hb, Upd.refl _ _⟩
theorem StepR.trans {F F1 : List Nat} {w1 w2 : World} {L2 : List (RKey × Int)} (h1 : ∀ b ∈ F1, b ∈ F ∨ w.heap.size ≤ b) (hu : Upd F w w1) (h2 : StepR F1 w1 w2 rb kind L2) : StepR F w w2 rb kind L2 := by
  obtain ⟨F2, hr, hin, hu2⟩ := h2
  refine ⟨F2, hr, fun b hb => ?_, hu.then hu2 (fun i hi hlt => (h1 i hi).resolve_right (by omega))⟩
  rcases hin b hb with h | h
  · exact h1 b h
  · exact .inr (by have := hu.size; omega)

theorem joinR_none (rb : Nat) (w : World) :
    Calls Try.prog 79 #[.pointer (some ⟨rb, 0, none⟩), .pointer none] w fun e w' => e = .returned (.int .i64 1) ∧ w = w' := by
  go_enter Try.func79, Try.ntmps79
  go_wp2
  go_ret
  exact ⟨rfl, rfl⟩

/-- what Join leaves -/
def JoinedR (F : List Nat) (rb : Nat) (kind : Int) (L L2 : List (RKey × Int)) (w : World) (e : Ending) (w' : World) : Prop :=
  if (∀ p ∈ L2, okC (cnt L p.1 + p.2) = true) then e = .returned (.int .i64 0) ∧ ∃ L', StepR F w w' rb kind L' ∧ LOk L' ∧ (∀ k, cnt L' k = cnt L k + cnt L2 k) ∧ (∀ k ∈ L'.map (·.1), k ∈ L.map (·.1) ∨ k ∈ L2.map (·.1))
  else e = .returned (.int .i64 12) ∧ Upd [] w w'

theorem cnt_keys {L : List (RKey × Int)} (h : LOk L) {l : List RKey} (hp : l.Perm ((L.filter fun p => decide (p.2 ≠ 0)).map (·.1))) (k : RKey) : k ∈ l ↔ cnt L k ≠ 0 := by
  rw [hp.mem_iff, List.mem_map]
  constructor
  · rintro ⟨p, hp, rfl⟩
    simp at hp
    have : cnt L p.1 = p.2 := by unfold cnt; rw [lk_of_mem h.nd (v := p.2) hp.1]; rfl
    rw [this]; exact hp.2
  · intro hk
    have hin : k ∈ L.map (·.1) := by
      by_cases h1 : k ∈ L.map (·.1)
      · exact h1
      · exact absurd (cnt_no h1) hk
    obtain ⟨i, n, hi⟩ := ix_at hin
    rw [lk_ix h.nd hi] at hk
    exact ⟨(k, n), by simp [List.mem_of_getElem? hi, hk], rfl⟩
theorem put_length_le (L : List (RKey × Int)) (k : RKey) (n : Int) : (put L k n).length ≤ L.length + 1 := by
  induction L with
  | nil => simp [put]
  | cons p r ih => simp only [put]; split <;> simp; omega
theorem cnt_put (L : List (RKey × Int)) (k : RKey) (n : Int) (x : RKey) : cnt (put L k n) x = if x = k then n else cnt L x := by
  unfold cnt
  rw [lk_put]; split <;> simp

set_option maxHeartbeats 1000000 in
set_option maxRecDepth 20000 in
theorem joinR (F F2 : List Nat) (w : World) (rb rb2 : Nat) (kind kind2 : Int) (L L2 : List (RKey × Int)) (h : RefF F w rb kind L) (h2 : RefF F2 w rb2 kind2 L2) (hL : LOk L) (hL2 : LOk L2) (hl : L.length + L2.length < 1000000) :
    Calls Try.prog 79 #[.pointer (some ⟨rb, 0, none⟩), .pointer (some ⟨rb2, 0, none⟩)] w (JoinedR F rb kind L L2 w) := by
  have hcopy := copyR F2 w rb2 kind2 L2 h2 (by omega)
  have HC := Lib.hid hcopy
  have HK := Lib.hid (fun W (rb' : Nat) (F' : List Nat) (hW : RefF F' W rb' kind2 L2) => keysR F' W rb' kind2 L2 hW hL2 (by omega))
  have H := Lib.hid h
  have HL := Lib.hid hL
  have HL2 := Lib.hid hL2
  clear hcopy h h2 hL hL2
  go_enter Try.func79, Try.ntmps79
  go_wp2_with (first
    | (go_at_call 80; refine HC.out.mono ?_; rintro e w1 ⟨rbc, Fc, rfl, hc1, hc2, hc3⟩; have HC1 := Lib.hid (And.intro hc1 (And.intro hc2 hc3)); clear hc1 hc2 hc3)
    | (go_at_call 82; refine (HK.out _ rbc Fc HC1.out.1).mono ?_; rintro e w2 ⟨al, cl, l, rfl, hk1, hk2, hk3, hk4, hk5⟩; have HK1 := Lib.hid (And.intro hk1 (And.intro hk2 (And.intro hk3 (And.intro hk4 hk5)))); clear hk1 hk2 hk3 hk4 hk5))
  have hu02 := Lib.hid (HC1.out.2.2.trans HK1.out.2.2.2.2)
  have HT := Lib.hid (H.out.keep hu02.out (by simp))
  have HFr := Lib.hid (HC1.out.1.keep HK1.out.2.2.2.2 (by simp))
  have hll : l.length ≤ L2.length := by
    rw [HK1.out.2.1.length_eq, List.length_map]
    exact List.length_filter_le _ _
  have hrd := fun (W : World) (hW : Grew w2 W) (i : Nat) (k : RKey) (hi : l[i]? = some k) => (HK1.out.1.keep hW.upd (by simp)).rd elemR.len i k hi
  have HRD := Lib.hid hrd
  clear hrd
  have hget := fun (W : World) (hW : Grew w2 W) (k : RKey) => getF F W rb kind L (HT.out.grew hW) HL.out (by omega) k
  have hget2 := fun (W : World) (hW : Grew w2 W) (k : RKey) => getF Fc W rbc kind2 L2 (HFr.out.grew hW) HL2.out (by omega) k
  have HG := Lib.hid hget
  have HG2 := Lib.hid hget2
  clear hget hget2
  go_loopg [7] l.length (fun m v wr => ∃ i : Nat, m + i = l.length ∧ v = .int .i64 i ∧ (∀ (t : Nat) (k : RKey), t < i → l[t]? = some k → okC (cnt L k + cnt L2 k) = true) ∧ Grew w2 wr)
  case atStart => exact ⟨0, rfl, rfl, fun t k ht => absurd ht (by omega), Grew.refl _⟩
  case round =>
    obtain ⟨i, hm, rfl, hok, hg⟩ := hrel
    have HM := Lib.hid hm
    have HOK := Lib.hid hok
    clear hm hok
    by_cases hi : i < l.length
    · have hii : (i : Int) < l.length := by omega
      obtain ⟨k, hk⟩ : ∃ k, l[i]? = some k := ⟨l[i], List.getElem?_eq_getElem hi⟩
      obtain ⟨g, off, rfl, hc⟩ := HRD.out wr hg i k hk
      have y0 := hc 0 _ rfl
      have y1 := hc 1 _ rfl
      clear hc
      simp only [Nat.add_zero] at y0
      have HY := Lib.hid hk
      clear hk
      have b1 := HL.out.cnt k
      have b2 := HL2.out.cnt k
      have hb1 : -2147483647 ≤ cnt L k ∧ cnt L k ≤ 2147483647 := by simpa [okC] using b1
      have hb2 : -2147483647 ≤ cnt L2 k ∧ cnt L2 k ≤ 2147483647 := by simpa [okC] using b2
      clear b1 b2
      have hsum : IntKind.i64.wrap (cnt L k + cnt L2 k) = cnt L k + cnt L2 k := IntWalk.i64_in _ (by omega)
      have g1 := fun W hW => HG.out W hW k
      have g2 := fun W hW => HG2.out W hW k
      have hbey : ∀ W, Calls Try.prog 86 #[.int .i64 (cnt L k + cnt L2 k)] W fun e w' => e = .returned (.bool (!okC (cnt L k + cnt L2 k))) ∧ W = w' := fun W => beyond_any _ W
      obtain ⟨ks, kn⟩ := k
      generalize hx1 : cnt L ⟨ks, kn⟩ = x1 at g1 hb1 hsum hbey
      generalize hx2 : cnt L2 ⟨ks, kn⟩ = x2 at g2 hb2 hsum hbey
      generalize hokk : okC (x1 + x2) = okk at hbey
      have HX1 := Lib.hid hx1
      have HX2 := Lib.hid hx2
      have HO := Lib.hid hokk
      have G1 := Lib.hid g1
      have G2 := Lib.hid g2
      have HB := Lib.hid hbey
      have HS := Lib.hid hsum
      clear hx1 hx2 hokk g1 g2 hbey hsum
      go_wp2_with fail
      have hsum := HS.out
      go_region_held3 (fun w' => w'.cell? ⟨g, off + i * 2, none⟩ = some (.string ks.s) ∧ w'.cell? ⟨g, off + i * 2 + 1, none⟩ = some (.int .i64 kn)) (go_keep)
        (first
          | (go_at_call 86; refine (HB.out _).mono ?_; rintro e w8 ⟨rfl, rfl⟩)
          | (go_at_call_of 27 (Value.pointer (some ⟨rb, 0, none⟩)); refine (G1.out _ hg.drew).mono ?_; rintro e w6 ⟨rfl, hg6⟩; have HG6 := Lib.hid (hg.drew.trans hg6); have z0 := hg6.upd.cellS (show wr.drew.cell? _ = _ from y0) (by simp); have z1 := hg6.upd.cellS (show wr.drew.cell? _ = _ from y1) (by simp); clear hg6)
          | (go_at_call_of 27 (Value.pointer (some ⟨rbc, 0, none⟩)); refine (G2.out _ HG6.out).mono ?_; rintro e w7 ⟨rfl, hg7⟩; have HG7 := Lib.hid (HG6.out.trans hg7); have z2 := hg7.upd.cellS z0 (by simp); have z3 := hg7.upd.cellS z1 (by simp); clear hg7))
      clear hsum
      cases okk with
      | true =>
        go_wp2_with fail
        have hm := HM.out
        go_roundg (l.length - (i + 1))
        case measure => omega
        case rel =>
          refine ⟨i + 1, by omega, rfl, fun t k ht hk => ?_, HG7.out⟩
          by_cases hti : t = i
          · subst hti
            rw [HY.out] at hk
            cases hk
            rw [HX1.out, HX2.out, HO.out]
          · exact HOK.out t k (by omega) hk
      | false =>
        go_wp2_with fail
        go_ret
        unfold JoinedR
        rw [if_neg]
        · exact ⟨rfl, hu02.out.trans HG7.out.upd⟩
        · intro hall
          have hin := (HK1.out.2.1.mem_iff (a := (⟨ks, kn⟩ : RKey))).1 (List.mem_of_getElem? HY.out)
          obtain ⟨p, hp, hpk⟩ := List.mem_map.1 hin
          have hp := (List.mem_filter.1 hp).1
          have h3 := hall p hp
          have e1 : cnt L2 p.1 = p.2 := by unfold Go.Slu.cnt; rw [lk_of_mem HL2.out.nd (v := p.2) hp]; rfl
          rw [← e1, hpk, HX1.out, HX2.out, HO.out] at h3
          cases h3
    · have hii : ¬ (i : Int) < l.length := by omega
      go_wp2_with fail
      have hall := Lib.hid (show ∀ k ∈ l, okC (cnt L k + cnt L2 k) = true from fun k hk => by
        obtain ⟨t, ht, rfl⟩ := List.getElem_of_mem hk
        exact HOK.out t _ (by have := HM.out; omega) (List.getElem?_eq_getElem ht))
      clear HOK HM hi hii
      have hFlt := Lib.hid H.out.lt
      have hndl := Lib.hid (show l.Nodup from HK1.out.2.2.1.imp (fun {a b} (h : cfK kind2 a b < 0) (e : a = b) => cfK_irr kind2 a (by rw [← e] at h; exact h)))
      have hal : Hid (∀ b ∈ ablk al, b ∉ F) := fun b hb hbF => by
        have h1 := HK1.out.2.2.2.1 b hb
        have h2 := HC1.out.2.2.size
        have h3 := hFlt.out b hbF
        omega
      have hfc : Hid (∀ b ∈ Fc, b ∉ F) := fun b hb hbF => by
        have h1 := HC1.out.2.1 b hb
        have h3 := hFlt.out b hbF
        omega
      have hgc0 : Hid (∀ W, Upd F wr W → RefF Fc W rbc kind2 L2) := fun W hW => (HFr.out.grew hg).keep hW (fun b hb _ => hfc.out b hb)
      go_loopg [8] l.length (fun m v wz => ∃ (i : Nat) (Li : List (RKey × Int)) (Fi : List Nat), m + i = l.length ∧ v = .int .i64 i ∧ RefF Fi wz rb kind Li ∧ LOk Li ∧ (∀ b ∈ Fi, b ∈ F ∨ wr.heap.size ≤ b) ∧ Upd F wr wz ∧ (∀ k : RKey, cnt Li k = if k ∈ l.take i then cnt L k + cnt L2 k else cnt L k) ∧ Li.length ≤ L.length + i ∧ (∀ k ∈ Li.map (fun p => p.1), k ∈ L.map (fun p => p.1) ∨ k ∈ l))
      case atStart => exact ⟨0, L, F, rfl, rfl, HT.out.grew hg, HL.out, fun b hb => .inl hb, Upd.refl _ _, fun k => by simp, by simp, fun k hk => .inl hk⟩
      case round =>
        obtain ⟨i, Li, Fi, hm, rfl, hrf, hlo, hFi, huz, hcn, hlen, hkeys⟩ := hrel
        have HM := Lib.hid hm
        have HRF := Lib.hid hrf
        have HLO := Lib.hid hlo
        have HFI := Lib.hid hFi
        have HCN := Lib.hid hcn
        have HKY := Lib.hid hkeys
        clear hm hrf hlo hFi hcn hkeys
        by_cases hi : i < l.length
        · have hii : (i : Int) < l.length := by omega
          obtain ⟨k, hk⟩ : ∃ k, l[i]? = some k := ⟨l[i], List.getElem?_eq_getElem hi⟩
          obtain ⟨g, off, rfl, hc⟩ := ((HK1.out.1.keep hg.upd (by simp)).keep huz hal.out).rd elemR.len i k hk
          have y0 := hc 0 _ rfl
          have y1 := hc 1 _ rfl
          clear hc
          simp only [Nat.add_zero] at y0
          have HY := Lib.hid hk
          have hkl := Lib.hid (List.mem_of_getElem? hk)
          clear hk
          have hkt : Hid (k ∉ l.take i) := fun hin => by
            obtain ⟨t, ht, he⟩ := List.getElem_of_mem hin
            simp at ht
            obtain ⟨l2, g2⟩ := List.getElem?_eq_some_iff.1 HY.out
            have := List.pairwise_iff_getElem.1 hndl.out t i (by omega) l2 (by omega)
            rw [List.getElem_take] at he
            exact this (he.trans g2.symm)
          have hgc := Lib.hid (fun W hW => hgc0.out W (huz.trans hW))
          have hx2 := HL2.out.cnt k
          have hsumok := hall.out k hkl.out
          have hcnk : cnt Li k = cnt L k := by rw [HCN.out k, if_neg hkt.out]
          have hadd := fun (W : World) (hW : RefF Fi W rb kind Li) => addR Fi W rb kind Li hW HLO.out (by omega) k (cnt L2 k)
          rw [hcnk, if_pos (by rw [hx2, hsumok]; rfl), if_pos (by rw [hx2, hsumok]; rfl)] at hadd
          have hget := fun (W : World) (hW : RefF Fc W rbc kind2 L2) => getF Fc W rbc kind2 L2 hW HL2.out (by omega) k
          have HADD := Lib.hid hadd
          have HGET := Lib.hid hget
          have HX2 := Lib.hid hx2
          have HSUM := Lib.hid hsumok
          clear hadd hget hx2 hsumok hcnk
          have f1 := Lib.hid (hgc.out wr (Upd.refl _ _))
          obtain ⟨ks, kn⟩ := k
          generalize hx2v : cnt L2 ⟨ks, kn⟩ = x2 at HADD HGET HX2 HSUM
          have HX2V := Lib.hid hx2v
          clear hx2v
          go_wp2_with fail
          go_region_held3 (fun w' => w'.cell? ⟨g, off + i * 2, none⟩ = some (.string ks.s) ∧ w'.cell? ⟨g, off + i * 2 + 1, none⟩ = some (.int .i64 kn)) (go_keep)
            (first
              | (go_at_call 27; refine (HGET.out _ (hgc.out _ (Upd.refl F wr).drew)).mono ?_; rintro e w6 ⟨rfl, hg6⟩; have HG6 := Lib.hid ((Grew.refl wr).drew.trans hg6); have z0 := hg6.upd.cellS (show wr.drew.cell? _ = _ from y0) (by simp); have z1 := hg6.upd.cellS (show wr.drew.cell? _ = _ from y1) (by simp); clear hg6)
              | (go_at_call 24; refine (HADD.out _ (HRF.out.grew HG6.out)).mono ?_; rintro e w7 ⟨rfl, hst⟩; have HST := Lib.hid hst; obtain ⟨F7, hr7, hi7, hu7⟩ := hst; have hng : g ∉ Fi := (fun hb => (HFI.out g hb).elim (hal.out g (by simp [ablk])) (fun h => by have h1 := (HK1.out.1.keep hg.upd (by simp)).lt g (by simp [ablk]); omega)); have z2 := hu7.cellS z0 hng; have z3 := hu7.cellS z1 hng; have HR7 := Lib.hid hr7; have HI7 := Lib.hid hi7; have HU7 := Lib.hid hu7; clear hr7 hi7 hu7 hng))
          go_wp2_with fail
          have hm := HM.out
          go_roundg (l.length - (i + 1))
          case measure => omega
          case rel =>
            have hu6 : Upd [] wr w6 := HG6.out.upd
            have hs6 := hu6.size
            have hsz := huz.size
            refine ⟨i + 1, _, F7, by omega, rfl, HR7.out, HLO.out.put _ HSUM.out, fun b hb => ?_, ?_, fun k => ?_, ?_, fun k hk => ?_⟩
            · rcases HI7.out b hb with h | h
              · exact HFI.out b h
              · exact .inr (by omega)
            · exact (huz.then hu6 (by simp)).then HU7.out (fun j hj hlt => (HFI.out j hj).resolve_right (by omega))
            · rw [cnt_put, List.take_succ_eq_append_getElem hi]
              have hli : l[i] = ⟨ks, kn⟩ := by
                have := HY.out
                rw [List.getElem?_eq_getElem hi] at this
                exact Option.some.inj this
              rw [hli]
              by_cases hk : k = ⟨ks, kn⟩
              · subst hk
                rw [if_pos rfl, if_pos (by simp), HX2V.out]
              · rw [if_neg hk, HCN.out k]
                simp [hk]
            · have := put_length_le Li (⟨ks, kn⟩ : RKey) (Go.Slu.cnt L ⟨ks, kn⟩ + x2)
              omega
            · rw [put_keys_perm] at hk
              split at hk
              · exact HKY.out k hk
              · rcases List.mem_append.1 hk with hk | hk
                · exact HKY.out k hk
                · simp at hk; subst hk; exact .inr hkl.out
        · have hii : ¬ (i : Int) < l.length := by omega
          go_wp2_with fail
          go_ret
          unfold JoinedR
          rw [if_pos]
          · refine ⟨rfl, Li, ?_, HLO.out, fun k => ?_, fun k hk => ?_⟩
            · have hu0 := (hu02.out.trans hg.upd)
              exact ⟨Fi, HRF.out, fun b hb => (HFI.out b hb).imp id (fun h => by have := hu0.size; omega), ((Upd.refl F w).then hu0 (by simp)).trans huz⟩
            · rw [HCN.out k, List.take_of_length_le (by have := HM.out; omega)]
              by_cases hkl : k ∈ l
              · rw [if_pos hkl]
              · rw [if_neg hkl]
                have : cnt L2 k = 0 := by
                  by_cases h0 : cnt L2 k = 0
                  · exact h0
                  · exact absurd ((cnt_keys HL2.out HK1.out.2.1 k).2 h0) hkl
                omega
            · refine (HKY.out k hk).imp id fun hkl => ?_
              obtain ⟨p, hp, hpk⟩ := List.mem_map.1 (HK1.out.2.1.mem_iff.1 hkl)
              exact List.mem_map.2 ⟨p, (List.mem_filter.1 hp).1, hpk⟩
          · intro p hp
            have e1 : cnt L2 p.1 = p.2 := by unfold Go.Slu.cnt; rw [lk_of_mem HL2.out.nd (v := p.2) hp]; rfl
            by_cases h0 : p.2 = 0
            · rw [h0, Int.add_zero]; exact HL.out.cnt p.1
            · rw [← e1]
              exact hall.out _ ((cnt_keys HL2.out HK1.out.2.1 p.1).2 (by rw [e1]; exact h0))
end Go.Proofs.Ytcdmdpgfadopcaa
