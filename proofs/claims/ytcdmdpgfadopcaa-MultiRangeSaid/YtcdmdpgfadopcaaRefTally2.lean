/-
  The document's tally (sluiceref04): at, Get, Add, Clear, Copy.
-/
import Derived.Test.YtcdmdpgfadopcaaPlainOrd
import Derived.IntWalk
import Derived.Test.YtcdmdpgfadopcaaBaseMem
namespace Go.Slu
open Go.MapKept Go.RowKit
end Go.Slu
namespace Go.Proofs.Ytcdmdpgfadopcaa
open Go.Slu Go.MapKept Go.RowKit Go.Sort
/-- a key of the document's tally -/
structure RKey where
  s : Str
  n : Int
deriving DecidableEq, Inhabited
abbrev ekR (k : RKey) : Value := .agg #[.string k.s.s, .int .i64 k.n]
abbrev eeR (k : RKey) : List Value := [.string k.s.s, .int .i64 k.n]
abbrev eeC (n : Int) : List Value := [.int .i64 n]

theorem info60 : (Try.prog.info? 60).map (fun i => (i.zero, i.size, i.bytes)) = some (some (.agg #[.string .empty, .int .i64 0]), 2, 24) := by kernel_rfl
theorem info2 : (Try.prog.info? 2).map (fun i => (i.zero, i.size, i.bytes)) = some (some (.int .i64 0), 1, 8) := by kernel_rfl
theorem elemR : Elem Try.prog 28 60 2 24 eeR where
  ht := Try.underlying28
  info := by obtain ⟨i, h1, h2, h3, h4⟩ := info_parts info60; exact ⟨i, _, h1, h2, h3, h4, rfl⟩
  pos := by omega
  len _ := rfl
  one _ u hu := by simp [eeR] at hu; rcases hu with rfl | rfl <;> rfl
theorem elemC : Elem Try.prog 29 2 1 8 eeC where
  ht := Try.underlying29
  info := by obtain ⟨i, h1, h2, h3, h4⟩ := info_parts info2; exact ⟨i, _, h1, h2, h3, h4, rfl⟩
  pos := by omega
  len _ := rfl
  one _ u hu := by simp [eeC] at hu; subst hu; rfl

/-- BLOCK rb IS A TALLY OF THE DOCUMENT's with names and counts L. -/
structure RefAt (w : World) (rb : Nat) (kind : Int) (L : List (RKey × Int)) (a : Option Addr) (c : Nat) (a2 : Option Addr) (c2 : Nat) : Prop where
  blk : w.heap[rb]? = some (.cells #[.int .i64 kind, .slice a L.length c, .slice a2 L.length c2] 31 (0, 0))
  names : OwnAt 60 2 eeR w a c (L.map (·.1))
  counts : OwnAt 2 1 eeC w a2 c2 (L.map (·.2))

section
variable {w w' : World} {rb : Nat} {kind : Int} {L : List (RKey × Int)} {a a2 : Option Addr} {c c2 : Nat}
theorem RefAt.k0 (h : RefAt w rb kind L a c a2 c2) : w.cell? ⟨rb, 0, none⟩ = some (.int .i64 kind) := by simp [World.cell?, h.blk]
theorem RefAt.k1 (h : RefAt w rb kind L a c a2 c2) : w.cell? ⟨rb, 1, none⟩ = some (.slice a L.length c) := by simp [World.cell?, h.blk]
theorem RefAt.k2 (h : RefAt w rb kind L a c a2 c2) : w.cell? ⟨rb, 2, none⟩ = some (.slice a2 L.length c2) := by simp [World.cell?, h.blk]
theorem RefAt.keep {X : List Nat} (h : RefAt w rb kind L a c a2 c2) (hu : Upd X w w') (h1 : rb ∉ X) (h2 : ∀ b ∈ ablk a, b ∉ X) (h3 : ∀ b ∈ ablk a2, b ∉ X) : RefAt w' rb kind L a c a2 c2 :=
  ⟨hu.at h.blk h1, h.names.keep hu h2, h.counts.keep hu h3⟩
theorem RefAt.grew (h : RefAt w rb kind L a c a2 c2) (hu : Grew w w') : RefAt w' rb kind L a c a2 c2 := h.keep hu.upd (by simp) (by simp) (by simp)
/-- the cells of a name -/
theorem RefAt.name (h : RefAt w rb kind L a c a2 c2) {i : Nat} {p : RKey × Int} (hi : L[i]? = some p) : ∃ b, a = some ⟨b, 0, none⟩ ∧ w.cell? ⟨b, i * 2, none⟩ = some (.string p.1.s.s) ∧ w.cell? ⟨b, i * 2 + 1, none⟩ = some (.int .i64 p.1.n) := by
  have h2 := h.names.rd elemR.len i p.1 (by simp [hi])
  rcases h.names.cases with ⟨rfl, _, hn⟩ | ⟨g, rfl, _⟩
  · obtain ⟨b, off, hb, _⟩ := h2; cases hb
  · obtain ⟨b, off, hb, hc⟩ := h2
    cases hb
    exact ⟨g, rfl, by simpa using hc 0 _ rfl, by simpa using hc 1 _ rfl⟩
theorem RefAt.count (h : RefAt w rb kind L a c a2 c2) {i : Nat} {p : RKey × Int} (hi : L[i]? = some p) : ∃ b, a2 = some ⟨b, 0, none⟩ ∧ w.cell? ⟨b, i, none⟩ = some (.int .i64 p.2) := by
  have h2 := h.counts.rd elemC.len i p.2 (by simp [hi])
  rcases h.counts.cases with ⟨rfl, _, hn⟩ | ⟨g, rfl, _⟩
  · obtain ⟨b, off, hb, _⟩ := h2; cases hb
  · obtain ⟨b, off, hb, hc⟩ := h2
    cases hb
    exact ⟨g, rfl, by simpa using hc 0 _ rfl⟩
end

theorem key_cases (xs ks : Str) (xn kn : Int) : (xs = ks ∧ xn = kn) ∨ ¬ xs.s.toList = ks.s.toList ∨ (xs = ks ∧ ¬ xn = kn) := by
  by_cases h : xs.s.toList = ks.s.toList
  · have := str_inj h
    subst this
    by_cases h2 : xn = kn
    · exact .inl ⟨rfl, h2⟩
    · exact .inr (.inr ⟨rfl, h2⟩)
  · exact .inr (.inl h)
/-- where a key stands -/
def ixOf (L : List (RKey × Int)) (k : RKey) (r : Int) : Prop := (∃ i : Nat, ∃ n, r = i ∧ L[i]? = some (k, n) ∧ ∀ j p, j < i → L[j]? = some p → p.1 ≠ k) ∨ (r = -1 ∧ k ∉ L.map (·.1))

theorem at_any (w : World) (rb : Nat) (kind : Int) (L : List (RKey × Int)) (a : Option Addr) (c : Nat) (a2 : Option Addr) (c2 : Nat) (h : RefAt w rb kind L a c a2 c2) (k : RKey) (hL : L.length ≤ 1000000) :
    Calls Try.prog 87 #[.pointer (some ⟨rb, 0, none⟩), ekR k] w fun e w' => ∃ r, e = .returned (.int .i64 r) ∧ ixOf L k r ∧ Grew w w' := by
  have c1 := h.k1
  obtain ⟨ks, kn⟩ := k
  go_enter Try.func87, Try.ntmps87
  go_wp2
  have H := Lib.hid h; clear h
  have HL := Lib.hid hL; clear hL
  have h0 := fun (W : World) (hg : Grew (w.alloc (.cells #[.string ks.s, .int .i64 kn] 60)) W) => And.intro (hg.upd.cellS (p := ⟨w.heap.size, 0, none⟩) (v := .string ks.s) (cell_new _ _ _ _ (by simp)) (by simp)) (hg.upd.cellS (p := ⟨w.heap.size, 1, none⟩) (v := .int .i64 kn) (cell_new _ _ _ _ (by simp)) (by simp))
  go_loopg [5] L.length (fun m v wr => ∃ i : Nat, m + i = L.length ∧ v = .int .i64 i ∧ Grew (w.alloc (.cells #[.string ks.s, .int .i64 kn] 60)) wr ∧ ∀ (j : Nat) (x : RKey) (n : Int), j < i → L[j]? = some (x, n) → x ≠ ⟨ks, kn⟩)
  case atStart => exact ⟨0, rfl, rfl, Grew.refl _, fun j x n hj => absurd hj (by omega)⟩
  case round =>
    obtain ⟨i, hm, rfl, hg, hno⟩ := hrel
    have hw := (Grew.refl w).alloc (.cells #[.string ks.s, .int .i64 kn] 60) |>.trans hg
    have hr := H.out.grew hw
    have c1 := hr.k1
    obtain ⟨b0, b1⟩ := h0 wr hg
    have hl := HL.out
    have HM := Lib.hid hm
    have HN := Lib.hid hno
    have HR := Lib.hid hr
    clear hm hno h0 hr
    by_cases hi : i < L.length
    · obtain ⟨b, hb, n0, n1⟩ := HR.out.name (i := i) (p := L[i]) (List.getElem?_eq_getElem hi)
      subst hb
      have hii : (i : Int) < L.length := by omega
      generalize hx : L[i] = x at n0 n1
      have HX := Lib.hid hx
      clear hx
      obtain ⟨⟨xs, xn⟩, xc⟩ := x
      simp only at n0 n1
      rcases key_cases xs ks xn kn with ⟨rfl, rfl⟩ | hne | ⟨rfl, hne⟩
      · go_wp2
        go_quiet (fail)
        go_wp2
        go_ret
        exact ⟨i, rfl, .inl ⟨i, xc, rfl, by rw [List.getElem?_eq_getElem hi, HX.out], fun j p hj hp => HN.out j p.1 p.2 hj hp⟩, hw.drewN _⟩
      all_goals
        go_wp2
        go_quiet (fail)
        go_wp2
        have hm := HM.out
        go_roundg (L.length - (i + 1))
        case measure => omega
        case rel =>
          refine ⟨i + 1, by omega, rfl, hg.drewN _, fun j x n hj hp => ?_⟩
          by_cases hji : j = i
          · subst hji
            rw [List.getElem?_eq_getElem hi, HX.out] at hp
            cases hp
            intro e
            cases e
            exact hne rfl
          · exact HN.out j x n (by omega) hp
    · have hii : ¬ (i : Int) < L.length := by omega
      go_wp2
      go_ret
      refine ⟨-1, rfl, .inr ⟨rfl, fun hc => ?_⟩, hw⟩
      obtain ⟨p, hp, he⟩ := List.mem_map.1 hc
      obtain ⟨j, hj, hjp⟩ := List.getElem_of_mem hp
      exact HN.out j p.1 p.2 (by omega) (by rw [List.getElem?_eq_getElem hj, hjp]) he
end Go.Proofs.Ytcdmdpgfadopcaa
