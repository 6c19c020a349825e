/-
  sluicelaw04: the state of TallyPlays; steps.
-/
import Derived.Test.YtcdmdpgfadopcaaLawTally3
namespace Go.Proofs.Ytcdmdpgfadopcaa
open Go.Slu Go.MapKept Go.RowKit Go.Sort

abbrev eeP (p : Nat) : List Value := [.pointer (some ⟨p, 0, none⟩)]
theorem info25 : (Try.prog.info? 25).map (fun i => (i.zero, i.size, i.bytes)) = some (some (.pointer none), 1, 8) := by kernel_rfl
theorem info27 : (Try.prog.info? 27).map (fun i => (i.zero, i.size, i.bytes)) = some (some (.pointer none), 1, 8) := by kernel_rfl
theorem elemT : Elem Try.prog 23 25 1 8 eeP where
  ht := Try.underlying23
  info := by obtain ⟨i, h1, h2, h3, h4⟩ := info_parts info25; exact ⟨i, _, h1, h2, h3, h4, rfl⟩
  pos := by omega
  len _ := rfl
  one _ u hu := by simp [eeP] at hu; subst hu; rfl
theorem elemU : Elem Try.prog 24 27 1 8 eeP where
  ht := Try.underlying24
  info := by obtain ⟨i, h1, h2, h3, h4⟩ := info_parts info27; exact ⟨i, _, h1, h2, h3, h4, rfl⟩
  pos := by omega
  len _ := rfl
  one _ u hu := by simp [eeP] at hu; subst hu; rfl

/-- a tally and the document's, side by side -/
structure Duo where
  tb : Nat
  mb : Nat
  F : List Nat
  rb : Nat
  k : Int
  M : List (Str × Int)
  L : List (RKey × Int)
/-- their memory -/
def Duo.foot (d : Duo) : List Nat := d.tb :: d.mb :: d.F
structure Duo.Ok (w : World) (U : List Str) (d : Duo) : Prop where
  t : TallyS w d.tb d.mb (gOf d.k) d.M
  r : RefF d.F w d.rb d.k d.L
  l : LOk d.L
  s : Same d.M d.L
  k : kOk d.k
  u : ∀ k ∈ d.L.map (·.1), k.s ∈ U

theorem Duo.Ok.keep {X : List Nat} {w w' : World} {U : List Str} {d : Duo} (h : d.Ok w U) (hu : Upd X w w') (hx : ∀ b ∈ d.foot, b ∉ X) : d.Ok w' U :=
  ⟨h.t.keep hu (hx _ (by simp [Duo.foot])) (hx _ (by simp [Duo.foot])), h.r.keep hu (fun b hb _ => hx b (by simp [Duo.foot, hb])), h.l, h.s, h.k, h.u⟩
theorem Duo.Ok.lt {w : World} {U : List Str} {d : Duo} (h : d.Ok w U) : ∀ b ∈ d.foot, b < w.heap.size := fun b hb => by
  simp only [Duo.foot, List.mem_cons] at hb
  rcases hb with rfl | rfl | hb
  · exact h.t.lt.1
  · exact h.t.lt.2
  · exact h.r.lt b hb
theorem Duo.Ok.mono {w : World} {U V : List Str} {d : Duo} (h : d.Ok w U) (hv : ∀ x ∈ U, x ∈ V) : d.Ok w V := ⟨h.t, h.r, h.l, h.s, h.k, fun k hk => hv _ (h.u k hk)⟩
/-- the two of a duo don't meet: by the kinds of their blocks -/
theorem Duo.Ok.apart {w : World} {U : List Str} {d : Duo} (h : d.Ok w U) : d.tb ∉ d.F ∧ d.mb ∉ d.F := by
  obtain ⟨a, c, a2, c2, hr, hF⟩ := h.r
  have ht := h.t.blk
  obtain ⟨es, cl, hm, _⟩ := h.t.map
  constructor <;> intro hb <;> rcases (hF _).2 hb with e | e | e
  · have := hr.blk; rw [← e, ht] at this; cases this
  · rcases hr.names.cases with ⟨rfl, _, _⟩ | ⟨g, rfl, _⟩
    · simp [ablk] at e
    · obtain ⟨cur, h3, _⟩ := hr.names.block; simp [ablk] at e; rw [← e, ht] at h3; cases h3
  · rcases hr.counts.cases with ⟨rfl, _, _⟩ | ⟨g, rfl, _⟩
    · simp [ablk] at e
    · obtain ⟨cur, h3, _⟩ := hr.counts.block; simp [ablk] at e; rw [← e, ht] at h3; cases h3
  · have := hr.blk; rw [← e, hm] at this; cases this
  · rcases hr.names.cases with ⟨rfl, _, _⟩ | ⟨g, rfl, _⟩
    · simp [ablk] at e
    · obtain ⟨cur, h3, _⟩ := hr.names.block; simp [ablk] at e; rw [← e, hm] at h3; cases h3
  · rcases hr.counts.cases with ⟨rfl, _, _⟩ | ⟨g, rfl, _⟩
    · simp [ablk] at e
    · obtain ⟨cur, h3, _⟩ := hr.counts.block; simp [ablk] at e; rw [← e, hm] at h3; cases h3
theorem nodup_len {α : Type} [DecidableEq α] : ∀ {l : List α} {U : List α}, l.Nodup → (∀ x ∈ l, x ∈ U) → l.length ≤ U.length
  | [], _, _, _ => Nat.zero_le _
  | x :: l, U, hn, hs => by
    obtain ⟨h1, h2⟩ := List.nodup_cons.1 hn
    have := nodup_len (l := l) (U := U.erase x) h2 (fun y hy => (List.mem_erase_of_ne (fun e => h1 (by rw [← e]; exact hy))).2 (hs y (by simp [hy])))
    rw [List.length_erase_of_mem (hs x (by simp))] at this
    have : 0 < U.length := List.length_pos_of_mem (hs x (by simp))
    simp only [List.length_cons]; omega
theorem Duo.Ok.len {w : World} {U : List Str} {d : Duo} (h : d.Ok w U) : d.L.length ≤ U.length ∧ d.M.length ≤ U.length := by
  have n1 : (d.L.map fun p => p.1.s).Nodup := by
    have := h.l.nd
    refine List.pairwise_map.2 ((List.pairwise_map.1 this).imp_of_mem fun {a b} ha hb hab e => hab ?_)
    have ta := h.s.txt a.1 (List.mem_map_of_mem ha)
    have tb := h.s.txt b.1 (List.mem_map_of_mem hb)
    obtain ⟨⟨s1, an⟩, ac⟩ := a
    obtain ⟨⟨s2, bn⟩, bc⟩ := b
    simp only at e ta tb ⊢
    rw [e, ta, tb]
  constructor
  · have := nodup_len n1 (U := U) (fun x hx => by
      obtain ⟨p, hp, rfl⟩ := List.mem_map.1 hx
      exact h.u p.1 (List.mem_map_of_mem hp))
    simpa using this
  · have := nodup_len (MapRep.nodup keysS h.t.map) (U := U) (fun x hx => by
      rw [tally_keys h.t, h.s.eq] at hx
      by_cases h1 : rk x ∈ d.L.map (·.1)
      · exact h.u _ h1
      · exact absurd (cnt_no h1) hx)
    simpa using this

/-- THE STATE: three duos in two slices of the call's own. -/
structure St (B : Nat) (w : World) (U : List Str) (gt ct gr cr : Nat) (D : Nat → Duo) : Prop where
  ok : ∀ i, i < 3 → (D i).Ok w U
  dis : ∀ i j, i < 3 → j < 3 → i ≠ j → ∀ b ∈ (D i).foot, b ∉ (D j).foot
  ts : OwnAt 25 1 eeP w (some ⟨gt, 0, none⟩) ct [(D 0).tb, (D 1).tb, (D 2).tb]
  rs : OwnAt 27 1 eeP w (some ⟨gr, 0, none⟩) cr [(D 0).rb, (D 1).rb, (D 2).rb]
  fr : ∀ i, i < 3 → gt ∉ (D i).foot ∧ gr ∉ (D i).foot
  lo : B ≤ gt ∧ B ≤ gr ∧ ∀ i, i < 3 → ∀ b ∈ (D i).foot, B ≤ b

section
variable {B : Nat} {w w' : World} {U : List Str} {gt ct gr cr : Nat} {D : Nat → Duo}
theorem St.tcell (h : St B w U gt ct gr cr D) {i : Nat} (hi : i < 3) : w.cell? ⟨gt, i, none⟩ = some (.pointer (some ⟨(D i).tb, 0, none⟩)) := by
  have := h.ts.rd elemT.len i ((D i).tb) (by match i, hi with | 0, _ => rfl | 1, _ => rfl | 2, _ => rfl)
  obtain ⟨b, off, hb, hc⟩ := this
  have e := hc 0 _ rfl
  cases hb
  simpa using e
theorem St.rcell (h : St B w U gt ct gr cr D) {i : Nat} (hi : i < 3) : w.cell? ⟨gr, i, none⟩ = some (.pointer (some ⟨(D i).rb, 0, none⟩)) := by
  have := h.rs.rd elemU.len i ((D i).rb) (by match i, hi with | 0, _ => rfl | 1, _ => rfl | 2, _ => rfl)
  obtain ⟨b, off, hb, hc⟩ := this
  have e := hc 0 _ rfl
  cases hb
  simpa using e
theorem St.ne (h : St B w U gt ct gr cr D) : gt ≠ gr := fun e => by
  obtain ⟨c1, h1, _⟩ := h.ts.block
  obtain ⟨c2, h2, _⟩ := h.rs.block
  rw [e, h2] at h1
  cases h1
theorem St.lt (h : St B w U gt ct gr cr D) : gt < w.heap.size ∧ gr < w.heap.size := ⟨h.ts.lt gt (by simp [ablk]), h.rs.lt gr (by simp [ablk])⟩
/-- one duo has moved on, in its own memory and in new one -/
theorem St.step (h : St B w U gt ct gr cr D) {V : List Str} (hv : ∀ x ∈ U, x ∈ V) {i : Nat} (hi : i < 3) {d : Duo} (hd : d.Ok w' V) (htb : d.tb = (D i).tb) (hrb : d.rb = (D i).rb) {X : List Nat} (hX : ∀ b ∈ X, b ∈ (D i).foot) (hu : Upd X w w') (hin : ∀ b ∈ d.foot, b ∈ (D i).foot ∨ w.heap.size ≤ b) (hB : B ≤ w.heap.size) :
    St B w' V gt ct gr cr (fun n => if n = i then d else D n) := by
  have hgt := h.lt
  refine ⟨fun j hj => ?_, fun j m hj hm hne b hb => ?_, ?_, ?_, fun j hj => ?_, h.lo.1, h.lo.2.1, fun j hj b hb => ?_⟩
  · by_cases e : j = i
    · simp only [e, if_true]; exact hd
    · simp only [e, if_false]
      exact ((h.ok j hj).mono hv).keep hu (fun b hb hx => h.dis j i hj hi e b hb (hX b hx))
  · by_cases e : j = i
    · subst e
      have e2 : m ≠ j := Ne.symm hne
      simp only [if_true, e2, if_false] at hb ⊢
      rcases hin b hb with h1 | h1
      · exact h.dis j m hj hm hne b h1
      · intro h2; have := (h.ok m hm).lt b h2; omega
    · simp only [e, if_false] at hb
      by_cases e2 : m = i
      · subst e2
        simp only [if_true]
        intro h2
        rcases hin b h2 with h1 | h1
        · exact h.dis j m hj hm hne b hb h1
        · have := (h.ok j hj).lt b hb; omega
      · simp only [e2, if_false]; exact h.dis j m hj hm hne b hb
  · have e : ∀ n, (if n = i then d else D n).tb = (D n).tb := fun n => by split <;> simp_all
    simp only [e]
    exact h.ts.keep hu (fun b hb hx => by simp [ablk] at hb; subst hb; exact (h.fr i hi).1 (hX _ hx))
  · have e : ∀ n, (if n = i then d else D n).rb = (D n).rb := fun n => by split <;> simp_all
    simp only [e]
    exact h.rs.keep hu (fun b hb hx => by simp [ablk] at hb; subst hb; exact (h.fr i hi).2 (hX _ hx))
  · by_cases e : j = i
    · simp only [e, if_true]
      exact ⟨fun hb => (hin _ hb).elim (h.fr i hi).1 (fun h1 => by omega), fun hb => (hin _ hb).elim (h.fr i hi).2 (fun h1 => by omega)⟩
    · simp only [e, if_false]; exact h.fr j hj
  · by_cases e : j = i
    · simp only [e, if_true] at hb
      rcases hin b hb with h1 | h1
      · exact h.lo.2.2 i hi b h1
      · omega
    · simp only [e, if_false] at hb; exact h.lo.2.2 j hj b hb
theorem St.keep {X : List Nat} (h : St B w U gt ct gr cr D) (hu : Upd X w w') (hX : ∀ b ∈ X, w.heap.size ≤ b) : St B w' U gt ct gr cr D :=
  ⟨fun i hi => (h.ok i hi).keep hu (fun b hb hx => by have := (h.ok i hi).lt b hb; have := hX b hx; omega), h.dis, h.ts.keep hu (fun b hb hx => by have := h.ts.lt b hb; have := hX b hx; omega), h.rs.keep hu (fun b hb hx => by have := h.rs.lt b hb; have := hX b hx; omega), h.fr, h.lo⟩
end
end Go.Proofs.Ytcdmdpgfadopcaa
