/-
  Own base, program-free: 'm[k] op= v' on a map of the call's own: the entry is laid or found, then written.
-/
import Derived.Test.YtcdmdpgfadopcaaBaseMem
import Derived.WideKeyEntry
namespace Go.Slu
open Go.MapKept Go.RowKit
open Go.ChangeMaps (setBlock heap_setBlock_same heap_setBlock_other)
section
variable {P : Program} {kt : TypeId} {κ ν : Type} [DecidableEq κ] {ek : κ → Value} {ev : ν → Value} {w : World} {b : Nat} {m : List (κ × ν)}
/-- behind 'mapEntry': writing the entry of this stamp makes the map that is wanted -/
def EntryAt (P : Program) (t : TypeId) (ek : κ → Value) (ev : ν → Value) (w1 : World) (b : Nat) (m : List (κ × ν)) (x : κ) (st : Nat) : Prop :=
  ∃ o, w1.heap[b]? = some o ∧ ∀ (w2 : World) (v : ν), w2.heap[b]? = some o → ∃ w3, (Instr.entryStore t (.map (some b)) (goInt st) (ev v)).run P w2 = .ok () w3 ∧ MapRep ek ev w3 b (put m x v) ∧ Upd [b] w2 w3
theorem EntryAt.keep {t : TypeId} {w1 w2 : World} {x : κ} {st : Nat} {X : List Nat} (h : EntryAt P t ek ev w1 b m x st) (hu : Upd X w1 w2) (hx : b ∉ X) : EntryAt P t ek ev w2 b m x st := by
  obtain ⟨o, h1, h2⟩ := h
  exact ⟨o, hu.at h1 hx, h2⟩
theorem goInt_eq (n : Nat) : goInt n = .int .i64 n := rfl
theorem MapRep.entry {t et : TypeId} (K : KeyOps P kt ek) (ht : P.underlying t = some (.map kt et)) {z : Value} (hz : ∀ u : World, (zeroValue et).run P u = .ok z u) (h : MapRep ek ev w b m) (x : κ) :
    ∃ (w1 : World) (st : Nat), (Instr.mapEntry t (.map (some b)) (ek x)).run P w = .ok (.tuple #[((lk m x).map ev).getD z, goInt st]) w1 ∧ Upd [b] w w1 ∧ EntryAt P t ek ev w1 b m x st := by
  have hd := h.nodup K
  obtain ⟨es, cl, hb, hs, he⟩ := h
  obtain ⟨s1, s2, s3⟩ := hs
  have hlen : es.size = m.length := by have := congrArg List.length he; simpa using this
  rcases MapRep.found K hd he x w with ⟨h1, h2⟩ | ⟨j, p, h1, hj, hp, h2⟩
  · have hno : ∀ e ∈ es.toList, e.key ≠ ek x := fun e hm e2 => by
      obtain ⟨i, hi⟩ := List.getElem?_of_mem hm
      obtain ⟨q, hq, hk, _⟩ := entry_pair he hi
      have : q.1 = x := K.inj _ _ (hk.symm.trans e2)
      exact lk_none.1 h2 (this ▸ List.mem_map_of_mem (f := (·.1)) (List.mem_of_getElem? hq))
    refine ⟨_, cl, ?_, upd_setObj (.map (es.push ⟨ek x, z, cl⟩) (cl + 1)) hb, _, (heap_set hb).1, fun w2 v hw2 => ?_⟩
    · simp [Instr.mapEntry, run_underlying ht, MapKept.run_getObj_map hb, K.check, h1, hz, MapKept.run_setObj_map _ hb, Result.andThen, h2]
    · have hst : Stamped (es.push ⟨ek x, z, cl⟩) (cl + 1) := stamped_push ⟨s1, s2, s3⟩ hno
      have hidx : (es.push ⟨ek x, z, cl⟩).findIdx? (fun e => ((e.born : Nat) : Int) == ((cl : Nat) : Int)) = some es.size := by
        rw [WideElems.findIdx_arr]
        exact WideElems.findIdx_born (l := (es.push ⟨ek x, z, cl⟩).toList) (j := es.size) (e0 := ⟨ek x, z, cl⟩) hst.2.1 (by simp)
      refine ⟨{ w2 with heap := w2.heap.setIfInBounds b (.map ((es.push ⟨ek x, z, cl⟩).modify es.size fun e => { e with val := ev v }) (cl + 1)) }, by simp [Instr.entryStore, MapKept.run_getObj_map hw2, goInt_eq, asInt, asIntOf, Result.andThen, hidx, MapKept.run_setObj_map _ hw2], ⟨_, _, (heap_set hw2).1, stamped_modify hst _ _ (fun _ _ => rfl) (fun e' _ he' => rfl), ?_⟩, upd_setObj _ hw2⟩
      rw [put_new (lk_none.1 h2)]
      apply List.ext_getElem?
      intro i
      have hi := congrArg (fun l => l[i]?) he
      simp only [List.getElem?_map] at hi
      simp only [List.getElem?_map, Array.getElem?_toList, Array.getElem?_modify, Array.getElem?_push]
      by_cases hie : es.size = i
      · subst hie
        rw [List.getElem?_append_right (by omega)]
        simp [hlen]
      · rw [if_neg hie, if_neg (fun e => hie e.symm)]
        by_cases hil : i < m.length
        · rw [List.getElem?_append_left hil]
          simpa using hi
        · have h3 : ¬ i < es.size := by omega
          rw [List.getElem?_eq_none (by simp; omega)]
          simp [h3]
  · have hjl : j < es.size := by have h4 : j < m.length := (List.getElem?_eq_some_iff.1 hj).1; omega
    have hje : es[j]? = some es[j] := Array.getElem?_eq_getElem hjl
    have hkj : es[j].key = ek x := by
      obtain ⟨q, hq, hk, _⟩ := entry_pair he (show es.toList[j]? = some es[j] by simp)
      rw [hj] at hq; cases hq; rw [hk, hp]
    have hmod : (es.modify j fun e => { e with key := ek x }) = es := by
      apply Array.ext_getElem?
      intro i
      rw [Array.getElem?_modify]
      split
      · rename_i e; subst e; rw [hje]; simp [← hkj]
      · rfl
    refine ⟨_, es[j].born, ?_, upd_setObj (.map es cl) hb, _, (heap_set hb).1, fun w2 v hw2 => ?_⟩
    · simp only [Instr.mapEntry, Sem.run_bind, run_underlying ht, Result.andThen, MapKept.run_getObj_map hb, K.check, h1, hje, Option.map_some, Option.getD_some, hkj, K.stays, hmod, h2]
      simp [MapKept.run_setObj_map _ hb, Result.andThen]
    · have hidx : es.findIdx? (fun e => ((e.born : Nat) : Int) == ((es[j].born : Nat) : Int)) = some j := by
        rw [WideElems.findIdx_arr]
        exact WideElems.findIdx_born (l := es.toList) (j := j) (e0 := es[j]) s2 (by simp)
      refine ⟨{ w2 with heap := w2.heap.setIfInBounds b (.map (es.modify j fun e => { e with val := ev v }) cl) }, by simp [Instr.entryStore, MapKept.run_getObj_map hw2, goInt_eq, asInt, asIntOf, Result.andThen, hidx, MapKept.run_setObj_map _ hw2], ⟨_, _, (heap_set hw2).1, stamped_modify ⟨s1, s2, s3⟩ _ _ (fun _ _ => rfl) (fun e' _ he' => rfl), ?_⟩, upd_setObj _ hw2⟩
      rw [put_at hd hj hp]
      apply List.ext_getElem?
      intro i
      have hi := congrArg (fun l => l[i]?) he
      simp only [List.getElem?_map] at hi
      simp only [List.getElem?_map, List.getElem?_set, Array.getElem?_toList, Array.getElem?_modify]
      by_cases hij : j = i
      · subst hij
        have h4 : j < m.length := (List.getElem?_eq_some_iff.1 hj).1
        simp [h4, hje, hkj]
      · simp only [hij, if_false]
        simpa using hi
end
section
variable {P : Program} {w : World} {ops : Array Oper} {rest : List Oper} {o : Oper} {a : Act} {Q : Exit → Act → World → Prop} {KK : Act → World → Prop} {E : Prop}
variable {kt : TypeId} {κ ν : Type} [DecidableEq κ] {ek : κ → Value} {ev : ν → Value} {b : Nat} {M : List (κ × ν)}
theorem step_mapEntry (hg : o.guard = none) (m x : Operand) (t et : TypeId) (hop : o.op = .mapEntry t m x) (K : KeyOps P kt ek) (ht : P.underlying t = some (.map kt et)) {z : Value} (hz : ∀ u : World, (zeroValue et).run P u = .ok z u)
    (h : MapRep ek ev w b M) (y : κ) (hm : a.eval m = .map (some b)) (hx : a.eval x = ek y)
    (hK : ∀ w1 st, Upd [b] w w1 → EntryAt P t ek ev w1 b M y st → KK (a.put o.dst (.tuple #[((lk M y).map ev).getD z, .int .i64 (st : Nat)])) w1) : if Region.wanted o (yielded ops a.tmps) = true then Oper.wp P o a w KK Q else E := by
  obtain ⟨w1, st, h1, h2, h3⟩ := h.entry K ht hz y
  exact step_run hg (by rw [goInt_eq] at h1; simp [execOp, hop, hm, hx, h1, Result.andThen]) (hK w1 st h2 h3)
theorem step_entryStore (hg : o.guard = none) (m s x : Operand) (t : TypeId) (hop : o.op = .entryStore t m s x) {st : Nat} {y : κ} (h : EntryAt P t ek ev w b M y st) (v : ν) (hm : a.eval m = .map (some b)) (hs : a.eval s = .int .i64 (st : Nat)) (hx : a.eval x = ev v)
    (hK : ∀ w3, MapRep ek ev w3 b (put M y v) → Upd [b] w w3 → KK (a.put o.dst undef) w3) : if Region.wanted o (yielded ops a.tmps) = true then Oper.wp P o a w KK Q else E := by
  obtain ⟨o2, h1, h2⟩ := h
  obtain ⟨w3, h3, h4, h5⟩ := h2 w v h1
  exact step_run_skip hg (by simp only [goInt_eq] at h3; simp [execOp, hop, hm, hs, hx, h3, Result.andThen]) (hK w3 h4 h5)
theorem step_lookup_rep (hg : o.guard = none) (m x : Operand) (t et : TypeId) (c : Bool) (hop : o.op = .lookup t m x c) (K : KeyOps P kt ek) (ht : P.underlying t = some (.map kt et)) {z : Value} (hz : ∀ w, (zeroValue et).run P w = .ok z w)
    (h : MapRep ek ev w b M) (y : κ) (hm : a.eval m = .map (some b)) (hx : a.eval x = ek y)
    (hK : KK (a.put o.dst (if c then .tuple #[((lk M y).map ev).getD z, .bool (lk M y).isSome] else ((lk M y).map ev).getD z)) w) : if Region.wanted o (yielded ops a.tmps) = true then Oper.wp P o a w KK Q else E :=
  step_run hg (by simp [execOp, hop, hm, hx, h.lookup_any K ht hz y c, Result.andThen]) hK
end
end Go.Slu
