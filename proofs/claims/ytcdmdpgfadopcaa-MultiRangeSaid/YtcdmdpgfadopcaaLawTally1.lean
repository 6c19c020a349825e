/-
  sluicelaw04: the order functions, made, third.
-/
import Derived.Test.YtcdmdpgfadopcaaRefTally6
namespace Go.Proofs.Ytcdmdpgfadopcaa
open Go.Slu Go.MapKept Go.RowKit Go.Sort

theorem ord_any (k : Int) (F : Nat) (hF : ∀ (a b : Str) (w : World), Calls Try.prog F #[ekS a, ekS b] w fun e w' => e = .returned (.int .i64 (cfO k a b)) ∧ Grew w w') (he : ∀ args w, (callFunc F args).run Try.prog w = .ok (.enter F args) w) : OrdOk Try.prog F ekS (cfO k) where
  enters := he
  pays W x y := hF x y W
  swo := cfO_swo k
  tot := cfO_tot k

theorem order0_any (a b : Str) (w : World) : Calls Try.prog 75 #[ekS a, ekS b] w fun e w' => e = .returned (.int .i64 (cfO 0 a b)) ∧ Grew w w' := by
  have ho := fun W => order_any 0 a b 0 0 W
  change ∀ W, Calls _ _ _ W fun e w' => e = .returned (.int .i64 (cfO 0 a b)) ∧ _ at ho
  go_enter Try.func75, Try.ntmps75
  have hg := Grew.refl w
  go_wp2_with (first
    | (go_at_call 78; refine (text_any _ _).mono ?_; rintro e w1 ⟨rfl, hg1⟩; replace hg := hg.trans hg1)
    | (go_at_call 83; refine (ho _).mono ?_; rintro e w3 ⟨rfl, hg3⟩))
  go_ret
  exact ⟨rfl, hg.trans hg3⟩
theorem order1_any (a b : Str) (w : World) : Calls Try.prog 76 #[ekS a, ekS b] w fun e w' => e = .returned (.int .i64 (cfO 1 a b)) ∧ Grew w w' := by
  have ho := fun W => order_any 1 a b 0 0 W
  change ∀ W, Calls _ _ _ W fun e w' => e = .returned (.int .i64 (cfO 1 a b)) ∧ _ at ho
  go_enter Try.func76, Try.ntmps76
  have hg := Grew.refl w
  go_wp2_with (first
    | (go_at_call 78; refine (text_any _ _).mono ?_; rintro e w1 ⟨rfl, hg1⟩; replace hg := hg.trans hg1)
    | (go_at_call 83; refine (ho _).mono ?_; rintro e w3 ⟨rfl, hg3⟩))
  go_ret
  exact ⟨rfl, hg.trans hg3⟩
theorem order2_any (a b : Str) (w : World) : Calls Try.prog 77 #[ekS a, ekS b] w fun e w' => e = .returned (.int .i64 (cfO 2 a b)) ∧ Grew w w' := by
  have ho := fun W => order_any 2 a b 0 0 W
  change ∀ W, Calls _ _ _ W fun e w' => e = .returned (.int .i64 (cfO 2 a b)) ∧ _ at ho
  go_enter Try.func77, Try.ntmps77
  have hg := Grew.refl w
  go_wp2_with (first
    | (go_at_call 78; refine (text_any _ _).mono ?_; rintro e w1 ⟨rfl, hg1⟩; replace hg := hg.trans hg1)
    | (go_at_call 83; refine (ho _).mono ?_; rintro e w3 ⟨rfl, hg3⟩))
  go_ret
  exact ⟨rfl, hg.trans hg3⟩

theorem enters0 (args : Array Value) (w : World) : (callFunc 75 args).run Try.prog w = .ok (.enter 75 args) w := by kernel_rfl
theorem enters1 (args : Array Value) (w : World) : (callFunc 76 args).run Try.prog w = .ok (.enter 76 args) w := by kernel_rfl
theorem enters2 (args : Array Value) (w : World) : (callFunc 77 args).run Try.prog w = .ok (.enter 77 args) w := by kernel_rfl

/-- the order function of a kind -/
def gOf (k : Int) : Nat := if k = 0 then 75 else if k = 1 then 76 else 77
/-- the kinds that are used -/
def kOk (k : Int) : Prop := k = 0 ∨ k = 1 ∨ k = 2
theorem ordOk_of (k : Int) (h : kOk k) : OrdOk Try.prog (gOf k) ekS (cfO k) := by
  rcases h with rfl | rfl | rfl
  · exact ord_any 0 _ order0_any enters0
  · exact ord_any 1 _ order1_any enters1
  · exact ord_any 2 _ order2_any enters2

def MadeT (k : Int) (w : World) (e : Ending) (w' : World) : Prop :=
  ∃ tb mb, e = .returned (.pointer (some ⟨tb, 0, none⟩)) ∧ TallyS w' tb mb (gOf k) [] ∧ w.heap.size ≤ tb ∧ w.heap.size ≤ mb ∧ Upd [] w w'
theorem made_any (k : Int) (h : kOk k) (w : World) : Calls Try.prog 14 #[.int .i64 k] w (MadeT k w) := by
  rcases h with rfl | rfl | rfl
  all_goals (go_enter Try.func14, Try.ntmps14)
  all_goals (go_wp2_with (go_at_call 74; refine (newS _ _).mono ?_; rintro e w1 ⟨rfl, ht, hu⟩))
  all_goals go_ret
  all_goals exact ⟨_, _, rfl, ht, by omega, Nat.le_refl _, hu⟩

theorem third_any (n : Int) (h0 : -9223372036854775808 ≤ n) (h1 : n ≤ 9223372036854775807) (w : World) : Calls Try.prog 16 #[.int .i64 n] w fun e w' => ∃ i : Nat, i < 3 ∧ e = .returned (.int .i64 i) ∧ w = w' := by
  have t1 : -3 < n.tmod 3 := Int.lt_tmod_of_pos n (by omega)
  have t2 : n.tmod 3 < 3 := Int.tmod_lt_of_pos n (by omega)
  have e1 : IntKind.i64.wrap (n.tmod 3 + 3) = n.tmod 3 + 3 := IntWalk.i64_in _ (by omega)
  have t3 : 0 ≤ (n.tmod 3 + 3) % 3 := by omega
  have t4 : (n.tmod 3 + 3) % 3 < 3 := by omega
  go_enter Try.func16, Try.ntmps16
  go_wp2
  go_ret
  exact ⟨((n.tmod 3 + 3) % 3).toNat, by omega, by rw [Int.toNat_of_nonneg t3]; rfl, rfl⟩
end Go.Proofs.Ytcdmdpgfadopcaa
