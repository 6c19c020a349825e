/-
  sluicelaw14: mark; apart, the writing of the marks.
-/
import Derived.Test.YtcdmdpgfadopcaaLedger5
import Derived.Test.YtcdmdpgfadopcaaApart
namespace Go.Proofs.Ytcdmdpgfadopcaa
open Go.Slu Go.MapKept Go.RowKit Go.Sort

def mkN (i j : Nat) : Int := -1099511627776 - (10000 * (i : Int) + j)
theorem mark_any (i j : Nat) (hi : i ≤ 200) (hj : j ≤ 1000001) (w : World) : Calls Try.prog 103 #[.int .i64 i, .int .i64 j] w fun e w' => e = .returned (.int .i64 (mkN i j)) ∧ w = w' := by
  have h1 : wrap64 (10000 * (i : Int)) = 10000 * (i : Int) := IntWalk.wrap64_in _ (by omega)
  have h2 : wrap64 (10000 * (i : Int) + j) = 10000 * (i : Int) + j := IntWalk.wrap64_in _ (by omega)
  have h3 : wrap64 (-1099511627776 - (10000 * (i : Int) + j)) = -1099511627776 - (10000 * (i : Int) + j) := IntWalk.wrap64_in _ (by omega)
  go_enter Try.func103, Try.ntmps103
  go_wp2_with fail
  go_ret
  exact ⟨rfl, rfl⟩
/-- a marked change, a marked stamp -/
def mkCh (i j : Nat) : StampK × Int := (⟨0, default, by omega⟩, mkN i j)
def mkSt (i j : Nat) : StampK := if h : i ≤ 1000000 ∧ j ≤ 100000000 then ⟨mkN i j, default, by unfold mkN; omega⟩ else ⟨0, default, by omega⟩
theorem eeCh_mk (i j : Nat) : eeCh (mkCh i j) = [.int .i64 0, .int .u64 0, .int .u64 0, .int .u64 0, .int .i64 (mkN i j)] := rfl
theorem eeM_mk {i j : Nat} (h : i ≤ 1000000 ∧ j ≤ 100000000) : eeM (mkSt i j) = [.int .i64 (mkN i j), .int .u64 0, .int .u64 0, .int .u64 0] := by
  simp only [eeM, mkSt, h, and_self, dite_true]
  rfl
end Go.Proofs.Ytcdmdpgfadopcaa
