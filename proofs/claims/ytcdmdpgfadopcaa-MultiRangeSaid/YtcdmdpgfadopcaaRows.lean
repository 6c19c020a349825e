/-
  No cell of these rows narrows 'for every input' (looked for: loops, veiled, ifaces, maps, wideKeys, modest, calm, conditions, laid).
  DERIVED. THE GIVEN ROWS OF THIS SEAT. 11 by the template 'for every input the law returns true; each argument reads behind the call as it read before'; 0 by the template 'total and deterministic' (their statements: YtcdmdpgfadopcaaTotals.lean).
  GIVEN WITH THE SEED: the statements are not yours to turn. If you find one false, say at which input.
  Laid BY PROGRAM, IN A SANDBOX (cutbox-rows.mjs): the forced cells as the released guide's own fill.sh prints them over the translation e9fefba0ffc12504… (all of the seat's roots in one cut). By AI agents, Wed Nov 11 2026. No macro, syntax, notation, axiom, sorry.
-/
import Derived.Test.YtcdmdpgfadopcaaChecked
import GoSem.Claim
import GoSem.ClaimJoined
import GoSem.ClaimMapViews
import Derived.JoinedTies
import Derived.KernelRfl
namespace Go.Proofs.Ytcdmdpgfadopcaa
/- THE CELL 'sum', in the pinned program and in every row, IS THE sha256 OF THE DUMP (.gsa) THAT YtcdmdpgfadopcaaProg.lean LOADS. Nothing in Lean hashes anything: it is a label: what it is worth is what the hold of that sum in a sandbox is worth. -/
noncomputable def Try.pinned : Pinned := { name := "ytcdmdpgfadopcaa", sum := "e9fefba0ffc125048fd5ee5f44b45e063e903323b344f26b734fd941e9881e8c", checked := Try.checked }
namespace Rows
def none {H : Type} : Left H := { results := [], args := [] }

/-- 'sluicelaw04.TallyPlays': WHATEVER THE INPUT: true; the input reads as it did. -/
def tallyPlaysSpec : ChangeSpec := { name := "tallyPlays", fn := fun _ => fun
  | [d] => { results := [.lit (.bool true)], args := [d] }
  | _ => none }
def tallyPlaysRow : OpenClaim := { program := "ytcdmdpgfadopcaa", sum := "e9fefba0ffc125048fd5ee5f44b45e063e903323b344f26b734fd941e9881e8c", func := "sluice/sluicelaw04.TallyPlays", spec := "tallyPlays", inPlace := ["maps.clone"], unfollowed := true, recurses := true, plainKeys := false, apart := false }
def TallyPlaysSaid : Prop := tallyPlaysRow.holds Try.pinned (OpenSpec.ofChange tallyPlaysSpec)

/-- ITS FALSE NEIGHBOUR: 'it returns false'. Refute it at one input. -/
def tallyPlaysWrong : ChangeSpec := { name := "tallyPlays", fn := fun _ => fun
  | [d] => { results := [.lit (.bool false)], args := [d] }
  | _ => none }
def TallyPlaysWrongFalsely : Prop := tallyPlaysRow.holds Try.pinned (OpenSpec.ofChange tallyPlaysWrong)

/-- 'sluicelaw04.TallyAnything': WHATEVER THE INPUT: true; the input reads as it did. -/
def tallyAnythingSpec : ChangeSpec := { name := "tallyAnything", fn := fun _ => fun
  | [d] => { results := [.lit (.bool true)], args := [d] }
  | _ => none }
def tallyAnythingRow : OpenClaim := { program := "ytcdmdpgfadopcaa", sum := "e9fefba0ffc125048fd5ee5f44b45e063e903323b344f26b734fd941e9881e8c", func := "sluice/sluicelaw04.TallyAnything", spec := "tallyAnything", inPlace := ["maps.clone"], unfollowed := true, recurses := true, plainKeys := false, apart := false }
def TallyAnythingSaid : Prop := tallyAnythingRow.holds Try.pinned (OpenSpec.ofChange tallyAnythingSpec)

/-- ITS FALSE NEIGHBOUR: 'it returns false'. Refute it at one input. -/
def tallyAnythingWrong : ChangeSpec := { name := "tallyAnything", fn := fun _ => fun
  | [d] => { results := [.lit (.bool false)], args := [d] }
  | _ => none }
def TallyAnythingWrongFalsely : Prop := tallyAnythingRow.holds Try.pinned (OpenSpec.ofChange tallyAnythingWrong)

/-- 'sluicelaw04.TallyKeeps': WHATEVER THE INPUT: true; the input reads as it did. -/
def tallyKeepsSpec : ChangeSpec := { name := "tallyKeeps", fn := fun _ => fun
  | [d1, d2] => { results := [.lit (.bool true)], args := [d1, d2] }
  | _ => none }
def tallyKeepsRow : OpenClaim := { program := "ytcdmdpgfadopcaa", sum := "e9fefba0ffc125048fd5ee5f44b45e063e903323b344f26b734fd941e9881e8c", func := "sluice/sluicelaw04.TallyKeeps", spec := "tallyKeeps", inPlace := ["maps.clone"], unfollowed := true, recurses := true, plainKeys := false, apart := false }
def TallyKeepsSaid : Prop := tallyKeepsRow.holds Try.pinned (OpenSpec.ofChange tallyKeepsSpec)

/-- ITS FALSE NEIGHBOUR: 'it returns false'. Refute it at one input. -/
def tallyKeepsWrong : ChangeSpec := { name := "tallyKeeps", fn := fun _ => fun
  | [d1, d2] => { results := [.lit (.bool false)], args := [d1, d2] }
  | _ => none }
def TallyKeepsWrongFalsely : Prop := tallyKeepsRow.holds Try.pinned (OpenSpec.ofChange tallyKeepsWrong)

/-- 'sluicelaw04.TallyAdds': WHATEVER THE INPUT: true; the input reads as it did. -/
def tallyAddsSpec : ChangeSpec := { name := "tallyAdds", fn := fun _ => fun
  | [d1, d2] => { results := [.lit (.bool true)], args := [d1, d2] }
  | _ => none }
def tallyAddsRow : OpenClaim := { program := "ytcdmdpgfadopcaa", sum := "e9fefba0ffc125048fd5ee5f44b45e063e903323b344f26b734fd941e9881e8c", func := "sluice/sluicelaw04.TallyAdds", spec := "tallyAdds", inPlace := ["maps.clone"], unfollowed := true, recurses := true, plainKeys := false, apart := false }
def TallyAddsSaid : Prop := tallyAddsRow.holds Try.pinned (OpenSpec.ofChange tallyAddsSpec)

/-- ITS FALSE NEIGHBOUR: 'it returns false'. Refute it at one input. -/
def tallyAddsWrong : ChangeSpec := { name := "tallyAdds", fn := fun _ => fun
  | [d1, d2] => { results := [.lit (.bool false)], args := [d1, d2] }
  | _ => none }
def TallyAddsWrongFalsely : Prop := tallyAddsRow.holds Try.pinned (OpenSpec.ofChange tallyAddsWrong)

/-- 'sluicelaw14.LedgerLikes': WHATEVER THE INPUT: true; the input reads as it did. -/
def ledgerLikesSpec : ChangeSpec := { name := "ledgerLikes", fn := fun _ => fun
  | [d] => { results := [.lit (.bool true)], args := [d] }
  | _ => none }
def ledgerLikesRow : OpenClaim := { program := "ytcdmdpgfadopcaa", sum := "e9fefba0ffc125048fd5ee5f44b45e063e903323b344f26b734fd941e9881e8c", func := "sluice/sluicelaw14.LedgerLikes", spec := "ledgerLikes", unfollowed := true, recurses := true, plainKeys := false, apart := false }
def LedgerLikesSaid : Prop := ledgerLikesRow.holds Try.pinned (OpenSpec.ofChange ledgerLikesSpec)

/-- ITS FALSE NEIGHBOUR: 'it returns false'. Refute it at one input. -/
def ledgerLikesWrong : ChangeSpec := { name := "ledgerLikes", fn := fun _ => fun
  | [d] => { results := [.lit (.bool false)], args := [d] }
  | _ => none }
def LedgerLikesWrongFalsely : Prop := ledgerLikesRow.holds Try.pinned (OpenSpec.ofChange ledgerLikesWrong)

/-- 'sluicelaw14.LedgerPlays': WHATEVER THE INPUT: true; the input reads as it did. -/
def ledgerPlaysSpec : ChangeSpec := { name := "ledgerPlays", fn := fun _ => fun
  | [d] => { results := [.lit (.bool true)], args := [d] }
  | _ => none }
def ledgerPlaysRow : OpenClaim := { program := "ytcdmdpgfadopcaa", sum := "e9fefba0ffc125048fd5ee5f44b45e063e903323b344f26b734fd941e9881e8c", func := "sluice/sluicelaw14.LedgerPlays", spec := "ledgerPlays", inPlace := ["maps.clone"], unfollowed := true, recurses := true, plainKeys := false, apart := false }
def LedgerPlaysSaid : Prop := ledgerPlaysRow.holds Try.pinned (OpenSpec.ofChange ledgerPlaysSpec)

/-- ITS FALSE NEIGHBOUR: 'it returns false'. Refute it at one input. -/
def ledgerPlaysWrong : ChangeSpec := { name := "ledgerPlays", fn := fun _ => fun
  | [d] => { results := [.lit (.bool false)], args := [d] }
  | _ => none }
def LedgerPlaysWrongFalsely : Prop := ledgerPlaysRow.holds Try.pinned (OpenSpec.ofChange ledgerPlaysWrong)

/-- 'sluicelaw14.LedgerKeeps': WHATEVER THE INPUT: true; the input reads as it did. -/
def ledgerKeepsSpec : ChangeSpec := { name := "ledgerKeeps", fn := fun _ => fun
  | [d1, d2] => { results := [.lit (.bool true)], args := [d1, d2] }
  | _ => none }
def ledgerKeepsRow : OpenClaim := { program := "ytcdmdpgfadopcaa", sum := "e9fefba0ffc125048fd5ee5f44b45e063e903323b344f26b734fd941e9881e8c", func := "sluice/sluicelaw14.LedgerKeeps", spec := "ledgerKeeps", inPlace := ["maps.clone"], unfollowed := true, recurses := true, plainKeys := false, apart := false }
def LedgerKeepsSaid : Prop := ledgerKeepsRow.holds Try.pinned (OpenSpec.ofChange ledgerKeepsSpec)

/-- ITS FALSE NEIGHBOUR: 'it returns false'. Refute it at one input. -/
def ledgerKeepsWrong : ChangeSpec := { name := "ledgerKeeps", fn := fun _ => fun
  | [d1, d2] => { results := [.lit (.bool false)], args := [d1, d2] }
  | _ => none }
def LedgerKeepsWrongFalsely : Prop := ledgerKeepsRow.holds Try.pinned (OpenSpec.ofChange ledgerKeepsWrong)

/-- 'sluicelaw05.MultiTells': WHATEVER THE INPUT: true; the input reads as it did. -/
def multiTellsSpec : ChangeSpec := { name := "multiTells", fn := fun _ => fun
  | [d] => { results := [.lit (.bool true)], args := [d] }
  | _ => none }
def multiTellsRow : OpenClaim := { program := "ytcdmdpgfadopcaa", sum := "e9fefba0ffc125048fd5ee5f44b45e063e903323b344f26b734fd941e9881e8c", func := "sluice/sluicelaw05.MultiTells", spec := "multiTells", inPlace := ["maps.clone"], unfollowed := true, recurses := true, plainKeys := false, apart := false }
def MultiTellsSaid : Prop := multiTellsRow.holds Try.pinned (OpenSpec.ofChange multiTellsSpec)

/-- ITS FALSE NEIGHBOUR: 'it returns false'. Refute it at one input. -/
def multiTellsWrong : ChangeSpec := { name := "multiTells", fn := fun _ => fun
  | [d] => { results := [.lit (.bool false)], args := [d] }
  | _ => none }
def MultiTellsWrongFalsely : Prop := multiTellsRow.holds Try.pinned (OpenSpec.ofChange multiTellsWrong)

/-- 'sluicelaw05.MultiSplit': WHATEVER THE INPUT: true; the input reads as it did. -/
def multiSplitSpec : ChangeSpec := { name := "multiSplit", fn := fun _ => fun
  | [d] => { results := [.lit (.bool true)], args := [d] }
  | _ => none }
def multiSplitRow : OpenClaim := { program := "ytcdmdpgfadopcaa", sum := "e9fefba0ffc125048fd5ee5f44b45e063e903323b344f26b734fd941e9881e8c", func := "sluice/sluicelaw05.MultiSplit", spec := "multiSplit", inPlace := ["maps.clone"], unfollowed := true, recurses := true, plainKeys := false, apart := false }
def MultiSplitSaid : Prop := multiSplitRow.holds Try.pinned (OpenSpec.ofChange multiSplitSpec)

/-- ITS FALSE NEIGHBOUR: 'it returns false'. Refute it at one input. -/
def multiSplitWrong : ChangeSpec := { name := "multiSplit", fn := fun _ => fun
  | [d] => { results := [.lit (.bool false)], args := [d] }
  | _ => none }
def MultiSplitWrongFalsely : Prop := multiSplitRow.holds Try.pinned (OpenSpec.ofChange multiSplitWrong)

/-- 'sluicelaw05.MultiFronts': WHATEVER THE INPUT: true; the input reads as it did. -/
def multiFrontsSpec : ChangeSpec := { name := "multiFronts", fn := fun _ => fun
  | [d1, d2] => { results := [.lit (.bool true)], args := [d1, d2] }
  | _ => none }
def multiFrontsRow : OpenClaim := { program := "ytcdmdpgfadopcaa", sum := "e9fefba0ffc125048fd5ee5f44b45e063e903323b344f26b734fd941e9881e8c", func := "sluice/sluicelaw05.MultiFronts", spec := "multiFronts", inPlace := ["maps.clone"], unfollowed := true, recurses := true, plainKeys := false, apart := false }
def MultiFrontsSaid : Prop := multiFrontsRow.holds Try.pinned (OpenSpec.ofChange multiFrontsSpec)

/-- ITS FALSE NEIGHBOUR: 'it returns false'. Refute it at one input. -/
def multiFrontsWrong : ChangeSpec := { name := "multiFronts", fn := fun _ => fun
  | [d1, d2] => { results := [.lit (.bool false)], args := [d1, d2] }
  | _ => none }
def MultiFrontsWrongFalsely : Prop := multiFrontsRow.holds Try.pinned (OpenSpec.ofChange multiFrontsWrong)

/-- 'sluicelaw05.MultiRange': WHATEVER THE INPUT: true; the input reads as it did. -/
def multiRangeSpec : ChangeSpec := { name := "multiRange", fn := fun _ => fun
  | [d1, d2, d3] => { results := [.lit (.bool true)], args := [d1, d2, d3] }
  | _ => none }
def multiRangeRow : OpenClaim := { program := "ytcdmdpgfadopcaa", sum := "e9fefba0ffc125048fd5ee5f44b45e063e903323b344f26b734fd941e9881e8c", func := "sluice/sluicelaw05.MultiRange", spec := "multiRange", inPlace := ["maps.clone"], unfollowed := true, recurses := true, plainKeys := false, apart := false }
def MultiRangeSaid : Prop := multiRangeRow.holds Try.pinned (OpenSpec.ofChange multiRangeSpec)

/-- ITS FALSE NEIGHBOUR: 'it returns false'. Refute it at one input. -/
def multiRangeWrong : ChangeSpec := { name := "multiRange", fn := fun _ => fun
  | [d1, d2, d3] => { results := [.lit (.bool false)], args := [d1, d2, d3] }
  | _ => none }
def MultiRangeWrongFalsely : Prop := multiRangeRow.holds Try.pinned (OpenSpec.ofChange multiRangeWrong)

/- THE SECOND FORM. 'bulk': how many values and letters a reading holds, each counted each time it is reached (what is shared counts as often as it is met; a slice's spare places count too). A statement '..UptoSaid' is the law's where the arguments, and the package variables that the reading takes, are together of bulk at most 1048576: NARROWER than '..Said'. Prove '..Said' where nothing that the law and all that it calls make is longer than what came in: it says more and counts as full. Else prove '..UptoSaid'. A law counts once. -/
mutual
def uptoBulk {H : Type} : DataW H → Nat
  | .lit (.string bytes) => bytes.length + 1
  | .lit _ => 1
  | .nil => 1
  | .ptr d => uptoBulk d + 1
  | .slice elems spare => uptoBulkAll elems + uptoBulkAll spare + 1
  | .agg parts => uptoBulkAll parts + 1
  | .iface _ d => uptoBulk d + 1
  | .map entries => uptoBulkEntries entries + 1
  | .held _ => 1
def uptoBulkAll {H : Type} : List (DataW H) → Nat
  | [] => 0
  | d :: r => uptoBulk d + uptoBulkAll r
def uptoBulkEntries {H : Type} : List (Lit × DataW H) → Nat
  | [] => 0
  | x :: r => uptoBulkEntry x + uptoBulkEntries r
def uptoBulkEntry {H : Type} : Lit × DataW H → Nat
  | (.string bytes, d) => bytes.length + uptoBulk d + 1
  | (_, d) => uptoBulk d + 1
 end
def uptoSmall : (H : Type) → List (DataW H) → Bool := fun _ ds => decide (uptoBulkAll ds ≤ 1048576)
def OpenSpec.upto (s : _root_.Go.ChangeSpec) : _root_.Go.OpenSpec := { _root_.Go.OpenSpec.ofChange s with cond := some uptoSmall }

/-- 'sluicelaw04.TallyPlays', WHERE WHAT IT READS IS OF BULK AT MOST 1048576: true; the input reads as it did. -/
def tallyPlaysUptoRow : OpenClaim := { program := "ytcdmdpgfadopcaa", sum := "e9fefba0ffc125048fd5ee5f44b45e063e903323b344f26b734fd941e9881e8c", func := "sluice/sluicelaw04.TallyPlays", spec := "tallyPlays", inPlace := ["maps.clone"], unfollowed := true, recurses := true, plainKeys := false, apart := false, narrowed := true }
def TallyPlaysUptoSaid : Prop := tallyPlaysUptoRow.holds Try.pinned (OpenSpec.upto tallyPlaysSpec)

/-- 'sluicelaw04.TallyAnything', WHERE WHAT IT READS IS OF BULK AT MOST 1048576: true; the input reads as it did. -/
def tallyAnythingUptoRow : OpenClaim := { program := "ytcdmdpgfadopcaa", sum := "e9fefba0ffc125048fd5ee5f44b45e063e903323b344f26b734fd941e9881e8c", func := "sluice/sluicelaw04.TallyAnything", spec := "tallyAnything", inPlace := ["maps.clone"], unfollowed := true, recurses := true, plainKeys := false, apart := false, narrowed := true }
def TallyAnythingUptoSaid : Prop := tallyAnythingUptoRow.holds Try.pinned (OpenSpec.upto tallyAnythingSpec)

/-- 'sluicelaw04.TallyKeeps', WHERE WHAT IT READS IS OF BULK AT MOST 1048576: true; the input reads as it did. -/
def tallyKeepsUptoRow : OpenClaim := { program := "ytcdmdpgfadopcaa", sum := "e9fefba0ffc125048fd5ee5f44b45e063e903323b344f26b734fd941e9881e8c", func := "sluice/sluicelaw04.TallyKeeps", spec := "tallyKeeps", inPlace := ["maps.clone"], unfollowed := true, recurses := true, plainKeys := false, apart := false, narrowed := true }
def TallyKeepsUptoSaid : Prop := tallyKeepsUptoRow.holds Try.pinned (OpenSpec.upto tallyKeepsSpec)

/-- 'sluicelaw04.TallyAdds', WHERE WHAT IT READS IS OF BULK AT MOST 1048576: true; the input reads as it did. -/
def tallyAddsUptoRow : OpenClaim := { program := "ytcdmdpgfadopcaa", sum := "e9fefba0ffc125048fd5ee5f44b45e063e903323b344f26b734fd941e9881e8c", func := "sluice/sluicelaw04.TallyAdds", spec := "tallyAdds", inPlace := ["maps.clone"], unfollowed := true, recurses := true, plainKeys := false, apart := false, narrowed := true }
def TallyAddsUptoSaid : Prop := tallyAddsUptoRow.holds Try.pinned (OpenSpec.upto tallyAddsSpec)

/-- 'sluicelaw14.LedgerLikes', WHERE WHAT IT READS IS OF BULK AT MOST 1048576: true; the input reads as it did. -/
def ledgerLikesUptoRow : OpenClaim := { program := "ytcdmdpgfadopcaa", sum := "e9fefba0ffc125048fd5ee5f44b45e063e903323b344f26b734fd941e9881e8c", func := "sluice/sluicelaw14.LedgerLikes", spec := "ledgerLikes", unfollowed := true, recurses := true, plainKeys := false, apart := false, narrowed := true }
def LedgerLikesUptoSaid : Prop := ledgerLikesUptoRow.holds Try.pinned (OpenSpec.upto ledgerLikesSpec)

/-- 'sluicelaw14.LedgerPlays', WHERE WHAT IT READS IS OF BULK AT MOST 1048576: true; the input reads as it did. -/
def ledgerPlaysUptoRow : OpenClaim := { program := "ytcdmdpgfadopcaa", sum := "e9fefba0ffc125048fd5ee5f44b45e063e903323b344f26b734fd941e9881e8c", func := "sluice/sluicelaw14.LedgerPlays", spec := "ledgerPlays", inPlace := ["maps.clone"], unfollowed := true, recurses := true, plainKeys := false, apart := false, narrowed := true }
def LedgerPlaysUptoSaid : Prop := ledgerPlaysUptoRow.holds Try.pinned (OpenSpec.upto ledgerPlaysSpec)

/-- 'sluicelaw14.LedgerKeeps', WHERE WHAT IT READS IS OF BULK AT MOST 1048576: true; the input reads as it did. -/
def ledgerKeepsUptoRow : OpenClaim := { program := "ytcdmdpgfadopcaa", sum := "e9fefba0ffc125048fd5ee5f44b45e063e903323b344f26b734fd941e9881e8c", func := "sluice/sluicelaw14.LedgerKeeps", spec := "ledgerKeeps", inPlace := ["maps.clone"], unfollowed := true, recurses := true, plainKeys := false, apart := false, narrowed := true }
def LedgerKeepsUptoSaid : Prop := ledgerKeepsUptoRow.holds Try.pinned (OpenSpec.upto ledgerKeepsSpec)

/-- 'sluicelaw05.MultiTells', WHERE WHAT IT READS IS OF BULK AT MOST 1048576: true; the input reads as it did. -/
def multiTellsUptoRow : OpenClaim := { program := "ytcdmdpgfadopcaa", sum := "e9fefba0ffc125048fd5ee5f44b45e063e903323b344f26b734fd941e9881e8c", func := "sluice/sluicelaw05.MultiTells", spec := "multiTells", inPlace := ["maps.clone"], unfollowed := true, recurses := true, plainKeys := false, apart := false, narrowed := true }
def MultiTellsUptoSaid : Prop := multiTellsUptoRow.holds Try.pinned (OpenSpec.upto multiTellsSpec)

/-- 'sluicelaw05.MultiSplit', WHERE WHAT IT READS IS OF BULK AT MOST 1048576: true; the input reads as it did. -/
def multiSplitUptoRow : OpenClaim := { program := "ytcdmdpgfadopcaa", sum := "e9fefba0ffc125048fd5ee5f44b45e063e903323b344f26b734fd941e9881e8c", func := "sluice/sluicelaw05.MultiSplit", spec := "multiSplit", inPlace := ["maps.clone"], unfollowed := true, recurses := true, plainKeys := false, apart := false, narrowed := true }
def MultiSplitUptoSaid : Prop := multiSplitUptoRow.holds Try.pinned (OpenSpec.upto multiSplitSpec)

/-- 'sluicelaw05.MultiFronts', WHERE WHAT IT READS IS OF BULK AT MOST 1048576: true; the input reads as it did. -/
def multiFrontsUptoRow : OpenClaim := { program := "ytcdmdpgfadopcaa", sum := "e9fefba0ffc125048fd5ee5f44b45e063e903323b344f26b734fd941e9881e8c", func := "sluice/sluicelaw05.MultiFronts", spec := "multiFronts", inPlace := ["maps.clone"], unfollowed := true, recurses := true, plainKeys := false, apart := false, narrowed := true }
def MultiFrontsUptoSaid : Prop := multiFrontsUptoRow.holds Try.pinned (OpenSpec.upto multiFrontsSpec)

/-- 'sluicelaw05.MultiRange', WHERE WHAT IT READS IS OF BULK AT MOST 1048576: true; the input reads as it did. -/
def multiRangeUptoRow : OpenClaim := { program := "ytcdmdpgfadopcaa", sum := "e9fefba0ffc125048fd5ee5f44b45e063e903323b344f26b734fd941e9881e8c", func := "sluice/sluicelaw05.MultiRange", spec := "multiRange", inPlace := ["maps.clone"], unfollowed := true, recurses := true, plainKeys := false, apart := false, narrowed := true }
def MultiRangeUptoSaid : Prop := multiRangeUptoRow.holds Try.pinned (OpenSpec.upto multiRangeSpec)

end Rows
end Go.Proofs.Ytcdmdpgfadopcaa
