/-
  No cell of these rows narrows 'for every input' (looked for: loops, veiled, ifaces, maps, wideKeys, modest, calm, conditions, laid).
  DERIVED. THE GIVEN ROWS OF THIS SEAT. 11 by the template 'for every input the law returns true; each argument reads behind the call as it read before'; 0 by the template 'total and deterministic' (their statements: YtepiapgcpoifpaaTotals.lean).
  GIVEN WITH THE SEED: the statements are not yours to turn. If you find one false, say at which input.
  Laid BY PROGRAM, IN A SANDBOX (cutbox-rows.mjs): the forced cells as the released guide's own fill.sh prints them over the translation fd1019bdde044675… (all of the seat's roots in one cut). By AI agents, Wed Nov 11 2026. No macro, syntax, notation, axiom, sorry.
-/
import Derived.Test.YtepiapgcpoifpaaChecked
import GoSem.Claim
import GoSem.ClaimJoined
import GoSem.ClaimMapViews
import Derived.JoinedTies
import Derived.KernelRfl
namespace Go.Proofs.Ytepiapgcpoifpaa
/- THE CELL 'sum', in the pinned program and in every row, IS THE sha256 OF THE DUMP (.gsa) THAT YtepiapgcpoifpaaProg.lean LOADS. Nothing in Lean hashes anything: it is a label: what it is worth is what the hold of that sum in a sandbox is worth. -/
noncomputable def Try.pinned : Pinned := { name := "ytepiapgcpoifpaa", sum := "fd1019bdde0446759dba555ab2d6b9200c5c6b3179382e309c922b2f30fca035", checked := Try.checked }
namespace Rows
def none {H : Type} : Left H := { results := [], args := [] }

/-- 'spokeshavelaw08.CuttingGreedy': WHATEVER THE INPUT: true; the input reads as it did. -/
def cuttingGreedySpec : ChangeSpec := { name := "cuttingGreedy", fn := fun _ => fun
  | [d] => { results := [.lit (.bool true)], args := [d] }
  | _ => none }
def cuttingGreedyRow : OpenClaim := { program := "ytepiapgcpoifpaa", sum := "fd1019bdde0446759dba555ab2d6b9200c5c6b3179382e309c922b2f30fca035", func := "spokeshave/spokeshavelaw08.CuttingGreedy", spec := "cuttingGreedy", unfollowed := true, recurses := true, apart := false }
def CuttingGreedySaid : Prop := cuttingGreedyRow.holds Try.pinned (OpenSpec.ofChange cuttingGreedySpec)

/-- ITS FALSE NEIGHBOUR: 'it returns false'. Refute it at one input. -/
def cuttingGreedyWrong : ChangeSpec := { name := "cuttingGreedy", fn := fun _ => fun
  | [d] => { results := [.lit (.bool false)], args := [d] }
  | _ => none }
def CuttingGreedyWrongFalsely : Prop := cuttingGreedyRow.holds Try.pinned (OpenSpec.ofChange cuttingGreedyWrong)

/-- 'spokeshavelaw08.CuttingWeights': WHATEVER THE INPUT: true; the input reads as it did. -/
def cuttingWeightsSpec : ChangeSpec := { name := "cuttingWeights", fn := fun _ => fun
  | [d1, d2, d3] => { results := [.lit (.bool true)], args := [d1, d2, d3] }
  | _ => none }
def cuttingWeightsRow : OpenClaim := { program := "ytepiapgcpoifpaa", sum := "fd1019bdde0446759dba555ab2d6b9200c5c6b3179382e309c922b2f30fca035", func := "spokeshave/spokeshavelaw08.CuttingWeights", spec := "cuttingWeights", unfollowed := true, recurses := true, apart := false }
def CuttingWeightsSaid : Prop := cuttingWeightsRow.holds Try.pinned (OpenSpec.ofChange cuttingWeightsSpec)

/-- ITS FALSE NEIGHBOUR: 'it returns false'. Refute it at one input. -/
def cuttingWeightsWrong : ChangeSpec := { name := "cuttingWeights", fn := fun _ => fun
  | [d1, d2, d3] => { results := [.lit (.bool false)], args := [d1, d2, d3] }
  | _ => none }
def CuttingWeightsWrongFalsely : Prop := cuttingWeightsRow.holds Try.pinned (OpenSpec.ofChange cuttingWeightsWrong)

/-- 'spokeshavelaw08.CuttingJobs': WHATEVER THE INPUT: true; the input reads as it did. -/
def cuttingJobsSpec : ChangeSpec := { name := "cuttingJobs", fn := fun _ => fun
  | [d] => { results := [.lit (.bool true)], args := [d] }
  | _ => none }
def cuttingJobsRow : OpenClaim := { program := "ytepiapgcpoifpaa", sum := "fd1019bdde0446759dba555ab2d6b9200c5c6b3179382e309c922b2f30fca035", func := "spokeshave/spokeshavelaw08.CuttingJobs", spec := "cuttingJobs", unfollowed := true, recurses := true, apart := false }
def CuttingJobsSaid : Prop := cuttingJobsRow.holds Try.pinned (OpenSpec.ofChange cuttingJobsSpec)

/-- ITS FALSE NEIGHBOUR: 'it returns false'. Refute it at one input. -/
def cuttingJobsWrong : ChangeSpec := { name := "cuttingJobs", fn := fun _ => fun
  | [d] => { results := [.lit (.bool false)], args := [d] }
  | _ => none }
def CuttingJobsWrongFalsely : Prop := cuttingJobsRow.holds Try.pinned (OpenSpec.ofChange cuttingJobsWrong)

/-- 'spokeshavelaw08.CuttingBarChecks': WHATEVER THE INPUT: true; the input reads as it did. -/
def cuttingBarChecksSpec : ChangeSpec := { name := "cuttingBarChecks", fn := fun _ => fun
  | [d1, d2] => { results := [.lit (.bool true)], args := [d1, d2] }
  | _ => none }
def cuttingBarChecksRow : OpenClaim := { program := "ytepiapgcpoifpaa", sum := "fd1019bdde0446759dba555ab2d6b9200c5c6b3179382e309c922b2f30fca035", func := "spokeshave/spokeshavelaw08.CuttingBarChecks", spec := "cuttingBarChecks", unfollowed := true, recurses := true, apart := false }
def CuttingBarChecksSaid : Prop := cuttingBarChecksRow.holds Try.pinned (OpenSpec.ofChange cuttingBarChecksSpec)

/-- ITS FALSE NEIGHBOUR: 'it returns false'. Refute it at one input. -/
def cuttingBarChecksWrong : ChangeSpec := { name := "cuttingBarChecks", fn := fun _ => fun
  | [d1, d2] => { results := [.lit (.bool false)], args := [d1, d2] }
  | _ => none }
def CuttingBarChecksWrongFalsely : Prop := cuttingBarChecksRow.holds Try.pinned (OpenSpec.ofChange cuttingBarChecksWrong)

/-- 'spokeshavelaw08.CuttingMatches': WHATEVER THE INPUT: true; the input reads as it did. -/
def cuttingMatchesSpec : ChangeSpec := { name := "cuttingMatches", fn := fun _ => fun
  | [d1, d2] => { results := [.lit (.bool true)], args := [d1, d2] }
  | _ => none }
def cuttingMatchesRow : OpenClaim := { program := "ytepiapgcpoifpaa", sum := "fd1019bdde0446759dba555ab2d6b9200c5c6b3179382e309c922b2f30fca035", func := "spokeshave/spokeshavelaw08.CuttingMatches", spec := "cuttingMatches", unfollowed := true, recurses := true, apart := false }
def CuttingMatchesSaid : Prop := cuttingMatchesRow.holds Try.pinned (OpenSpec.ofChange cuttingMatchesSpec)

/-- ITS FALSE NEIGHBOUR: 'it returns false'. Refute it at one input. -/
def cuttingMatchesWrong : ChangeSpec := { name := "cuttingMatches", fn := fun _ => fun
  | [d1, d2] => { results := [.lit (.bool false)], args := [d1, d2] }
  | _ => none }
def CuttingMatchesWrongFalsely : Prop := cuttingMatchesRow.holds Try.pinned (OpenSpec.ofChange cuttingMatchesWrong)

/-- 'spokeshavelaw08.CuttingLayouts': WHATEVER THE INPUT: true; the input reads as it did. -/
def cuttingLayoutsSpec : ChangeSpec := { name := "cuttingLayouts", fn := fun _ => fun
  | [d1, d2, d3] => { results := [.lit (.bool true)], args := [d1, d2, d3] }
  | _ => none }
def cuttingLayoutsRow : OpenClaim := { program := "ytepiapgcpoifpaa", sum := "fd1019bdde0446759dba555ab2d6b9200c5c6b3179382e309c922b2f30fca035", func := "spokeshave/spokeshavelaw08.CuttingLayouts", spec := "cuttingLayouts", unfollowed := true, recurses := true, apart := false }
def CuttingLayoutsSaid : Prop := cuttingLayoutsRow.holds Try.pinned (OpenSpec.ofChange cuttingLayoutsSpec)

/-- ITS FALSE NEIGHBOUR: 'it returns false'. Refute it at one input. -/
def cuttingLayoutsWrong : ChangeSpec := { name := "cuttingLayouts", fn := fun _ => fun
  | [d1, d2, d3] => { results := [.lit (.bool false)], args := [d1, d2, d3] }
  | _ => none }
def CuttingLayoutsWrongFalsely : Prop := cuttingLayoutsRow.holds Try.pinned (OpenSpec.ofChange cuttingLayoutsWrong)

/-- 'spokeshavelaw08.CuttingBars': WHATEVER THE INPUT: true; the input reads as it did. -/
def cuttingBarsSpec : ChangeSpec := { name := "cuttingBars", fn := fun _ => fun
  | [d] => { results := [.lit (.bool true)], args := [d] }
  | _ => none }
def cuttingBarsRow : OpenClaim := { program := "ytepiapgcpoifpaa", sum := "fd1019bdde0446759dba555ab2d6b9200c5c6b3179382e309c922b2f30fca035", func := "spokeshave/spokeshavelaw08.CuttingBars", spec := "cuttingBars", unfollowed := true, recurses := true, apart := false }
def CuttingBarsSaid : Prop := cuttingBarsRow.holds Try.pinned (OpenSpec.ofChange cuttingBarsSpec)

/-- ITS FALSE NEIGHBOUR: 'it returns false'. Refute it at one input. -/
def cuttingBarsWrong : ChangeSpec := { name := "cuttingBars", fn := fun _ => fun
  | [d] => { results := [.lit (.bool false)], args := [d] }
  | _ => none }
def CuttingBarsWrongFalsely : Prop := cuttingBarsRow.holds Try.pinned (OpenSpec.ofChange cuttingBarsWrong)

/-- 'spokeshavelaw08.CuttingLeaves': WHATEVER THE INPUT: true; the input reads as it did. -/
def cuttingLeavesSpec : ChangeSpec := { name := "cuttingLeaves", fn := fun _ => fun
  | [d1, d2, d3] => { results := [.lit (.bool true)], args := [d1, d2, d3] }
  | _ => none }
def cuttingLeavesRow : OpenClaim := { program := "ytepiapgcpoifpaa", sum := "fd1019bdde0446759dba555ab2d6b9200c5c6b3179382e309c922b2f30fca035", func := "spokeshave/spokeshavelaw08.CuttingLeaves", spec := "cuttingLeaves", unfollowed := true, recurses := true, apart := false }
def CuttingLeavesSaid : Prop := cuttingLeavesRow.holds Try.pinned (OpenSpec.ofChange cuttingLeavesSpec)

/-- ITS FALSE NEIGHBOUR: 'it returns false'. Refute it at one input. -/
def cuttingLeavesWrong : ChangeSpec := { name := "cuttingLeaves", fn := fun _ => fun
  | [d1, d2, d3] => { results := [.lit (.bool false)], args := [d1, d2, d3] }
  | _ => none }
def CuttingLeavesWrongFalsely : Prop := cuttingLeavesRow.holds Try.pinned (OpenSpec.ofChange cuttingLeavesWrong)

/-- 'spokeshavelaw08.CuttingSound': WHATEVER THE INPUT: true; the input reads as it did. -/
def cuttingSoundSpec : ChangeSpec := { name := "cuttingSound", fn := fun _ => fun
  | [d1, d2] => { results := [.lit (.bool true)], args := [d1, d2] }
  | _ => none }
def cuttingSoundRow : OpenClaim := { program := "ytepiapgcpoifpaa", sum := "fd1019bdde0446759dba555ab2d6b9200c5c6b3179382e309c922b2f30fca035", func := "spokeshave/spokeshavelaw08.CuttingSound", spec := "cuttingSound", unfollowed := true, recurses := true, apart := false }
def CuttingSoundSaid : Prop := cuttingSoundRow.holds Try.pinned (OpenSpec.ofChange cuttingSoundSpec)

/-- ITS FALSE NEIGHBOUR: 'it returns false'. Refute it at one input. -/
def cuttingSoundWrong : ChangeSpec := { name := "cuttingSound", fn := fun _ => fun
  | [d1, d2] => { results := [.lit (.bool false)], args := [d1, d2] }
  | _ => none }
def CuttingSoundWrongFalsely : Prop := cuttingSoundRow.holds Try.pinned (OpenSpec.ofChange cuttingSoundWrong)

/-- 'spokeshavelaw08.CuttingUnity': WHATEVER THE INPUT: true; the input reads as it did. -/
def cuttingUnitySpec : ChangeSpec := { name := "cuttingUnity", fn := fun _ => fun
  | [d1, d2, d3] => { results := [.lit (.bool true)], args := [d1, d2, d3] }
  | _ => none }
def cuttingUnityRow : OpenClaim := { program := "ytepiapgcpoifpaa", sum := "fd1019bdde0446759dba555ab2d6b9200c5c6b3179382e309c922b2f30fca035", func := "spokeshave/spokeshavelaw08.CuttingUnity", spec := "cuttingUnity", unfollowed := true, recurses := true, apart := false }
def CuttingUnitySaid : Prop := cuttingUnityRow.holds Try.pinned (OpenSpec.ofChange cuttingUnitySpec)

/-- ITS FALSE NEIGHBOUR: 'it returns false'. Refute it at one input. -/
def cuttingUnityWrong : ChangeSpec := { name := "cuttingUnity", fn := fun _ => fun
  | [d1, d2, d3] => { results := [.lit (.bool false)], args := [d1, d2, d3] }
  | _ => none }
def CuttingUnityWrongFalsely : Prop := cuttingUnityRow.holds Try.pinned (OpenSpec.ofChange cuttingUnityWrong)

/-- 'spokeshavetop.TopVeneerInSequence': WHATEVER THE INPUT: true; the input reads as it did. -/
def topVeneerInSequenceSpec : ChangeSpec := { name := "topVeneerInSequence", fn := fun _ => fun
  | [d1, d2] => { results := [.lit (.bool true)], args := [d1, d2] }
  | _ => none }
def topVeneerInSequenceRow : OpenClaim := { program := "ytepiapgcpoifpaa", sum := "fd1019bdde0446759dba555ab2d6b9200c5c6b3179382e309c922b2f30fca035", func := "spokeshave/spokeshavetop.TopVeneerInSequence", spec := "topVeneerInSequence", unfollowed := true, recurses := true, apart := false }
def TopVeneerInSequenceSaid : Prop := topVeneerInSequenceRow.holds Try.pinned (OpenSpec.ofChange topVeneerInSequenceSpec)

/-- ITS FALSE NEIGHBOUR: 'it returns false'. Refute it at one input. -/
def topVeneerInSequenceWrong : ChangeSpec := { name := "topVeneerInSequence", fn := fun _ => fun
  | [d1, d2] => { results := [.lit (.bool false)], args := [d1, d2] }
  | _ => none }
def TopVeneerInSequenceWrongFalsely : Prop := topVeneerInSequenceRow.holds Try.pinned (OpenSpec.ofChange topVeneerInSequenceWrong)

/- THE SECOND FORM. 'bulk': how many values and letters a reading holds, each counted each time it is reached (what is shared counts as often as it is met; a slice's spare places count too). A statement '..UptoSaid' is the law's where the arguments, and the package variables that the reading takes, are together of bulk at most 1048576: NARROWER than '..Said'. Prove '..Said' where nothing that the law and all that it calls make is longer than what came in: it says more and counts as full. Else prove '..UptoSaid'. A law counts once. -/
mutual
def uptoBulk {H : Type} : DataW H → Nat
  | .lit (.string bytes) => bytes.length + 1
  | .lit _ => 1
  | .nil => 1
  | .ptr d => uptoBulk d + 1
  | .slice elems spare => uptoBulkAll elems + uptoBulkAll spare + 1
  | .agg parts => uptoBulkAll parts + 1
  | .iface _ d => uptoBulk d + 1
  | .map entries => uptoBulkEntries entries + 1
  | .held _ => 1
def uptoBulkAll {H : Type} : List (DataW H) → Nat
  | [] => 0
  | d :: r => uptoBulk d + uptoBulkAll r
def uptoBulkEntries {H : Type} : List (Lit × DataW H) → Nat
  | [] => 0
  | x :: r => uptoBulkEntry x + uptoBulkEntries r
def uptoBulkEntry {H : Type} : Lit × DataW H → Nat
  | (.string bytes, d) => bytes.length + uptoBulk d + 1
  | (_, d) => uptoBulk d + 1
 end
def uptoSmall : (H : Type) → List (DataW H) → Bool := fun _ ds => decide (uptoBulkAll ds ≤ 1048576)
def OpenSpec.upto (s : _root_.Go.ChangeSpec) : _root_.Go.OpenSpec := { _root_.Go.OpenSpec.ofChange s with cond := some uptoSmall }

/-- 'spokeshavelaw08.CuttingGreedy', WHERE WHAT IT READS IS OF BULK AT MOST 1048576: true; the input reads as it did. -/
def cuttingGreedyUptoRow : OpenClaim := { program := "ytepiapgcpoifpaa", sum := "fd1019bdde0446759dba555ab2d6b9200c5c6b3179382e309c922b2f30fca035", func := "spokeshave/spokeshavelaw08.CuttingGreedy", spec := "cuttingGreedy", unfollowed := true, recurses := true, apart := false, narrowed := true }
def CuttingGreedyUptoSaid : Prop := cuttingGreedyUptoRow.holds Try.pinned (OpenSpec.upto cuttingGreedySpec)

/-- 'spokeshavelaw08.CuttingWeights', WHERE WHAT IT READS IS OF BULK AT MOST 1048576: true; the input reads as it did. -/
def cuttingWeightsUptoRow : OpenClaim := { program := "ytepiapgcpoifpaa", sum := "fd1019bdde0446759dba555ab2d6b9200c5c6b3179382e309c922b2f30fca035", func := "spokeshave/spokeshavelaw08.CuttingWeights", spec := "cuttingWeights", unfollowed := true, recurses := true, apart := false, narrowed := true }
def CuttingWeightsUptoSaid : Prop := cuttingWeightsUptoRow.holds Try.pinned (OpenSpec.upto cuttingWeightsSpec)

/-- 'spokeshavelaw08.CuttingJobs', WHERE WHAT IT READS IS OF BULK AT MOST 1048576: true; the input reads as it did. -/
def cuttingJobsUptoRow : OpenClaim := { program := "ytepiapgcpoifpaa", sum := "fd1019bdde0446759dba555ab2d6b9200c5c6b3179382e309c922b2f30fca035", func := "spokeshave/spokeshavelaw08.CuttingJobs", spec := "cuttingJobs", unfollowed := true, recurses := true, apart := false, narrowed := true }
def CuttingJobsUptoSaid : Prop := cuttingJobsUptoRow.holds Try.pinned (OpenSpec.upto cuttingJobsSpec)

/-- 'spokeshavelaw08.CuttingBarChecks', WHERE WHAT IT READS IS OF BULK AT MOST 1048576: true; the input reads as it did. -/
def cuttingBarChecksUptoRow : OpenClaim := { program := "ytepiapgcpoifpaa", sum := "fd1019bdde0446759dba555ab2d6b9200c5c6b3179382e309c922b2f30fca035", func := "spokeshave/spokeshavelaw08.CuttingBarChecks", spec := "cuttingBarChecks", unfollowed := true, recurses := true, apart := false, narrowed := true }
def CuttingBarChecksUptoSaid : Prop := cuttingBarChecksUptoRow.holds Try.pinned (OpenSpec.upto cuttingBarChecksSpec)

/-- 'spokeshavelaw08.CuttingMatches', WHERE WHAT IT READS IS OF BULK AT MOST 1048576: true; the input reads as it did. -/
def cuttingMatchesUptoRow : OpenClaim := { program := "ytepiapgcpoifpaa", sum := "fd1019bdde0446759dba555ab2d6b9200c5c6b3179382e309c922b2f30fca035", func := "spokeshave/spokeshavelaw08.CuttingMatches", spec := "cuttingMatches", unfollowed := true, recurses := true, apart := false, narrowed := true }
def CuttingMatchesUptoSaid : Prop := cuttingMatchesUptoRow.holds Try.pinned (OpenSpec.upto cuttingMatchesSpec)

/-- 'spokeshavelaw08.CuttingLayouts', WHERE WHAT IT READS IS OF BULK AT MOST 1048576: true; the input reads as it did. -/
def cuttingLayoutsUptoRow : OpenClaim := { program := "ytepiapgcpoifpaa", sum := "fd1019bdde0446759dba555ab2d6b9200c5c6b3179382e309c922b2f30fca035", func := "spokeshave/spokeshavelaw08.CuttingLayouts", spec := "cuttingLayouts", unfollowed := true, recurses := true, apart := false, narrowed := true }
def CuttingLayoutsUptoSaid : Prop := cuttingLayoutsUptoRow.holds Try.pinned (OpenSpec.upto cuttingLayoutsSpec)

/-- 'spokeshavelaw08.CuttingBars', WHERE WHAT IT READS IS OF BULK AT MOST 1048576: true; the input reads as it did. -/
def cuttingBarsUptoRow : OpenClaim := { program := "ytepiapgcpoifpaa", sum := "fd1019bdde0446759dba555ab2d6b9200c5c6b3179382e309c922b2f30fca035", func := "spokeshave/spokeshavelaw08.CuttingBars", spec := "cuttingBars", unfollowed := true, recurses := true, apart := false, narrowed := true }
def CuttingBarsUptoSaid : Prop := cuttingBarsUptoRow.holds Try.pinned (OpenSpec.upto cuttingBarsSpec)

/-- 'spokeshavelaw08.CuttingLeaves', WHERE WHAT IT READS IS OF BULK AT MOST 1048576: true; the input reads as it did. -/
def cuttingLeavesUptoRow : OpenClaim := { program := "ytepiapgcpoifpaa", sum := "fd1019bdde0446759dba555ab2d6b9200c5c6b3179382e309c922b2f30fca035", func := "spokeshave/spokeshavelaw08.CuttingLeaves", spec := "cuttingLeaves", unfollowed := true, recurses := true, apart := false, narrowed := true }
def CuttingLeavesUptoSaid : Prop := cuttingLeavesUptoRow.holds Try.pinned (OpenSpec.upto cuttingLeavesSpec)

/-- 'spokeshavelaw08.CuttingSound', WHERE WHAT IT READS IS OF BULK AT MOST 1048576: true; the input reads as it did. -/
def cuttingSoundUptoRow : OpenClaim := { program := "ytepiapgcpoifpaa", sum := "fd1019bdde0446759dba555ab2d6b9200c5c6b3179382e309c922b2f30fca035", func := "spokeshave/spokeshavelaw08.CuttingSound", spec := "cuttingSound", unfollowed := true, recurses := true, apart := false, narrowed := true }
def CuttingSoundUptoSaid : Prop := cuttingSoundUptoRow.holds Try.pinned (OpenSpec.upto cuttingSoundSpec)

/-- 'spokeshavelaw08.CuttingUnity', WHERE WHAT IT READS IS OF BULK AT MOST 1048576: true; the input reads as it did. -/
def cuttingUnityUptoRow : OpenClaim := { program := "ytepiapgcpoifpaa", sum := "fd1019bdde0446759dba555ab2d6b9200c5c6b3179382e309c922b2f30fca035", func := "spokeshave/spokeshavelaw08.CuttingUnity", spec := "cuttingUnity", unfollowed := true, recurses := true, apart := false, narrowed := true }
def CuttingUnityUptoSaid : Prop := cuttingUnityUptoRow.holds Try.pinned (OpenSpec.upto cuttingUnitySpec)

/-- 'spokeshavetop.TopVeneerInSequence', WHERE WHAT IT READS IS OF BULK AT MOST 1048576: true; the input reads as it did. -/
def topVeneerInSequenceUptoRow : OpenClaim := { program := "ytepiapgcpoifpaa", sum := "fd1019bdde0446759dba555ab2d6b9200c5c6b3179382e309c922b2f30fca035", func := "spokeshave/spokeshavetop.TopVeneerInSequence", spec := "topVeneerInSequence", unfollowed := true, recurses := true, apart := false, narrowed := true }
def TopVeneerInSequenceUptoSaid : Prop := topVeneerInSequenceUptoRow.holds Try.pinned (OpenSpec.upto topVeneerInSequenceSpec)

end Rows
end Go.Proofs.Ytepiapgcpoifpaa
