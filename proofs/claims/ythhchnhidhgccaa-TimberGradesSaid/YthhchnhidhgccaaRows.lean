/-
  No cell of these rows narrows 'for every input' (looked for: loops, veiled, ifaces, maps, wideKeys, modest, calm, conditions, laid).
  DERIVED. THE GIVEN ROWS OF THIS SEAT. 15 by the template 'for every input the law returns true; each argument reads behind the call as it read before'; 0 by the template 'total and deterministic' (their statements: YthhchnhidhgccaaTotals.lean).
  GIVEN WITH THE SEED: the statements are not yours to turn. If you find one false, say at which input.
  Laid BY PROGRAM, IN A SANDBOX (cutbox-rows.mjs): the forced cells as the released guide's own fill.sh prints them over the translation 7363b710b123811a… (all of the seat's roots in one cut). By AI agents, Wed Nov 11 2026. No macro, syntax, notation, axiom, sorry.
-/
import Derived.Test.YthhchnhidhgccaaChecked
import GoSem.Claim
import GoSem.ClaimJoined
import GoSem.ClaimMapViews
import Derived.JoinedTies
import Derived.KernelRfl
namespace Go.Proofs.Ythhchnhidhgccaa
/- THE CELL 'sum', in the pinned program and in every row, IS THE sha256 OF THE DUMP (.gsa) THAT YthhchnhidhgccaaProg.lean LOADS. Nothing in Lean hashes anything: it is a label: what it is worth is what the hold of that sum in a sandbox is worth. -/
noncomputable def Try.pinned : Pinned := { name := "ythhchnhidhgccaa", sum := "7363b710b123811a391cac03899bf75d29e471a8525b74405b0b8e4c4a33af09", checked := Try.checked }
namespace Rows
def none {H : Type} : Left H := { results := [], args := [] }

/-- 'spokeshavelaw02.TimberMasses': WHATEVER THE INPUT: true; the input reads as it did. -/
def timberMassesSpec : ChangeSpec := { name := "timberMasses", fn := fun _ => fun
  | [d1, d2] => { results := [.lit (.bool true)], args := [d1, d2] }
  | _ => none }
def timberMassesRow : OpenClaim := { program := "ythhchnhidhgccaa", sum := "7363b710b123811a391cac03899bf75d29e471a8525b74405b0b8e4c4a33af09", func := "spokeshave/spokeshavelaw02.TimberMasses", spec := "timberMasses", unfollowed := true, recurses := true, apart := false }
def TimberMassesSaid : Prop := timberMassesRow.holds Try.pinned (OpenSpec.ofChange timberMassesSpec)

/-- ITS FALSE NEIGHBOUR: 'it returns false'. Refute it at one input. -/
def timberMassesWrong : ChangeSpec := { name := "timberMasses", fn := fun _ => fun
  | [d1, d2] => { results := [.lit (.bool false)], args := [d1, d2] }
  | _ => none }
def TimberMassesWrongFalsely : Prop := timberMassesRow.holds Try.pinned (OpenSpec.ofChange timberMassesWrong)

/-- 'spokeshavelaw02.TimberRanges': WHATEVER THE INPUT: true; the input reads as it did. -/
def timberRangesSpec : ChangeSpec := { name := "timberRanges", fn := fun _ => fun
  | [d1, d2, d3] => { results := [.lit (.bool true)], args := [d1, d2, d3] }
  | _ => none }
def timberRangesRow : OpenClaim := { program := "ythhchnhidhgccaa", sum := "7363b710b123811a391cac03899bf75d29e471a8525b74405b0b8e4c4a33af09", func := "spokeshave/spokeshavelaw02.TimberRanges", spec := "timberRanges", unfollowed := true, recurses := true, apart := false }
def TimberRangesSaid : Prop := timberRangesRow.holds Try.pinned (OpenSpec.ofChange timberRangesSpec)

/-- ITS FALSE NEIGHBOUR: 'it returns false'. Refute it at one input. -/
def timberRangesWrong : ChangeSpec := { name := "timberRanges", fn := fun _ => fun
  | [d1, d2, d3] => { results := [.lit (.bool false)], args := [d1, d2, d3] }
  | _ => none }
def TimberRangesWrongFalsely : Prop := timberRangesRow.holds Try.pinned (OpenSpec.ofChange timberRangesWrong)

/-- 'spokeshavelaw02.TimberMonotone': WHATEVER THE INPUT: true; the input reads as it did. -/
def timberMonotoneSpec : ChangeSpec := { name := "timberMonotone", fn := fun _ => fun
  | [d1, d2, d3] => { results := [.lit (.bool true)], args := [d1, d2, d3] }
  | _ => none }
def timberMonotoneRow : OpenClaim := { program := "ythhchnhidhgccaa", sum := "7363b710b123811a391cac03899bf75d29e471a8525b74405b0b8e4c4a33af09", func := "spokeshave/spokeshavelaw02.TimberMonotone", spec := "timberMonotone", unfollowed := true, recurses := true, apart := false }
def TimberMonotoneSaid : Prop := timberMonotoneRow.holds Try.pinned (OpenSpec.ofChange timberMonotoneSpec)

/-- ITS FALSE NEIGHBOUR: 'it returns false'. Refute it at one input. -/
def timberMonotoneWrong : ChangeSpec := { name := "timberMonotone", fn := fun _ => fun
  | [d1, d2, d3] => { results := [.lit (.bool false)], args := [d1, d2, d3] }
  | _ => none }
def TimberMonotoneWrongFalsely : Prop := timberMonotoneRow.holds Try.pinned (OpenSpec.ofChange timberMonotoneWrong)

/-- 'spokeshavelaw02.TimberSpecies': WHATEVER THE INPUT: true; the input reads as it did. -/
def timberSpeciesSpec : ChangeSpec := { name := "timberSpecies", fn := fun _ => fun
  | [d1, d2] => { results := [.lit (.bool true)], args := [d1, d2] }
  | _ => none }
def timberSpeciesRow : OpenClaim := { program := "ythhchnhidhgccaa", sum := "7363b710b123811a391cac03899bf75d29e471a8525b74405b0b8e4c4a33af09", func := "spokeshave/spokeshavelaw02.TimberSpecies", spec := "timberSpecies", unfollowed := true, recurses := true, apart := false }
def TimberSpeciesSaid : Prop := timberSpeciesRow.holds Try.pinned (OpenSpec.ofChange timberSpeciesSpec)

/-- ITS FALSE NEIGHBOUR: 'it returns false'. Refute it at one input. -/
def timberSpeciesWrong : ChangeSpec := { name := "timberSpecies", fn := fun _ => fun
  | [d1, d2] => { results := [.lit (.bool false)], args := [d1, d2] }
  | _ => none }
def TimberSpeciesWrongFalsely : Prop := timberSpeciesRow.holds Try.pinned (OpenSpec.ofChange timberSpeciesWrong)

/-- 'spokeshavelaw02.TimberWidest': WHATEVER THE INPUT: true; the input reads as it did. -/
def timberWidestSpec : ChangeSpec := { name := "timberWidest", fn := fun _ => fun
  | [d1, d2, d3] => { results := [.lit (.bool true)], args := [d1, d2, d3] }
  | _ => none }
def timberWidestRow : OpenClaim := { program := "ythhchnhidhgccaa", sum := "7363b710b123811a391cac03899bf75d29e471a8525b74405b0b8e4c4a33af09", func := "spokeshave/spokeshavelaw02.TimberWidest", spec := "timberWidest", unfollowed := true, recurses := true, apart := false }
def TimberWidestSaid : Prop := timberWidestRow.holds Try.pinned (OpenSpec.ofChange timberWidestSpec)

/-- ITS FALSE NEIGHBOUR: 'it returns false'. Refute it at one input. -/
def timberWidestWrong : ChangeSpec := { name := "timberWidest", fn := fun _ => fun
  | [d1, d2, d3] => { results := [.lit (.bool false)], args := [d1, d2, d3] }
  | _ => none }
def TimberWidestWrongFalsely : Prop := timberWidestRow.holds Try.pinned (OpenSpec.ofChange timberWidestWrong)

/-- 'spokeshavelaw02.TimberRates': WHATEVER THE INPUT: true; the input reads as it did. -/
def timberRatesSpec : ChangeSpec := { name := "timberRates", fn := fun _ => fun
  | [d1, d2, d3] => { results := [.lit (.bool true)], args := [d1, d2, d3] }
  | _ => none }
def timberRatesRow : OpenClaim := { program := "ythhchnhidhgccaa", sum := "7363b710b123811a391cac03899bf75d29e471a8525b74405b0b8e4c4a33af09", func := "spokeshave/spokeshavelaw02.TimberRates", spec := "timberRates", unfollowed := true, recurses := true, apart := false }
def TimberRatesSaid : Prop := timberRatesRow.holds Try.pinned (OpenSpec.ofChange timberRatesSpec)

/-- ITS FALSE NEIGHBOUR: 'it returns false'. Refute it at one input. -/
def timberRatesWrong : ChangeSpec := { name := "timberRates", fn := fun _ => fun
  | [d1, d2, d3] => { results := [.lit (.bool false)], args := [d1, d2, d3] }
  | _ => none }
def TimberRatesWrongFalsely : Prop := timberRatesRow.holds Try.pinned (OpenSpec.ofChange timberRatesWrong)

/-- 'spokeshavelaw02.TimberBoards': WHATEVER THE INPUT: true; the input reads as it did. -/
def timberBoardsSpec : ChangeSpec := { name := "timberBoards", fn := fun _ => fun
  | [d1, d2, d3] => { results := [.lit (.bool true)], args := [d1, d2, d3] }
  | _ => none }
def timberBoardsRow : OpenClaim := { program := "ythhchnhidhgccaa", sum := "7363b710b123811a391cac03899bf75d29e471a8525b74405b0b8e4c4a33af09", func := "spokeshave/spokeshavelaw02.TimberBoards", spec := "timberBoards", unfollowed := true, recurses := true, apart := false }
def TimberBoardsSaid : Prop := timberBoardsRow.holds Try.pinned (OpenSpec.ofChange timberBoardsSpec)

/-- ITS FALSE NEIGHBOUR: 'it returns false'. Refute it at one input. -/
def timberBoardsWrong : ChangeSpec := { name := "timberBoards", fn := fun _ => fun
  | [d1, d2, d3] => { results := [.lit (.bool false)], args := [d1, d2, d3] }
  | _ => none }
def TimberBoardsWrongFalsely : Prop := timberBoardsRow.holds Try.pinned (OpenSpec.ofChange timberBoardsWrong)

/-- 'spokeshavelaw02.TimberMoves': WHATEVER THE INPUT: true; the input reads as it did. -/
def timberMovesSpec : ChangeSpec := { name := "timberMoves", fn := fun _ => fun
  | [d1, d2, d3] => { results := [.lit (.bool true)], args := [d1, d2, d3] }
  | _ => none }
def timberMovesRow : OpenClaim := { program := "ythhchnhidhgccaa", sum := "7363b710b123811a391cac03899bf75d29e471a8525b74405b0b8e4c4a33af09", func := "spokeshave/spokeshavelaw02.TimberMoves", spec := "timberMoves", unfollowed := true, recurses := true, apart := false }
def TimberMovesSaid : Prop := timberMovesRow.holds Try.pinned (OpenSpec.ofChange timberMovesSpec)

/-- ITS FALSE NEIGHBOUR: 'it returns false'. Refute it at one input. -/
def timberMovesWrong : ChangeSpec := { name := "timberMoves", fn := fun _ => fun
  | [d1, d2, d3] => { results := [.lit (.bool false)], args := [d1, d2, d3] }
  | _ => none }
def TimberMovesWrongFalsely : Prop := timberMovesRow.holds Try.pinned (OpenSpec.ofChange timberMovesWrong)

/-- 'spokeshavelaw02.TimberSizes': WHATEVER THE INPUT: true; the input reads as it did. -/
def timberSizesSpec : ChangeSpec := { name := "timberSizes", fn := fun _ => fun
  | [d1, d2, d3] => { results := [.lit (.bool true)], args := [d1, d2, d3] }
  | _ => none }
def timberSizesRow : OpenClaim := { program := "ythhchnhidhgccaa", sum := "7363b710b123811a391cac03899bf75d29e471a8525b74405b0b8e4c4a33af09", func := "spokeshave/spokeshavelaw02.TimberSizes", spec := "timberSizes", unfollowed := true, recurses := true, apart := false }
def TimberSizesSaid : Prop := timberSizesRow.holds Try.pinned (OpenSpec.ofChange timberSizesSpec)

/-- ITS FALSE NEIGHBOUR: 'it returns false'. Refute it at one input. -/
def timberSizesWrong : ChangeSpec := { name := "timberSizes", fn := fun _ => fun
  | [d1, d2, d3] => { results := [.lit (.bool false)], args := [d1, d2, d3] }
  | _ => none }
def TimberSizesWrongFalsely : Prop := timberSizesRow.holds Try.pinned (OpenSpec.ofChange timberSizesWrong)

/-- 'spokeshavelaw02.TimberTables': WHATEVER THE INPUT: true; the input reads as it did. -/
def timberTablesSpec : ChangeSpec := { name := "timberTables", fn := fun _ => fun
  | [d1, d2] => { results := [.lit (.bool true)], args := [d1, d2] }
  | _ => none }
def timberTablesRow : OpenClaim := { program := "ythhchnhidhgccaa", sum := "7363b710b123811a391cac03899bf75d29e471a8525b74405b0b8e4c4a33af09", func := "spokeshave/spokeshavelaw02.TimberTables", spec := "timberTables", unfollowed := true, recurses := true, apart := false }
def TimberTablesSaid : Prop := timberTablesRow.holds Try.pinned (OpenSpec.ofChange timberTablesSpec)

/-- ITS FALSE NEIGHBOUR: 'it returns false'. Refute it at one input. -/
def timberTablesWrong : ChangeSpec := { name := "timberTables", fn := fun _ => fun
  | [d1, d2] => { results := [.lit (.bool false)], args := [d1, d2] }
  | _ => none }
def TimberTablesWrongFalsely : Prop := timberTablesRow.holds Try.pinned (OpenSpec.ofChange timberTablesWrong)

/-- 'spokeshavelaw02.TimberFitting': WHATEVER THE INPUT: true; the input reads as it did. -/
def timberFittingSpec : ChangeSpec := { name := "timberFitting", fn := fun _ => fun
  | [d1, d2, d3] => { results := [.lit (.bool true)], args := [d1, d2, d3] }
  | _ => none }
def timberFittingRow : OpenClaim := { program := "ythhchnhidhgccaa", sum := "7363b710b123811a391cac03899bf75d29e471a8525b74405b0b8e4c4a33af09", func := "spokeshave/spokeshavelaw02.TimberFitting", spec := "timberFitting", unfollowed := true, recurses := true, apart := false }
def TimberFittingSaid : Prop := timberFittingRow.holds Try.pinned (OpenSpec.ofChange timberFittingSpec)

/-- ITS FALSE NEIGHBOUR: 'it returns false'. Refute it at one input. -/
def timberFittingWrong : ChangeSpec := { name := "timberFitting", fn := fun _ => fun
  | [d1, d2, d3] => { results := [.lit (.bool false)], args := [d1, d2, d3] }
  | _ => none }
def TimberFittingWrongFalsely : Prop := timberFittingRow.holds Try.pinned (OpenSpec.ofChange timberFittingWrong)

/-- 'spokeshavelaw02.TimberDries': WHATEVER THE INPUT: true; the input reads as it did. -/
def timberDriesSpec : ChangeSpec := { name := "timberDries", fn := fun _ => fun
  | [d1, d2, d3] => { results := [.lit (.bool true)], args := [d1, d2, d3] }
  | _ => none }
def timberDriesRow : OpenClaim := { program := "ythhchnhidhgccaa", sum := "7363b710b123811a391cac03899bf75d29e471a8525b74405b0b8e4c4a33af09", func := "spokeshave/spokeshavelaw02.TimberDries", spec := "timberDries", unfollowed := true, recurses := true, apart := false }
def TimberDriesSaid : Prop := timberDriesRow.holds Try.pinned (OpenSpec.ofChange timberDriesSpec)

/-- ITS FALSE NEIGHBOUR: 'it returns false'. Refute it at one input. -/
def timberDriesWrong : ChangeSpec := { name := "timberDries", fn := fun _ => fun
  | [d1, d2, d3] => { results := [.lit (.bool false)], args := [d1, d2, d3] }
  | _ => none }
def TimberDriesWrongFalsely : Prop := timberDriesRow.holds Try.pinned (OpenSpec.ofChange timberDriesWrong)

/-- 'spokeshavelaw02.TimberClear': WHATEVER THE INPUT: true; the input reads as it did. -/
def timberClearSpec : ChangeSpec := { name := "timberClear", fn := fun _ => fun
  | [d1, d2] => { results := [.lit (.bool true)], args := [d1, d2] }
  | _ => none }
def timberClearRow : OpenClaim := { program := "ythhchnhidhgccaa", sum := "7363b710b123811a391cac03899bf75d29e471a8525b74405b0b8e4c4a33af09", func := "spokeshave/spokeshavelaw02.TimberClear", spec := "timberClear", unfollowed := true, recurses := true, apart := false }
def TimberClearSaid : Prop := timberClearRow.holds Try.pinned (OpenSpec.ofChange timberClearSpec)

/-- ITS FALSE NEIGHBOUR: 'it returns false'. Refute it at one input. -/
def timberClearWrong : ChangeSpec := { name := "timberClear", fn := fun _ => fun
  | [d1, d2] => { results := [.lit (.bool false)], args := [d1, d2] }
  | _ => none }
def TimberClearWrongFalsely : Prop := timberClearRow.holds Try.pinned (OpenSpec.ofChange timberClearWrong)

/-- 'spokeshavelaw02.TimberDefects': WHATEVER THE INPUT: true; the input reads as it did. -/
def timberDefectsSpec : ChangeSpec := { name := "timberDefects", fn := fun _ => fun
  | [d1, d2] => { results := [.lit (.bool true)], args := [d1, d2] }
  | _ => none }
def timberDefectsRow : OpenClaim := { program := "ythhchnhidhgccaa", sum := "7363b710b123811a391cac03899bf75d29e471a8525b74405b0b8e4c4a33af09", func := "spokeshave/spokeshavelaw02.TimberDefects", spec := "timberDefects", unfollowed := true, recurses := true, apart := false }
def TimberDefectsSaid : Prop := timberDefectsRow.holds Try.pinned (OpenSpec.ofChange timberDefectsSpec)

/-- ITS FALSE NEIGHBOUR: 'it returns false'. Refute it at one input. -/
def timberDefectsWrong : ChangeSpec := { name := "timberDefects", fn := fun _ => fun
  | [d1, d2] => { results := [.lit (.bool false)], args := [d1, d2] }
  | _ => none }
def TimberDefectsWrongFalsely : Prop := timberDefectsRow.holds Try.pinned (OpenSpec.ofChange timberDefectsWrong)

/-- 'spokeshavelaw02.TimberGrades': WHATEVER THE INPUT: true; the input reads as it did. -/
def timberGradesSpec : ChangeSpec := { name := "timberGrades", fn := fun _ => fun
  | [d1, d2] => { results := [.lit (.bool true)], args := [d1, d2] }
  | _ => none }
def timberGradesRow : OpenClaim := { program := "ythhchnhidhgccaa", sum := "7363b710b123811a391cac03899bf75d29e471a8525b74405b0b8e4c4a33af09", func := "spokeshave/spokeshavelaw02.TimberGrades", spec := "timberGrades", unfollowed := true, recurses := true, apart := false }
def TimberGradesSaid : Prop := timberGradesRow.holds Try.pinned (OpenSpec.ofChange timberGradesSpec)

/-- ITS FALSE NEIGHBOUR: 'it returns false'. Refute it at one input. -/
def timberGradesWrong : ChangeSpec := { name := "timberGrades", fn := fun _ => fun
  | [d1, d2] => { results := [.lit (.bool false)], args := [d1, d2] }
  | _ => none }
def TimberGradesWrongFalsely : Prop := timberGradesRow.holds Try.pinned (OpenSpec.ofChange timberGradesWrong)

/- THE SECOND FORM. 'bulk': how many values and letters a reading holds, each counted each time it is reached (what is shared counts as often as it is met; a slice's spare places count too). A statement '..UptoSaid' is the law's where the arguments, and the package variables that the reading takes, are together of bulk at most 1048576: NARROWER than '..Said'. Prove '..Said' where nothing that the law and all that it calls make is longer than what came in: it says more and counts as full. Else prove '..UptoSaid'. A law counts once. -/
mutual
def uptoBulk {H : Type} : DataW H → Nat
  | .lit (.string bytes) => bytes.length + 1
  | .lit _ => 1
  | .nil => 1
  | .ptr d => uptoBulk d + 1
  | .slice elems spare => uptoBulkAll elems + uptoBulkAll spare + 1
  | .agg parts => uptoBulkAll parts + 1
  | .iface _ d => uptoBulk d + 1
  | .map entries => uptoBulkEntries entries + 1
  | .held _ => 1
def uptoBulkAll {H : Type} : List (DataW H) → Nat
  | [] => 0
  | d :: r => uptoBulk d + uptoBulkAll r
def uptoBulkEntries {H : Type} : List (Lit × DataW H) → Nat
  | [] => 0
  | x :: r => uptoBulkEntry x + uptoBulkEntries r
def uptoBulkEntry {H : Type} : Lit × DataW H → Nat
  | (.string bytes, d) => bytes.length + uptoBulk d + 1
  | (_, d) => uptoBulk d + 1
 end
def uptoSmall : (H : Type) → List (DataW H) → Bool := fun _ ds => decide (uptoBulkAll ds ≤ 1048576)
def OpenSpec.upto (s : _root_.Go.ChangeSpec) : _root_.Go.OpenSpec := { _root_.Go.OpenSpec.ofChange s with cond := some uptoSmall }

/-- 'spokeshavelaw02.TimberMasses', WHERE WHAT IT READS IS OF BULK AT MOST 1048576: true; the input reads as it did. -/
def timberMassesUptoRow : OpenClaim := { program := "ythhchnhidhgccaa", sum := "7363b710b123811a391cac03899bf75d29e471a8525b74405b0b8e4c4a33af09", func := "spokeshave/spokeshavelaw02.TimberMasses", spec := "timberMasses", unfollowed := true, recurses := true, apart := false, narrowed := true }
def TimberMassesUptoSaid : Prop := timberMassesUptoRow.holds Try.pinned (OpenSpec.upto timberMassesSpec)

/-- 'spokeshavelaw02.TimberRanges', WHERE WHAT IT READS IS OF BULK AT MOST 1048576: true; the input reads as it did. -/
def timberRangesUptoRow : OpenClaim := { program := "ythhchnhidhgccaa", sum := "7363b710b123811a391cac03899bf75d29e471a8525b74405b0b8e4c4a33af09", func := "spokeshave/spokeshavelaw02.TimberRanges", spec := "timberRanges", unfollowed := true, recurses := true, apart := false, narrowed := true }
def TimberRangesUptoSaid : Prop := timberRangesUptoRow.holds Try.pinned (OpenSpec.upto timberRangesSpec)

/-- 'spokeshavelaw02.TimberMonotone', WHERE WHAT IT READS IS OF BULK AT MOST 1048576: true; the input reads as it did. -/
def timberMonotoneUptoRow : OpenClaim := { program := "ythhchnhidhgccaa", sum := "7363b710b123811a391cac03899bf75d29e471a8525b74405b0b8e4c4a33af09", func := "spokeshave/spokeshavelaw02.TimberMonotone", spec := "timberMonotone", unfollowed := true, recurses := true, apart := false, narrowed := true }
def TimberMonotoneUptoSaid : Prop := timberMonotoneUptoRow.holds Try.pinned (OpenSpec.upto timberMonotoneSpec)

/-- 'spokeshavelaw02.TimberSpecies', WHERE WHAT IT READS IS OF BULK AT MOST 1048576: true; the input reads as it did. -/
def timberSpeciesUptoRow : OpenClaim := { program := "ythhchnhidhgccaa", sum := "7363b710b123811a391cac03899bf75d29e471a8525b74405b0b8e4c4a33af09", func := "spokeshave/spokeshavelaw02.TimberSpecies", spec := "timberSpecies", unfollowed := true, recurses := true, apart := false, narrowed := true }
def TimberSpeciesUptoSaid : Prop := timberSpeciesUptoRow.holds Try.pinned (OpenSpec.upto timberSpeciesSpec)

/-- 'spokeshavelaw02.TimberWidest', WHERE WHAT IT READS IS OF BULK AT MOST 1048576: true; the input reads as it did. -/
def timberWidestUptoRow : OpenClaim := { program := "ythhchnhidhgccaa", sum := "7363b710b123811a391cac03899bf75d29e471a8525b74405b0b8e4c4a33af09", func := "spokeshave/spokeshavelaw02.TimberWidest", spec := "timberWidest", unfollowed := true, recurses := true, apart := false, narrowed := true }
def TimberWidestUptoSaid : Prop := timberWidestUptoRow.holds Try.pinned (OpenSpec.upto timberWidestSpec)

/-- 'spokeshavelaw02.TimberRates', WHERE WHAT IT READS IS OF BULK AT MOST 1048576: true; the input reads as it did. -/
def timberRatesUptoRow : OpenClaim := { program := "ythhchnhidhgccaa", sum := "7363b710b123811a391cac03899bf75d29e471a8525b74405b0b8e4c4a33af09", func := "spokeshave/spokeshavelaw02.TimberRates", spec := "timberRates", unfollowed := true, recurses := true, apart := false, narrowed := true }
def TimberRatesUptoSaid : Prop := timberRatesUptoRow.holds Try.pinned (OpenSpec.upto timberRatesSpec)

/-- 'spokeshavelaw02.TimberBoards', WHERE WHAT IT READS IS OF BULK AT MOST 1048576: true; the input reads as it did. -/
def timberBoardsUptoRow : OpenClaim := { program := "ythhchnhidhgccaa", sum := "7363b710b123811a391cac03899bf75d29e471a8525b74405b0b8e4c4a33af09", func := "spokeshave/spokeshavelaw02.TimberBoards", spec := "timberBoards", unfollowed := true, recurses := true, apart := false, narrowed := true }
def TimberBoardsUptoSaid : Prop := timberBoardsUptoRow.holds Try.pinned (OpenSpec.upto timberBoardsSpec)

/-- 'spokeshavelaw02.TimberMoves', WHERE WHAT IT READS IS OF BULK AT MOST 1048576: true; the input reads as it did. -/
def timberMovesUptoRow : OpenClaim := { program := "ythhchnhidhgccaa", sum := "7363b710b123811a391cac03899bf75d29e471a8525b74405b0b8e4c4a33af09", func := "spokeshave/spokeshavelaw02.TimberMoves", spec := "timberMoves", unfollowed := true, recurses := true, apart := false, narrowed := true }
def TimberMovesUptoSaid : Prop := timberMovesUptoRow.holds Try.pinned (OpenSpec.upto timberMovesSpec)

/-- 'spokeshavelaw02.TimberSizes', WHERE WHAT IT READS IS OF BULK AT MOST 1048576: true; the input reads as it did. -/
def timberSizesUptoRow : OpenClaim := { program := "ythhchnhidhgccaa", sum := "7363b710b123811a391cac03899bf75d29e471a8525b74405b0b8e4c4a33af09", func := "spokeshave/spokeshavelaw02.TimberSizes", spec := "timberSizes", unfollowed := true, recurses := true, apart := false, narrowed := true }
def TimberSizesUptoSaid : Prop := timberSizesUptoRow.holds Try.pinned (OpenSpec.upto timberSizesSpec)

/-- 'spokeshavelaw02.TimberTables', WHERE WHAT IT READS IS OF BULK AT MOST 1048576: true; the input reads as it did. -/
def timberTablesUptoRow : OpenClaim := { program := "ythhchnhidhgccaa", sum := "7363b710b123811a391cac03899bf75d29e471a8525b74405b0b8e4c4a33af09", func := "spokeshave/spokeshavelaw02.TimberTables", spec := "timberTables", unfollowed := true, recurses := true, apart := false, narrowed := true }
def TimberTablesUptoSaid : Prop := timberTablesUptoRow.holds Try.pinned (OpenSpec.upto timberTablesSpec)

/-- 'spokeshavelaw02.TimberFitting', WHERE WHAT IT READS IS OF BULK AT MOST 1048576: true; the input reads as it did. -/
def timberFittingUptoRow : OpenClaim := { program := "ythhchnhidhgccaa", sum := "7363b710b123811a391cac03899bf75d29e471a8525b74405b0b8e4c4a33af09", func := "spokeshave/spokeshavelaw02.TimberFitting", spec := "timberFitting", unfollowed := true, recurses := true, apart := false, narrowed := true }
def TimberFittingUptoSaid : Prop := timberFittingUptoRow.holds Try.pinned (OpenSpec.upto timberFittingSpec)

/-- 'spokeshavelaw02.TimberDries', WHERE WHAT IT READS IS OF BULK AT MOST 1048576: true; the input reads as it did. -/
def timberDriesUptoRow : OpenClaim := { program := "ythhchnhidhgccaa", sum := "7363b710b123811a391cac03899bf75d29e471a8525b74405b0b8e4c4a33af09", func := "spokeshave/spokeshavelaw02.TimberDries", spec := "timberDries", unfollowed := true, recurses := true, apart := false, narrowed := true }
def TimberDriesUptoSaid : Prop := timberDriesUptoRow.holds Try.pinned (OpenSpec.upto timberDriesSpec)

/-- 'spokeshavelaw02.TimberClear', WHERE WHAT IT READS IS OF BULK AT MOST 1048576: true; the input reads as it did. -/
def timberClearUptoRow : OpenClaim := { program := "ythhchnhidhgccaa", sum := "7363b710b123811a391cac03899bf75d29e471a8525b74405b0b8e4c4a33af09", func := "spokeshave/spokeshavelaw02.TimberClear", spec := "timberClear", unfollowed := true, recurses := true, apart := false, narrowed := true }
def TimberClearUptoSaid : Prop := timberClearUptoRow.holds Try.pinned (OpenSpec.upto timberClearSpec)

/-- 'spokeshavelaw02.TimberDefects', WHERE WHAT IT READS IS OF BULK AT MOST 1048576: true; the input reads as it did. -/
def timberDefectsUptoRow : OpenClaim := { program := "ythhchnhidhgccaa", sum := "7363b710b123811a391cac03899bf75d29e471a8525b74405b0b8e4c4a33af09", func := "spokeshave/spokeshavelaw02.TimberDefects", spec := "timberDefects", unfollowed := true, recurses := true, apart := false, narrowed := true }
def TimberDefectsUptoSaid : Prop := timberDefectsUptoRow.holds Try.pinned (OpenSpec.upto timberDefectsSpec)

/-- 'spokeshavelaw02.TimberGrades', WHERE WHAT IT READS IS OF BULK AT MOST 1048576: true; the input reads as it did. -/
def timberGradesUptoRow : OpenClaim := { program := "ythhchnhidhgccaa", sum := "7363b710b123811a391cac03899bf75d29e471a8525b74405b0b8e4c4a33af09", func := "spokeshave/spokeshavelaw02.TimberGrades", spec := "timberGrades", unfollowed := true, recurses := true, apart := false, narrowed := true }
def TimberGradesUptoSaid : Prop := timberGradesUptoRow.holds Try.pinned (OpenSpec.upto timberGradesSpec)

end Rows
end Go.Proofs.Ythhchnhidhgccaa
