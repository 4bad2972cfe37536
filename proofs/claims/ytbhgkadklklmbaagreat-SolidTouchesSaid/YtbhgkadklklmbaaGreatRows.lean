/-
  No cell of these rows narrows 'for every input' (looked for: loops, veiled, ifaces, maps, wideKeys, modest, calm, conditions, laid).
  DERIVED. THE GIVEN ROWS OF THIS SEAT. 15 by the template 'for every input the law returns true; each argument reads behind the call as it read before'; 0 by the template 'total and deterministic' (their statements: YtbhgkadklklmbaaGreatTotals.lean).
  GIVEN WITH THE SEED: the statements are not yours to turn. If you find one false, say at which input.
  Laid BY PROGRAM, IN A SANDBOX (cutbox-rows.mjs): the forced cells as the released guide's own fill.sh prints them over the translation 40c3543f14bd016d… (all of the seat's roots in one cut). By AI agents, Wed Nov 11 2026. No macro, syntax, notation, axiom, sorry.
-/
import Derived.Test.YtbhgkadklklmbaaGreatChecked
import GoSem.Claim
import GoSem.ClaimJoined
import GoSem.ClaimMapViews
import Derived.JoinedTies
import Derived.KernelRfl
namespace Go.Proofs.YtbhgkadklklmbaaGreat
/- THE CELL 'sum', in the pinned program and in every row, IS THE sha256 OF THE DUMP (.gsa) THAT YtbhgkadklklmbaaGreatProg.lean LOADS. Nothing in Lean hashes anything: it is a label: what it is worth is what the hold of that sum in a sandbox is worth. -/
noncomputable def Tryz.pinned : Pinned := { name := "ytbhgkadklklmbaagreat", sum := "40c3543f14bd016d0e32880872e97cdefa770e52e4b8bf40c19a1cd48854120c", checked := Tryz.checked }
namespace Rows
def none {H : Type} : Left H := { results := [], args := [] }

/-- 'spokeshavelaw01.SolidCells': WHATEVER THE INPUT: true; the input reads as it did. -/
def solidCellsSpec : ChangeSpec := { name := "solidCells", fn := fun _ => fun
  | [d1, d2] => { results := [.lit (.bool true)], args := [d1, d2] }
  | _ => none }
def solidCellsRow : OpenClaim := { program := "ytbhgkadklklmbaagreat", sum := "40c3543f14bd016d0e32880872e97cdefa770e52e4b8bf40c19a1cd48854120c", func := "spokeshave/spokeshavelaw01.SolidCells", spec := "solidCells", unfollowed := true, recurses := true, apart := false }
def SolidCellsSaid : Prop := solidCellsRow.holds Tryz.pinned (OpenSpec.ofChange solidCellsSpec)

/-- ITS FALSE NEIGHBOUR: 'it returns false'. Refute it at one input. -/
def solidCellsWrong : ChangeSpec := { name := "solidCells", fn := fun _ => fun
  | [d1, d2] => { results := [.lit (.bool false)], args := [d1, d2] }
  | _ => none }
def SolidCellsWrongFalsely : Prop := solidCellsRow.holds Tryz.pinned (OpenSpec.ofChange solidCellsWrong)

/-- 'spokeshavelaw01.SolidCovers': WHATEVER THE INPUT: true; the input reads as it did. -/
def solidCoversSpec : ChangeSpec := { name := "solidCovers", fn := fun _ => fun
  | [d1, d2] => { results := [.lit (.bool true)], args := [d1, d2] }
  | _ => none }
def solidCoversRow : OpenClaim := { program := "ytbhgkadklklmbaagreat", sum := "40c3543f14bd016d0e32880872e97cdefa770e52e4b8bf40c19a1cd48854120c", func := "spokeshave/spokeshavelaw01.SolidCovers", spec := "solidCovers", unfollowed := true, recurses := true, apart := false }
def SolidCoversSaid : Prop := solidCoversRow.holds Tryz.pinned (OpenSpec.ofChange solidCoversSpec)

/-- ITS FALSE NEIGHBOUR: 'it returns false'. Refute it at one input. -/
def solidCoversWrong : ChangeSpec := { name := "solidCovers", fn := fun _ => fun
  | [d1, d2] => { results := [.lit (.bool false)], args := [d1, d2] }
  | _ => none }
def SolidCoversWrongFalsely : Prop := solidCoversRow.holds Tryz.pinned (OpenSpec.ofChange solidCoversWrong)

/-- 'spokeshavelaw01.SolidNormals': WHATEVER THE INPUT: true; the input reads as it did. -/
def solidNormalsSpec : ChangeSpec := { name := "solidNormals", fn := fun _ => fun
  | [d] => { results := [.lit (.bool true)], args := [d] }
  | _ => none }
def solidNormalsRow : OpenClaim := { program := "ytbhgkadklklmbaagreat", sum := "40c3543f14bd016d0e32880872e97cdefa770e52e4b8bf40c19a1cd48854120c", func := "spokeshave/spokeshavelaw01.SolidNormals", spec := "solidNormals", unfollowed := true, recurses := true, apart := false }
def SolidNormalsSaid : Prop := solidNormalsRow.holds Tryz.pinned (OpenSpec.ofChange solidNormalsSpec)

/-- ITS FALSE NEIGHBOUR: 'it returns false'. Refute it at one input. -/
def solidNormalsWrong : ChangeSpec := { name := "solidNormals", fn := fun _ => fun
  | [d] => { results := [.lit (.bool false)], args := [d] }
  | _ => none }
def SolidNormalsWrongFalsely : Prop := solidNormalsRow.holds Tryz.pinned (OpenSpec.ofChange solidNormalsWrong)

/-- 'spokeshavelaw01.SolidTouches': WHATEVER THE INPUT: true; the input reads as it did. -/
def solidTouchesSpec : ChangeSpec := { name := "solidTouches", fn := fun _ => fun
  | [d1, d2] => { results := [.lit (.bool true)], args := [d1, d2] }
  | _ => none }
def solidTouchesRow : OpenClaim := { program := "ytbhgkadklklmbaagreat", sum := "40c3543f14bd016d0e32880872e97cdefa770e52e4b8bf40c19a1cd48854120c", func := "spokeshave/spokeshavelaw01.SolidTouches", spec := "solidTouches", unfollowed := true, recurses := true, apart := false }
def SolidTouchesSaid : Prop := solidTouchesRow.holds Tryz.pinned (OpenSpec.ofChange solidTouchesSpec)

/-- ITS FALSE NEIGHBOUR: 'it returns false'. Refute it at one input. -/
def solidTouchesWrong : ChangeSpec := { name := "solidTouches", fn := fun _ => fun
  | [d1, d2] => { results := [.lit (.bool false)], args := [d1, d2] }
  | _ => none }
def SolidTouchesWrongFalsely : Prop := solidTouchesRow.holds Tryz.pinned (OpenSpec.ofChange solidTouchesWrong)

/-- 'spokeshavelaw01.SolidVolumes': WHATEVER THE INPUT: true; the input reads as it did. -/
def solidVolumesSpec : ChangeSpec := { name := "solidVolumes", fn := fun _ => fun
  | [d1, d2] => { results := [.lit (.bool true)], args := [d1, d2] }
  | _ => none }
def solidVolumesRow : OpenClaim := { program := "ytbhgkadklklmbaagreat", sum := "40c3543f14bd016d0e32880872e97cdefa770e52e4b8bf40c19a1cd48854120c", func := "spokeshave/spokeshavelaw01.SolidVolumes", spec := "solidVolumes", unfollowed := true, recurses := true, apart := false }
def SolidVolumesSaid : Prop := solidVolumesRow.holds Tryz.pinned (OpenSpec.ofChange solidVolumesSpec)

/-- ITS FALSE NEIGHBOUR: 'it returns false'. Refute it at one input. -/
def solidVolumesWrong : ChangeSpec := { name := "solidVolumes", fn := fun _ => fun
  | [d1, d2] => { results := [.lit (.bool false)], args := [d1, d2] }
  | _ => none }
def SolidVolumesWrongFalsely : Prop := solidVolumesRow.holds Tryz.pinned (OpenSpec.ofChange solidVolumesWrong)

/-- 'spokeshavelaw01.SolidChecks': WHATEVER THE INPUT: true; the input reads as it did. -/
def solidChecksSpec : ChangeSpec := { name := "solidChecks", fn := fun _ => fun
  | [d] => { results := [.lit (.bool true)], args := [d] }
  | _ => none }
def solidChecksRow : OpenClaim := { program := "ytbhgkadklklmbaagreat", sum := "40c3543f14bd016d0e32880872e97cdefa770e52e4b8bf40c19a1cd48854120c", func := "spokeshave/spokeshavelaw01.SolidChecks", spec := "solidChecks", unfollowed := true, recurses := true, apart := false }
def SolidChecksSaid : Prop := solidChecksRow.holds Tryz.pinned (OpenSpec.ofChange solidChecksSpec)

/-- ITS FALSE NEIGHBOUR: 'it returns false'. Refute it at one input. -/
def solidChecksWrong : ChangeSpec := { name := "solidChecks", fn := fun _ => fun
  | [d] => { results := [.lit (.bool false)], args := [d] }
  | _ => none }
def SolidChecksWrongFalsely : Prop := solidChecksRow.holds Tryz.pinned (OpenSpec.ofChange solidChecksWrong)

/-- 'spokeshavelaw01.SolidPlaces': WHATEVER THE INPUT: true; the input reads as it did. -/
def solidPlacesSpec : ChangeSpec := { name := "solidPlaces", fn := fun _ => fun
  | [d1, d2, d3] => { results := [.lit (.bool true)], args := [d1, d2, d3] }
  | _ => none }
def solidPlacesRow : OpenClaim := { program := "ytbhgkadklklmbaagreat", sum := "40c3543f14bd016d0e32880872e97cdefa770e52e4b8bf40c19a1cd48854120c", func := "spokeshave/spokeshavelaw01.SolidPlaces", spec := "solidPlaces", unfollowed := true, recurses := true, apart := false }
def SolidPlacesSaid : Prop := solidPlacesRow.holds Tryz.pinned (OpenSpec.ofChange solidPlacesSpec)

/-- ITS FALSE NEIGHBOUR: 'it returns false'. Refute it at one input. -/
def solidPlacesWrong : ChangeSpec := { name := "solidPlaces", fn := fun _ => fun
  | [d1, d2, d3] => { results := [.lit (.bool false)], args := [d1, d2, d3] }
  | _ => none }
def SolidPlacesWrongFalsely : Prop := solidPlacesRow.holds Tryz.pinned (OpenSpec.ofChange solidPlacesWrong)

/-- 'spokeshavelaw01.SolidWitnesses': WHATEVER THE INPUT: true; the input reads as it did. -/
def solidWitnessesSpec : ChangeSpec := { name := "solidWitnesses", fn := fun _ => fun
  | [d1, d2, d3] => { results := [.lit (.bool true)], args := [d1, d2, d3] }
  | _ => none }
def solidWitnessesRow : OpenClaim := { program := "ytbhgkadklklmbaagreat", sum := "40c3543f14bd016d0e32880872e97cdefa770e52e4b8bf40c19a1cd48854120c", func := "spokeshave/spokeshavelaw01.SolidWitnesses", spec := "solidWitnesses", unfollowed := true, recurses := true, apart := false }
def SolidWitnessesSaid : Prop := solidWitnessesRow.holds Tryz.pinned (OpenSpec.ofChange solidWitnessesSpec)

/-- ITS FALSE NEIGHBOUR: 'it returns false'. Refute it at one input. -/
def solidWitnessesWrong : ChangeSpec := { name := "solidWitnesses", fn := fun _ => fun
  | [d1, d2, d3] => { results := [.lit (.bool false)], args := [d1, d2, d3] }
  | _ => none }
def SolidWitnessesWrongFalsely : Prop := solidWitnessesRow.holds Tryz.pinned (OpenSpec.ofChange solidWitnessesWrong)

/-- 'spokeshavelaw01.SolidBoxes': WHATEVER THE INPUT: true; the input reads as it did. -/
def solidBoxesSpec : ChangeSpec := { name := "solidBoxes", fn := fun _ => fun
  | [d] => { results := [.lit (.bool true)], args := [d] }
  | _ => none }
def solidBoxesRow : OpenClaim := { program := "ytbhgkadklklmbaagreat", sum := "40c3543f14bd016d0e32880872e97cdefa770e52e4b8bf40c19a1cd48854120c", func := "spokeshave/spokeshavelaw01.SolidBoxes", spec := "solidBoxes", unfollowed := true, recurses := true, apart := false }
def SolidBoxesSaid : Prop := solidBoxesRow.holds Tryz.pinned (OpenSpec.ofChange solidBoxesSpec)

/-- ITS FALSE NEIGHBOUR: 'it returns false'. Refute it at one input. -/
def solidBoxesWrong : ChangeSpec := { name := "solidBoxes", fn := fun _ => fun
  | [d] => { results := [.lit (.bool false)], args := [d] }
  | _ => none }
def SolidBoxesWrongFalsely : Prop := solidBoxesRow.holds Tryz.pinned (OpenSpec.ofChange solidBoxesWrong)

/-- 'spokeshavelaw01.SolidPrisms': WHATEVER THE INPUT: true; the input reads as it did. -/
def solidPrismsSpec : ChangeSpec := { name := "solidPrisms", fn := fun _ => fun
  | [d1, d2, d3] => { results := [.lit (.bool true)], args := [d1, d2, d3] }
  | _ => none }
def solidPrismsRow : OpenClaim := { program := "ytbhgkadklklmbaagreat", sum := "40c3543f14bd016d0e32880872e97cdefa770e52e4b8bf40c19a1cd48854120c", func := "spokeshave/spokeshavelaw01.SolidPrisms", spec := "solidPrisms", unfollowed := true, recurses := true, apart := false }
def SolidPrismsSaid : Prop := solidPrismsRow.holds Tryz.pinned (OpenSpec.ofChange solidPrismsSpec)

/-- ITS FALSE NEIGHBOUR: 'it returns false'. Refute it at one input. -/
def solidPrismsWrong : ChangeSpec := { name := "solidPrisms", fn := fun _ => fun
  | [d1, d2, d3] => { results := [.lit (.bool false)], args := [d1, d2, d3] }
  | _ => none }
def SolidPrismsWrongFalsely : Prop := solidPrismsRow.holds Tryz.pinned (OpenSpec.ofChange solidPrismsWrong)

/-- 'spokeshavelaw01.SolidMeets': WHATEVER THE INPUT: true; the input reads as it did. -/
def solidMeetsSpec : ChangeSpec := { name := "solidMeets", fn := fun _ => fun
  | [d1, d2] => { results := [.lit (.bool true)], args := [d1, d2] }
  | _ => none }
def solidMeetsRow : OpenClaim := { program := "ytbhgkadklklmbaagreat", sum := "40c3543f14bd016d0e32880872e97cdefa770e52e4b8bf40c19a1cd48854120c", func := "spokeshave/spokeshavelaw01.SolidMeets", spec := "solidMeets", unfollowed := true, recurses := true, apart := false }
def SolidMeetsSaid : Prop := solidMeetsRow.holds Tryz.pinned (OpenSpec.ofChange solidMeetsSpec)

/-- ITS FALSE NEIGHBOUR: 'it returns false'. Refute it at one input. -/
def solidMeetsWrong : ChangeSpec := { name := "solidMeets", fn := fun _ => fun
  | [d1, d2] => { results := [.lit (.bool false)], args := [d1, d2] }
  | _ => none }
def SolidMeetsWrongFalsely : Prop := solidMeetsRow.holds Tryz.pinned (OpenSpec.ofChange solidMeetsWrong)

/-- 'spokeshavelaw01.SolidClashes': WHATEVER THE INPUT: true; the input reads as it did. -/
def solidClashesSpec : ChangeSpec := { name := "solidClashes", fn := fun _ => fun
  | [d1, d2] => { results := [.lit (.bool true)], args := [d1, d2] }
  | _ => none }
def solidClashesRow : OpenClaim := { program := "ytbhgkadklklmbaagreat", sum := "40c3543f14bd016d0e32880872e97cdefa770e52e4b8bf40c19a1cd48854120c", func := "spokeshave/spokeshavelaw01.SolidClashes", spec := "solidClashes", unfollowed := true, recurses := true, apart := false }
def SolidClashesSaid : Prop := solidClashesRow.holds Tryz.pinned (OpenSpec.ofChange solidClashesSpec)

/-- ITS FALSE NEIGHBOUR: 'it returns false'. Refute it at one input. -/
def solidClashesWrong : ChangeSpec := { name := "solidClashes", fn := fun _ => fun
  | [d1, d2] => { results := [.lit (.bool false)], args := [d1, d2] }
  | _ => none }
def SolidClashesWrongFalsely : Prop := solidClashesRow.holds Tryz.pinned (OpenSpec.ofChange solidClashesWrong)

/-- 'spokeshavelaw01.SolidGroup': WHATEVER THE INPUT: true; the input reads as it did. -/
def solidGroupSpec : ChangeSpec := { name := "solidGroup", fn := fun _ => fun
  | [d1, d2] => { results := [.lit (.bool true)], args := [d1, d2] }
  | _ => none }
def solidGroupRow : OpenClaim := { program := "ytbhgkadklklmbaagreat", sum := "40c3543f14bd016d0e32880872e97cdefa770e52e4b8bf40c19a1cd48854120c", func := "spokeshave/spokeshavelaw01.SolidGroup", spec := "solidGroup", unfollowed := true, recurses := true, apart := false }
def SolidGroupSaid : Prop := solidGroupRow.holds Tryz.pinned (OpenSpec.ofChange solidGroupSpec)

/-- ITS FALSE NEIGHBOUR: 'it returns false'. Refute it at one input. -/
def solidGroupWrong : ChangeSpec := { name := "solidGroup", fn := fun _ => fun
  | [d1, d2] => { results := [.lit (.bool false)], args := [d1, d2] }
  | _ => none }
def SolidGroupWrongFalsely : Prop := solidGroupRow.holds Tryz.pinned (OpenSpec.ofChange solidGroupWrong)

/-- 'spokeshavelaw01.SolidParts': WHATEVER THE INPUT: true; the input reads as it did. -/
def solidPartsSpec : ChangeSpec := { name := "solidParts", fn := fun _ => fun
  | [d1, d2] => { results := [.lit (.bool true)], args := [d1, d2] }
  | _ => none }
def solidPartsRow : OpenClaim := { program := "ytbhgkadklklmbaagreat", sum := "40c3543f14bd016d0e32880872e97cdefa770e52e4b8bf40c19a1cd48854120c", func := "spokeshave/spokeshavelaw01.SolidParts", spec := "solidParts", unfollowed := true, recurses := true, apart := false }
def SolidPartsSaid : Prop := solidPartsRow.holds Tryz.pinned (OpenSpec.ofChange solidPartsSpec)

/-- ITS FALSE NEIGHBOUR: 'it returns false'. Refute it at one input. -/
def solidPartsWrong : ChangeSpec := { name := "solidParts", fn := fun _ => fun
  | [d1, d2] => { results := [.lit (.bool false)], args := [d1, d2] }
  | _ => none }
def SolidPartsWrongFalsely : Prop := solidPartsRow.holds Tryz.pinned (OpenSpec.ofChange solidPartsWrong)

/-- 'spokeshavelaw01.SolidTurns': WHATEVER THE INPUT: true; the input reads as it did. -/
def solidTurnsSpec : ChangeSpec := { name := "solidTurns", fn := fun _ => fun
  | [d1, d2, d3] => { results := [.lit (.bool true)], args := [d1, d2, d3] }
  | _ => none }
def solidTurnsRow : OpenClaim := { program := "ytbhgkadklklmbaagreat", sum := "40c3543f14bd016d0e32880872e97cdefa770e52e4b8bf40c19a1cd48854120c", func := "spokeshave/spokeshavelaw01.SolidTurns", spec := "solidTurns", unfollowed := true, recurses := true, apart := false }
def SolidTurnsSaid : Prop := solidTurnsRow.holds Tryz.pinned (OpenSpec.ofChange solidTurnsSpec)

/-- ITS FALSE NEIGHBOUR: 'it returns false'. Refute it at one input. -/
def solidTurnsWrong : ChangeSpec := { name := "solidTurns", fn := fun _ => fun
  | [d1, d2, d3] => { results := [.lit (.bool false)], args := [d1, d2, d3] }
  | _ => none }
def SolidTurnsWrongFalsely : Prop := solidTurnsRow.holds Tryz.pinned (OpenSpec.ofChange solidTurnsWrong)

/- THE SECOND FORM. 'bulk': how many values and letters a reading holds, each counted each time it is reached (what is shared counts as often as it is met; a slice's spare places count too). A statement '..UptoSaid' is the law's where the arguments, and the package variables that the reading takes, are together of bulk at most 1048576: NARROWER than '..Said'. Prove '..Said' where nothing that the law and all that it calls make is longer than what came in: it says more and counts as full. Else prove '..UptoSaid'. A law counts once. -/
mutual
def uptoBulk {H : Type} : DataW H → Nat
  | .lit (.string bytes) => bytes.length + 1
  | .lit _ => 1
  | .nil => 1
  | .ptr d => uptoBulk d + 1
  | .slice elems spare => uptoBulkAll elems + uptoBulkAll spare + 1
  | .agg parts => uptoBulkAll parts + 1
  | .iface _ d => uptoBulk d + 1
  | .map entries => uptoBulkEntries entries + 1
  | .held _ => 1
def uptoBulkAll {H : Type} : List (DataW H) → Nat
  | [] => 0
  | d :: r => uptoBulk d + uptoBulkAll r
def uptoBulkEntries {H : Type} : List (Lit × DataW H) → Nat
  | [] => 0
  | x :: r => uptoBulkEntry x + uptoBulkEntries r
def uptoBulkEntry {H : Type} : Lit × DataW H → Nat
  | (.string bytes, d) => bytes.length + uptoBulk d + 1
  | (_, d) => uptoBulk d + 1
 end
def uptoSmall : (H : Type) → List (DataW H) → Bool := fun _ ds => decide (uptoBulkAll ds ≤ 1048576)
def OpenSpec.upto (s : _root_.Go.ChangeSpec) : _root_.Go.OpenSpec := { _root_.Go.OpenSpec.ofChange s with cond := some uptoSmall }

/-- 'spokeshavelaw01.SolidCells', WHERE WHAT IT READS IS OF BULK AT MOST 1048576: true; the input reads as it did. -/
def solidCellsUptoRow : OpenClaim := { program := "ytbhgkadklklmbaagreat", sum := "40c3543f14bd016d0e32880872e97cdefa770e52e4b8bf40c19a1cd48854120c", func := "spokeshave/spokeshavelaw01.SolidCells", spec := "solidCells", unfollowed := true, recurses := true, apart := false, narrowed := true }
def SolidCellsUptoSaid : Prop := solidCellsUptoRow.holds Tryz.pinned (OpenSpec.upto solidCellsSpec)

/-- 'spokeshavelaw01.SolidCovers', WHERE WHAT IT READS IS OF BULK AT MOST 1048576: true; the input reads as it did. -/
def solidCoversUptoRow : OpenClaim := { program := "ytbhgkadklklmbaagreat", sum := "40c3543f14bd016d0e32880872e97cdefa770e52e4b8bf40c19a1cd48854120c", func := "spokeshave/spokeshavelaw01.SolidCovers", spec := "solidCovers", unfollowed := true, recurses := true, apart := false, narrowed := true }
def SolidCoversUptoSaid : Prop := solidCoversUptoRow.holds Tryz.pinned (OpenSpec.upto solidCoversSpec)

/-- 'spokeshavelaw01.SolidNormals', WHERE WHAT IT READS IS OF BULK AT MOST 1048576: true; the input reads as it did. -/
def solidNormalsUptoRow : OpenClaim := { program := "ytbhgkadklklmbaagreat", sum := "40c3543f14bd016d0e32880872e97cdefa770e52e4b8bf40c19a1cd48854120c", func := "spokeshave/spokeshavelaw01.SolidNormals", spec := "solidNormals", unfollowed := true, recurses := true, apart := false, narrowed := true }
def SolidNormalsUptoSaid : Prop := solidNormalsUptoRow.holds Tryz.pinned (OpenSpec.upto solidNormalsSpec)

/-- 'spokeshavelaw01.SolidTouches', WHERE WHAT IT READS IS OF BULK AT MOST 1048576: true; the input reads as it did. -/
def solidTouchesUptoRow : OpenClaim := { program := "ytbhgkadklklmbaagreat", sum := "40c3543f14bd016d0e32880872e97cdefa770e52e4b8bf40c19a1cd48854120c", func := "spokeshave/spokeshavelaw01.SolidTouches", spec := "solidTouches", unfollowed := true, recurses := true, apart := false, narrowed := true }
def SolidTouchesUptoSaid : Prop := solidTouchesUptoRow.holds Tryz.pinned (OpenSpec.upto solidTouchesSpec)

/-- 'spokeshavelaw01.SolidVolumes', WHERE WHAT IT READS IS OF BULK AT MOST 1048576: true; the input reads as it did. -/
def solidVolumesUptoRow : OpenClaim := { program := "ytbhgkadklklmbaagreat", sum := "40c3543f14bd016d0e32880872e97cdefa770e52e4b8bf40c19a1cd48854120c", func := "spokeshave/spokeshavelaw01.SolidVolumes", spec := "solidVolumes", unfollowed := true, recurses := true, apart := false, narrowed := true }
def SolidVolumesUptoSaid : Prop := solidVolumesUptoRow.holds Tryz.pinned (OpenSpec.upto solidVolumesSpec)

/-- 'spokeshavelaw01.SolidChecks', WHERE WHAT IT READS IS OF BULK AT MOST 1048576: true; the input reads as it did. -/
def solidChecksUptoRow : OpenClaim := { program := "ytbhgkadklklmbaagreat", sum := "40c3543f14bd016d0e32880872e97cdefa770e52e4b8bf40c19a1cd48854120c", func := "spokeshave/spokeshavelaw01.SolidChecks", spec := "solidChecks", unfollowed := true, recurses := true, apart := false, narrowed := true }
def SolidChecksUptoSaid : Prop := solidChecksUptoRow.holds Tryz.pinned (OpenSpec.upto solidChecksSpec)

/-- 'spokeshavelaw01.SolidPlaces', WHERE WHAT IT READS IS OF BULK AT MOST 1048576: true; the input reads as it did. -/
def solidPlacesUptoRow : OpenClaim := { program := "ytbhgkadklklmbaagreat", sum := "40c3543f14bd016d0e32880872e97cdefa770e52e4b8bf40c19a1cd48854120c", func := "spokeshave/spokeshavelaw01.SolidPlaces", spec := "solidPlaces", unfollowed := true, recurses := true, apart := false, narrowed := true }
def SolidPlacesUptoSaid : Prop := solidPlacesUptoRow.holds Tryz.pinned (OpenSpec.upto solidPlacesSpec)

/-- 'spokeshavelaw01.SolidWitnesses', WHERE WHAT IT READS IS OF BULK AT MOST 1048576: true; the input reads as it did. -/
def solidWitnessesUptoRow : OpenClaim := { program := "ytbhgkadklklmbaagreat", sum := "40c3543f14bd016d0e32880872e97cdefa770e52e4b8bf40c19a1cd48854120c", func := "spokeshave/spokeshavelaw01.SolidWitnesses", spec := "solidWitnesses", unfollowed := true, recurses := true, apart := false, narrowed := true }
def SolidWitnessesUptoSaid : Prop := solidWitnessesUptoRow.holds Tryz.pinned (OpenSpec.upto solidWitnessesSpec)

/-- 'spokeshavelaw01.SolidBoxes', WHERE WHAT IT READS IS OF BULK AT MOST 1048576: true; the input reads as it did. -/
def solidBoxesUptoRow : OpenClaim := { program := "ytbhgkadklklmbaagreat", sum := "40c3543f14bd016d0e32880872e97cdefa770e52e4b8bf40c19a1cd48854120c", func := "spokeshave/spokeshavelaw01.SolidBoxes", spec := "solidBoxes", unfollowed := true, recurses := true, apart := false, narrowed := true }
def SolidBoxesUptoSaid : Prop := solidBoxesUptoRow.holds Tryz.pinned (OpenSpec.upto solidBoxesSpec)

/-- 'spokeshavelaw01.SolidPrisms', WHERE WHAT IT READS IS OF BULK AT MOST 1048576: true; the input reads as it did. -/
def solidPrismsUptoRow : OpenClaim := { program := "ytbhgkadklklmbaagreat", sum := "40c3543f14bd016d0e32880872e97cdefa770e52e4b8bf40c19a1cd48854120c", func := "spokeshave/spokeshavelaw01.SolidPrisms", spec := "solidPrisms", unfollowed := true, recurses := true, apart := false, narrowed := true }
def SolidPrismsUptoSaid : Prop := solidPrismsUptoRow.holds Tryz.pinned (OpenSpec.upto solidPrismsSpec)

/-- 'spokeshavelaw01.SolidMeets', WHERE WHAT IT READS IS OF BULK AT MOST 1048576: true; the input reads as it did. -/
def solidMeetsUptoRow : OpenClaim := { program := "ytbhgkadklklmbaagreat", sum := "40c3543f14bd016d0e32880872e97cdefa770e52e4b8bf40c19a1cd48854120c", func := "spokeshave/spokeshavelaw01.SolidMeets", spec := "solidMeets", unfollowed := true, recurses := true, apart := false, narrowed := true }
def SolidMeetsUptoSaid : Prop := solidMeetsUptoRow.holds Tryz.pinned (OpenSpec.upto solidMeetsSpec)

/-- 'spokeshavelaw01.SolidClashes', WHERE WHAT IT READS IS OF BULK AT MOST 1048576: true; the input reads as it did. -/
def solidClashesUptoRow : OpenClaim := { program := "ytbhgkadklklmbaagreat", sum := "40c3543f14bd016d0e32880872e97cdefa770e52e4b8bf40c19a1cd48854120c", func := "spokeshave/spokeshavelaw01.SolidClashes", spec := "solidClashes", unfollowed := true, recurses := true, apart := false, narrowed := true }
def SolidClashesUptoSaid : Prop := solidClashesUptoRow.holds Tryz.pinned (OpenSpec.upto solidClashesSpec)

/-- 'spokeshavelaw01.SolidGroup', WHERE WHAT IT READS IS OF BULK AT MOST 1048576: true; the input reads as it did. -/
def solidGroupUptoRow : OpenClaim := { program := "ytbhgkadklklmbaagreat", sum := "40c3543f14bd016d0e32880872e97cdefa770e52e4b8bf40c19a1cd48854120c", func := "spokeshave/spokeshavelaw01.SolidGroup", spec := "solidGroup", unfollowed := true, recurses := true, apart := false, narrowed := true }
def SolidGroupUptoSaid : Prop := solidGroupUptoRow.holds Tryz.pinned (OpenSpec.upto solidGroupSpec)

/-- 'spokeshavelaw01.SolidParts', WHERE WHAT IT READS IS OF BULK AT MOST 1048576: true; the input reads as it did. -/
def solidPartsUptoRow : OpenClaim := { program := "ytbhgkadklklmbaagreat", sum := "40c3543f14bd016d0e32880872e97cdefa770e52e4b8bf40c19a1cd48854120c", func := "spokeshave/spokeshavelaw01.SolidParts", spec := "solidParts", unfollowed := true, recurses := true, apart := false, narrowed := true }
def SolidPartsUptoSaid : Prop := solidPartsUptoRow.holds Tryz.pinned (OpenSpec.upto solidPartsSpec)

/-- 'spokeshavelaw01.SolidTurns', WHERE WHAT IT READS IS OF BULK AT MOST 1048576: true; the input reads as it did. -/
def solidTurnsUptoRow : OpenClaim := { program := "ytbhgkadklklmbaagreat", sum := "40c3543f14bd016d0e32880872e97cdefa770e52e4b8bf40c19a1cd48854120c", func := "spokeshave/spokeshavelaw01.SolidTurns", spec := "solidTurns", unfollowed := true, recurses := true, apart := false, narrowed := true }
def SolidTurnsUptoSaid : Prop := solidTurnsUptoRow.holds Tryz.pinned (OpenSpec.upto solidTurnsSpec)

end Rows
end Go.Proofs.YtbhgkadklklmbaaGreat
