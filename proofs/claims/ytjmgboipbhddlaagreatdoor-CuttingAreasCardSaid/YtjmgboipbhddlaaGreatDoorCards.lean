/-
  DERIVED. GIVEN WITH THE SEED: THE CARDS: each row of YtjmgboipbhddlaaGreatDoorRows.lean that lists a variable, with what it lists TIED to the program's text (the seventh form; the later family's looks); each row that meets fmt, with fmt's text TOLD by the authors' own Lean function (tested against real Go, not proved from fmt's source: count such statements apart). THE CARD IS WHAT COUNTS. Prove the row's statement (the work); the ties are given (YtjmgboipbhddlaaGreatDoorTie.lean); close each card by the builder's one call (the guide's Derived/Test/ToyasCard.lean, 'card_holds'). Laid BY PROGRAM, IN A SANDBOX (cutbox-door.mjs). By AI agents, Wed Nov 11 2026. No macro, syntax, notation, axiom, sorry.
-/
import Derived.Test.YtjmgboipbhddlaaGreatDoorRows
import GoSem.ClaimSeven
namespace Go.Proofs.YtjmgboipbhddlaaGreatDoor
namespace Rows

/-- THE TIED CARD OF 'spokeshavelaw08.CuttingAreas'. -/
def cuttingAreasCard : Claim7 := { stood := { row := cuttingAreasRow, standIns := [], harness := (true, "56f06f80f8c017e55461ee010f44ea57d6a0052d04aeab8f48784ca0642ef455"), looks := false }, kinds := [], alts := [], laidByText := true, laidKinds := [.data, .data, .data], laidTests := true, laidLooks := .later }
def CuttingAreasCardSaid : Prop := Claim7.holds Tryz.pinned (.plain (OpenSpec.ofChange cuttingAreasSpec)) cuttingAreasCard

/-- THE TIED CARD OF 'spokeshavetop.TopOffcutsAreBoards'. -/
def topOffcutsAreBoardsCard : Claim7 := { stood := { row := topOffcutsAreBoardsRow, standIns := [], harness := (true, "56f06f80f8c017e55461ee010f44ea57d6a0052d04aeab8f48784ca0642ef455"), looks := false }, kinds := [], alts := [], laidByText := true, laidKinds := [.data, .data, .data], laidTests := true, laidLooks := .later }
def TopOffcutsAreBoardsCardSaid : Prop := Claim7.holds Tryz.pinned (.plain (OpenSpec.ofChange topOffcutsAreBoardsSpec)) topOffcutsAreBoardsCard

/-- THE SECOND FORM's CARD OF 'spokeshavelaw08.CuttingAreas'. -/
def cuttingAreasUptoCard : Claim7 := { stood := { row := cuttingAreasUptoRow, standIns := [], harness := (true, "56f06f80f8c017e55461ee010f44ea57d6a0052d04aeab8f48784ca0642ef455"), looks := false }, kinds := [], alts := [], laidByText := true, laidKinds := [.data, .data, .data], laidTests := true, laidLooks := .later }
def CuttingAreasUptoCardSaid : Prop := Claim7.holds Tryz.pinned (.plain (OpenSpec.upto cuttingAreasSpec)) cuttingAreasUptoCard

/-- THE SECOND FORM's CARD OF 'spokeshavetop.TopOffcutsAreBoards'. -/
def topOffcutsAreBoardsUptoCard : Claim7 := { stood := { row := topOffcutsAreBoardsUptoRow, standIns := [], harness := (true, "56f06f80f8c017e55461ee010f44ea57d6a0052d04aeab8f48784ca0642ef455"), looks := false }, kinds := [], alts := [], laidByText := true, laidKinds := [.data, .data, .data], laidTests := true, laidLooks := .later }
def TopOffcutsAreBoardsUptoCardSaid : Prop := Claim7.holds Tryz.pinned (.plain (OpenSpec.upto topOffcutsAreBoardsSpec)) topOffcutsAreBoardsUptoCard
end Rows
end Go.Proofs.YtjmgboipbhddlaaGreatDoor
