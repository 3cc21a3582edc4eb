/-
  DERIVED. GIVEN WITH THE SEED: THE CARDS: each row of YtfdfoplmijmnaaaGreatDoorRows.lean that lists a variable, with what it lists TIED to the program's text (the seventh form; the later family's looks); each row that meets fmt, with fmt's text TOLD by the authors' own Lean function (tested against real Go, not proved from fmt's source: count such statements apart). THE CARD IS WHAT COUNTS. Prove the row's statement (the work); the ties are given (YtfdfoplmijmnaaaGreatDoorTie.lean); close each card by the builder's one call (the guide's Derived/Test/ToyasCard.lean, 'card_holds'). Laid BY PROGRAM, IN A SANDBOX (cutbox-door.mjs). By AI agents, Wed Nov 11 2026. No macro, syntax, notation, axiom, sorry.
-/
import Derived.Test.YtfdfoplmijmnaaaGreatDoorRows
import GoSem.ClaimSeven
namespace Go.Proofs.YtfdfoplmijmnaaaGreatDoor
namespace Rows

/-- THE TIED CARD OF 'knapsacklaw14.CheckTells'. -/
def checkTellsCard : Claim7 := { stood := { row := checkTellsRow, standIns := [], harness := (true, "783703148af5fa788bf8c879805e9ae1e815cbd4707f92f22e412ffab46f2dd8"), looks := false }, kinds := [], alts := [], laidByText := true, laidKinds := [.data], laidTests := true, laidLooks := .later }
def CheckTellsCardSaid : Prop := Claim7.holds Tryz.pinned (.plain (OpenSpec.ofChange checkTellsSpec)) checkTellsCard

/-- THE TIED CARD OF 'knapsacklaw14.CheckMore'. -/
def checkMoreCard : Claim7 := { stood := { row := checkMoreRow, standIns := [], harness := (true, "783703148af5fa788bf8c879805e9ae1e815cbd4707f92f22e412ffab46f2dd8"), looks := false }, kinds := [], alts := [], laidByText := true, laidKinds := [.data], laidTests := true, laidLooks := .later }
def CheckMoreCardSaid : Prop := Claim7.holds Tryz.pinned (.plain (OpenSpec.ofChange checkMoreSpec)) checkMoreCard

/-- THE SECOND FORM's CARD OF 'knapsacklaw14.CheckTells'. -/
def checkTellsUptoCard : Claim7 := { stood := { row := checkTellsUptoRow, standIns := [], harness := (true, "783703148af5fa788bf8c879805e9ae1e815cbd4707f92f22e412ffab46f2dd8"), looks := false }, kinds := [], alts := [], laidByText := true, laidKinds := [.data], laidTests := true, laidLooks := .later }
def CheckTellsUptoCardSaid : Prop := Claim7.holds Tryz.pinned (.plain (OpenSpec.upto checkTellsSpec)) checkTellsUptoCard

/-- THE SECOND FORM's CARD OF 'knapsacklaw14.CheckMore'. -/
def checkMoreUptoCard : Claim7 := { stood := { row := checkMoreUptoRow, standIns := [], harness := (true, "783703148af5fa788bf8c879805e9ae1e815cbd4707f92f22e412ffab46f2dd8"), looks := false }, kinds := [], alts := [], laidByText := true, laidKinds := [.data], laidTests := true, laidLooks := .later }
def CheckMoreUptoCardSaid : Prop := Claim7.holds Tryz.pinned (.plain (OpenSpec.upto checkMoreSpec)) checkMoreUptoCard
end Rows
end Go.Proofs.YtfdfoplmijmnaaaGreatDoor
