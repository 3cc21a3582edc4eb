/-
  DERIVED. GIVEN WITH THE SEED: THE CARDS: each row of YtbcbmjdmlcldjaaGreatDoorRows.lean that lists a variable, with what it lists TIED to the program's text (the seventh form; the later family's looks); each row that meets fmt, with fmt's text TOLD by the authors' own Lean function (tested against real Go, not proved from fmt's source: count such statements apart). THE CARD IS WHAT COUNTS. Prove the row's statement (the work); the ties are given (YtbcbmjdmlcldjaaGreatDoorTie.lean); close each card by the builder's one call (the guide's Derived/Test/ToyasCard.lean, 'card_holds'). Laid BY PROGRAM, IN A SANDBOX (cutbox-door.mjs). By AI agents, Wed Nov 11 2026. No macro, syntax, notation, axiom, sorry.
-/
import Derived.Test.YtbcbmjdmlcldjaaGreatDoorRows
import GoSem.ClaimSeven
namespace Go.Proofs.YtbcbmjdmlcldjaaGreatDoor
namespace Rows

/-- THE TIED CARD OF 'knapsacklaw19.AckTells'. -/
def ackTellsCard : Claim7 := { stood := { row := ackTellsRow, standIns := [], harness := (true, "6316b756438730f8a118fc613e8a8dc20841a7dbaeac7fc22fd37797ce8ed1c9"), looks := true }, kinds := [], alts := [], laidByText := true, laidKinds := [.data], laidTests := true, laidLooks := .later }
def AckTellsCardSaid : Prop := Claim7.holds Tryz.pinned (.plain (OpenSpec.ofChange ackTellsSpec)) ackTellsCard

/-- THE TIED CARD OF 'knapsacklaw19.AckEnds'. -/
def ackEndsCard : Claim7 := { stood := { row := ackEndsRow, standIns := [], harness := (true, "6316b756438730f8a118fc613e8a8dc20841a7dbaeac7fc22fd37797ce8ed1c9"), looks := true }, kinds := [], alts := [], laidByText := true, laidKinds := [.data], laidTests := true, laidLooks := .later }
def AckEndsCardSaid : Prop := Claim7.holds Tryz.pinned (.plain (OpenSpec.ofChange ackEndsSpec)) ackEndsCard

/-- THE SECOND FORM's CARD OF 'knapsacklaw19.AckTells'. -/
def ackTellsUptoCard : Claim7 := { stood := { row := ackTellsUptoRow, standIns := [], harness := (true, "6316b756438730f8a118fc613e8a8dc20841a7dbaeac7fc22fd37797ce8ed1c9"), looks := true }, kinds := [], alts := [], laidByText := true, laidKinds := [.data], laidTests := true, laidLooks := .later }
def AckTellsUptoCardSaid : Prop := Claim7.holds Tryz.pinned (.plain (OpenSpec.upto ackTellsSpec)) ackTellsUptoCard

/-- THE SECOND FORM's CARD OF 'knapsacklaw19.AckEnds'. -/
def ackEndsUptoCard : Claim7 := { stood := { row := ackEndsUptoRow, standIns := [], harness := (true, "6316b756438730f8a118fc613e8a8dc20841a7dbaeac7fc22fd37797ce8ed1c9"), looks := true }, kinds := [], alts := [], laidByText := true, laidKinds := [.data], laidTests := true, laidLooks := .later }
def AckEndsUptoCardSaid : Prop := Claim7.holds Tryz.pinned (.plain (OpenSpec.upto ackEndsSpec)) ackEndsUptoCard
end Rows
end Go.Proofs.YtbcbmjdmlcldjaaGreatDoor
