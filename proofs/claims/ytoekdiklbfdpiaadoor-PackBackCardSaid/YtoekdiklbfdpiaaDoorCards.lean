/-
  DERIVED. GIVEN WITH THE SEED: THE CARDS: each row of YtoekdiklbfdpiaaDoorRows.lean that lists a variable, with what it lists TIED to the program's text (the seventh form; the later family's looks); each row that meets fmt, with fmt's text TOLD by the authors' own Lean function (tested against real Go, not proved from fmt's source: count such statements apart). THE CARD IS WHAT COUNTS. Prove the row's statement (the work); the ties are given (YtoekdiklbfdpiaaDoorTie.lean); close each card by the builder's one call (the guide's Derived/Test/ToyasCard.lean, 'card_holds'). Laid BY PROGRAM, IN A SANDBOX (cutbox-door.mjs). By AI agents, Wed Nov 11 2026. No macro, syntax, notation, axiom, sorry.
-/
import Derived.Test.YtoekdiklbfdpiaaDoorRows
import GoSem.ClaimSeven
namespace Go.Proofs.YtoekdiklbfdpiaaDoor
namespace Rows

/-- THE TIED CARD OF 'knapsacklaw15.PackStored'. -/
def packStoredCard : Claim7 := { stood := { row := packStoredRow, standIns := [], harness := (true, "29d1d827e3d9371f2c44cb6c994f27e58918088ed0c5b606d4458feec0492211"), looks := false }, kinds := [], alts := [], laidByText := true, laidKinds := [.data], laidTests := true, laidLooks := .later }
def PackStoredCardSaid : Prop := Claim7.holds Tryd.pinned (.plain (OpenSpec.ofChange packStoredSpec)) packStoredCard

/-- THE TIED CARD OF 'knapsacklaw15.PackDecodes'. -/
def packDecodesCard : Claim7 := { stood := { row := packDecodesRow, standIns := [], harness := (true, "29d1d827e3d9371f2c44cb6c994f27e58918088ed0c5b606d4458feec0492211"), looks := false }, kinds := [], alts := [], laidByText := true, laidKinds := [.data], laidTests := true, laidLooks := .later }
def PackDecodesCardSaid : Prop := Claim7.holds Tryd.pinned (.plain (OpenSpec.ofChange packDecodesSpec)) packDecodesCard

/-- THE TIED CARD OF 'knapsacklaw15.PackBack'. -/
def packBackCard : Claim7 := { stood := { row := packBackRow, standIns := [], harness := (true, "29d1d827e3d9371f2c44cb6c994f27e58918088ed0c5b606d4458feec0492211"), looks := false }, kinds := [], alts := [], laidByText := true, laidKinds := [.data], laidTests := true, laidLooks := .later }
def PackBackCardSaid : Prop := Claim7.holds Tryd.pinned (.plain (OpenSpec.ofChange packBackSpec)) packBackCard

/-- THE SECOND FORM's CARD OF 'knapsacklaw15.PackStored'. -/
def packStoredUptoCard : Claim7 := { stood := { row := packStoredUptoRow, standIns := [], harness := (true, "29d1d827e3d9371f2c44cb6c994f27e58918088ed0c5b606d4458feec0492211"), looks := false }, kinds := [], alts := [], laidByText := true, laidKinds := [.data], laidTests := true, laidLooks := .later }
def PackStoredUptoCardSaid : Prop := Claim7.holds Tryd.pinned (.plain (OpenSpec.upto packStoredSpec)) packStoredUptoCard

/-- THE SECOND FORM's CARD OF 'knapsacklaw15.PackDecodes'. -/
def packDecodesUptoCard : Claim7 := { stood := { row := packDecodesUptoRow, standIns := [], harness := (true, "29d1d827e3d9371f2c44cb6c994f27e58918088ed0c5b606d4458feec0492211"), looks := false }, kinds := [], alts := [], laidByText := true, laidKinds := [.data], laidTests := true, laidLooks := .later }
def PackDecodesUptoCardSaid : Prop := Claim7.holds Tryd.pinned (.plain (OpenSpec.upto packDecodesSpec)) packDecodesUptoCard

/-- THE SECOND FORM's CARD OF 'knapsacklaw15.PackBack'. -/
def packBackUptoCard : Claim7 := { stood := { row := packBackUptoRow, standIns := [], harness := (true, "29d1d827e3d9371f2c44cb6c994f27e58918088ed0c5b606d4458feec0492211"), looks := false }, kinds := [], alts := [], laidByText := true, laidKinds := [.data], laidTests := true, laidLooks := .later }
def PackBackUptoCardSaid : Prop := Claim7.holds Tryd.pinned (.plain (OpenSpec.upto packBackSpec)) packBackUptoCard
end Rows
end Go.Proofs.YtoekdiklbfdpiaaDoor
