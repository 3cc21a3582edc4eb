/-
  DERIVED. GIVEN WITH THE SEED: THE CARDS: each row of YtbhdfaadedlcfaaGreatDoorRows.lean that lists a variable, with what it lists TIED to the program's text (the seventh form; the later family's looks); each row that meets fmt, with fmt's text TOLD by the authors' own Lean function (tested against real Go, not proved from fmt's source: count such statements apart). THE CARD IS WHAT COUNTS. Prove the row's statement (the work); the ties are given (YtbhdfaadedlcfaaGreatDoorTie.lean); close each card by the builder's one call (the guide's Derived/Test/ToyasCard.lean, 'card_holds'). Laid BY PROGRAM, IN A SANDBOX (cutbox-door.mjs). By AI agents, Wed Nov 11 2026. No macro, syntax, notation, axiom, sorry.
-/
import Derived.Test.YtbhdfaadedlcfaaGreatDoorRows
import GoSem.ClaimSeven
namespace Go.Proofs.YtbhdfaadedlcfaaGreatDoor
namespace Rows

/-- THE TIED CARD OF 'knapsacklaw13.DepthTells'. -/
def depthTellsCard : Claim7 := { stood := { row := depthTellsRow, standIns := [], harness := (true, "c3cc44be597d4c89c11e976b115ac6fadc5d50d7ae8ab710ccadf3bcf1bd634a"), looks := true }, kinds := [], alts := [], laidByText := true, laidKinds := [.data], laidTests := true, laidLooks := .later }
def DepthTellsCardSaid : Prop := Claim7.holds Tryz.pinned (.plain (OpenSpec.ofChange depthTellsSpec)) depthTellsCard

/-- THE TIED CARD OF 'knapsacklaw13.DepthCuts'. -/
def depthCutsCard : Claim7 := { stood := { row := depthCutsRow, standIns := [], harness := (true, "c3cc44be597d4c89c11e976b115ac6fadc5d50d7ae8ab710ccadf3bcf1bd634a"), looks := true }, kinds := [], alts := [], laidByText := true, laidKinds := [.data], laidTests := true, laidLooks := .later }
def DepthCutsCardSaid : Prop := Claim7.holds Tryz.pinned (.plain (OpenSpec.ofChange depthCutsSpec)) depthCutsCard

/-- THE SECOND FORM's CARD OF 'knapsacklaw13.DepthTells'. -/
def depthTellsUptoCard : Claim7 := { stood := { row := depthTellsUptoRow, standIns := [], harness := (true, "c3cc44be597d4c89c11e976b115ac6fadc5d50d7ae8ab710ccadf3bcf1bd634a"), looks := true }, kinds := [], alts := [], laidByText := true, laidKinds := [.data], laidTests := true, laidLooks := .later }
def DepthTellsUptoCardSaid : Prop := Claim7.holds Tryz.pinned (.plain (OpenSpec.upto depthTellsSpec)) depthTellsUptoCard

/-- THE SECOND FORM's CARD OF 'knapsacklaw13.DepthCuts'. -/
def depthCutsUptoCard : Claim7 := { stood := { row := depthCutsUptoRow, standIns := [], harness := (true, "c3cc44be597d4c89c11e976b115ac6fadc5d50d7ae8ab710ccadf3bcf1bd634a"), looks := true }, kinds := [], alts := [], laidByText := true, laidKinds := [.data], laidTests := true, laidLooks := .later }
def DepthCutsUptoCardSaid : Prop := Claim7.holds Tryz.pinned (.plain (OpenSpec.upto depthCutsSpec)) depthCutsUptoCard
end Rows
end Go.Proofs.YtbhdfaadedlcfaaGreatDoor
