/-
  DERIVED. GIVEN WITH THE SEED: THE CARDS: each row of YtlojebhcemfodaaGreatDoorRows.lean that lists a variable, with what it lists TIED to the program's text (the seventh form; the later family's looks); each row that meets fmt, with fmt's text TOLD by the authors' own Lean function (tested against real Go, not proved from fmt's source: count such statements apart). THE CARD IS WHAT COUNTS. Prove the row's statement (the work); the ties are given (YtlojebhcemfodaaGreatDoorTie.lean); close each card by the builder's one call (the guide's Derived/Test/ToyasCard.lean, 'card_holds'). Laid BY PROGRAM, IN A SANDBOX (cutbox-door.mjs). By AI agents, Wed Nov 11 2026. No macro, syntax, notation, axiom, sorry.
-/
import Derived.Test.YtlojebhcemfodaaGreatDoorRows
import GoSem.ClaimSeven
namespace Go.Proofs.YtlojebhcemfodaaGreatDoor
namespace Rows

/-- THE TIED CARD OF 'knapsacklaw12.GraphReaches'. -/
def graphReachesCard : Claim7 := { stood := { row := graphReachesRow, standIns := [], harness := (true, "166f30a955353e6d196eb2167e0836a54fabfadafdd9cf8018cb4276900e84a8"), looks := true }, kinds := [], alts := [], laidByText := true, laidKinds := [.data], laidTests := true, laidLooks := .later }
def GraphReachesCardSaid : Prop := Claim7.holds Tryz.pinned (.plain (OpenSpec.ofChange graphReachesSpec)) graphReachesCard

/-- THE TIED CARD OF 'knapsacklaw12.GraphWalks'. -/
def graphWalksCard : Claim7 := { stood := { row := graphWalksRow, standIns := [], harness := (true, "166f30a955353e6d196eb2167e0836a54fabfadafdd9cf8018cb4276900e84a8"), looks := true }, kinds := [], alts := [], laidByText := true, laidKinds := [.data], laidTests := true, laidLooks := .later }
def GraphWalksCardSaid : Prop := Claim7.holds Tryz.pinned (.plain (OpenSpec.ofChange graphWalksSpec)) graphWalksCard

/-- THE TIED CARD OF 'knapsacklaw12.GraphMore'. -/
def graphMoreCard : Claim7 := { stood := { row := graphMoreRow, standIns := [], harness := (true, "166f30a955353e6d196eb2167e0836a54fabfadafdd9cf8018cb4276900e84a8"), looks := true }, kinds := [], alts := [], laidByText := true, laidKinds := [.data], laidTests := true, laidLooks := .later }
def GraphMoreCardSaid : Prop := Claim7.holds Tryz.pinned (.plain (OpenSpec.ofChange graphMoreSpec)) graphMoreCard

/-- THE SECOND FORM's CARD OF 'knapsacklaw12.GraphReaches'. -/
def graphReachesUptoCard : Claim7 := { stood := { row := graphReachesUptoRow, standIns := [], harness := (true, "166f30a955353e6d196eb2167e0836a54fabfadafdd9cf8018cb4276900e84a8"), looks := true }, kinds := [], alts := [], laidByText := true, laidKinds := [.data], laidTests := true, laidLooks := .later }
def GraphReachesUptoCardSaid : Prop := Claim7.holds Tryz.pinned (.plain (OpenSpec.upto graphReachesSpec)) graphReachesUptoCard

/-- THE SECOND FORM's CARD OF 'knapsacklaw12.GraphWalks'. -/
def graphWalksUptoCard : Claim7 := { stood := { row := graphWalksUptoRow, standIns := [], harness := (true, "166f30a955353e6d196eb2167e0836a54fabfadafdd9cf8018cb4276900e84a8"), looks := true }, kinds := [], alts := [], laidByText := true, laidKinds := [.data], laidTests := true, laidLooks := .later }
def GraphWalksUptoCardSaid : Prop := Claim7.holds Tryz.pinned (.plain (OpenSpec.upto graphWalksSpec)) graphWalksUptoCard

/-- THE SECOND FORM's CARD OF 'knapsacklaw12.GraphMore'. -/
def graphMoreUptoCard : Claim7 := { stood := { row := graphMoreUptoRow, standIns := [], harness := (true, "166f30a955353e6d196eb2167e0836a54fabfadafdd9cf8018cb4276900e84a8"), looks := true }, kinds := [], alts := [], laidByText := true, laidKinds := [.data], laidTests := true, laidLooks := .later }
def GraphMoreUptoCardSaid : Prop := Claim7.holds Tryz.pinned (.plain (OpenSpec.upto graphMoreSpec)) graphMoreUptoCard
end Rows
end Go.Proofs.YtlojebhcemfodaaGreatDoor
