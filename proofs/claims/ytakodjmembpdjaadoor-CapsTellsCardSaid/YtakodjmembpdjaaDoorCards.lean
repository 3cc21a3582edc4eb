/-
  DERIVED. GIVEN WITH THE SEED: THE CARDS: each row of YtakodjmembpdjaaDoorRows.lean that lists a variable, with what it lists TIED to the program's text (the seventh form; the later family's looks); each row that meets fmt, with fmt's text TOLD by the authors' own Lean function (tested against real Go, not proved from fmt's source: count such statements apart). THE CARD IS WHAT COUNTS. Prove the row's statement (the work); the ties are given (YtakodjmembpdjaaDoorTie.lean); close each card by the builder's one call (the guide's Derived/Test/ToyasCard.lean, 'card_holds'). Laid BY PROGRAM, IN A SANDBOX (cutbox-door.mjs). By AI agents, Wed Nov 11 2026. No macro, syntax, notation, axiom, sorry.
-/
import Derived.Test.YtakodjmembpdjaaDoorRows
import GoSem.ClaimSeven
namespace Go.Proofs.YtakodjmembpdjaaDoor
namespace Rows

/-- THE TIED CARD OF 'knapsacklaw10.CapsChooses'. -/
def capsChoosesCard : Claim7 := { stood := { row := capsChoosesRow, standIns := [], harness := (true, "5c36749d122f45c6aa7f35c76d5dc2f22dd052613be102b5a115ad3a17220ea7"), looks := false }, kinds := [], alts := [], laidByText := true, laidKinds := [.data, .pinned], laidTests := true, laidLooks := .later }
def CapsChoosesCardSaid : Prop := Claim7.holds Tryd.pinned (.plain (OpenSpec.ofChange capsChoosesSpec)) capsChoosesCard

/-- THE TIED CARD OF 'knapsacklaw10.CapsTells'. -/
def capsTellsCard : Claim7 := { stood := { row := capsTellsRow, standIns := [], harness := (true, "5c36749d122f45c6aa7f35c76d5dc2f22dd052613be102b5a115ad3a17220ea7"), looks := false }, kinds := [], alts := [], laidByText := true, laidKinds := [.data, .pinned], laidTests := true, laidLooks := .later }
def CapsTellsCardSaid : Prop := Claim7.holds Tryd.pinned (.plain (OpenSpec.ofChange capsTellsSpec)) capsTellsCard

/-- THE SECOND FORM's CARD OF 'knapsacklaw10.CapsChooses'. -/
def capsChoosesUptoCard : Claim7 := { stood := { row := capsChoosesUptoRow, standIns := [], harness := (true, "5c36749d122f45c6aa7f35c76d5dc2f22dd052613be102b5a115ad3a17220ea7"), looks := false }, kinds := [], alts := [], laidByText := true, laidKinds := [.data, .pinned], laidTests := true, laidLooks := .later }
def CapsChoosesUptoCardSaid : Prop := Claim7.holds Tryd.pinned (.plain (OpenSpec.upto capsChoosesSpec)) capsChoosesUptoCard

/-- THE SECOND FORM's CARD OF 'knapsacklaw10.CapsTells'. -/
def capsTellsUptoCard : Claim7 := { stood := { row := capsTellsUptoRow, standIns := [], harness := (true, "5c36749d122f45c6aa7f35c76d5dc2f22dd052613be102b5a115ad3a17220ea7"), looks := false }, kinds := [], alts := [], laidByText := true, laidKinds := [.data, .pinned], laidTests := true, laidLooks := .later }
def CapsTellsUptoCardSaid : Prop := Claim7.holds Tryd.pinned (.plain (OpenSpec.upto capsTellsSpec)) capsTellsUptoCard
end Rows
end Go.Proofs.YtakodjmembpdjaaDoor
