/-
  DERIVED. GIVEN WITH THE SEED: THE CARDS: each row of YtmgijjfjldkgaaaDoorRows.lean that lists a variable, with what it lists TIED to the program's text (the seventh form; the later family's looks); each row that meets fmt, with fmt's text TOLD by the authors' own Lean function (tested against real Go, not proved from fmt's source: count such statements apart). THE CARD IS WHAT COUNTS. Prove the row's statement (the work); the ties are given (YtmgijjfjldkgaaaDoorTie.lean); close each card by the builder's one call (the guide's Derived/Test/ToyasCard.lean, 'card_holds'). Laid BY PROGRAM, IN A SANDBOX (cutbox-door.mjs). By AI agents, Wed Nov 11 2026. No macro, syntax, notation, axiom, sorry.
-/
import Derived.Test.YtmgijjfjldkgaaaDoorRows
import GoSem.ClaimSeven
namespace Go.Proofs.YtmgijjfjldkgaaaDoor
namespace Rows

/-- THE TIED CARD OF 'knapsacklaw02.Sha256Tells'. -/
def sha256TellsCard : Claim7 := { stood := { row := sha256TellsRow, standIns := [], harness := (true, "957cdd4b377f402d14cf470b0c701407f11ff2f886c5e50048d358daedb615c0"), looks := false }, kinds := [], alts := [], laidByText := true, laidKinds := [.data], laidTests := true, laidLooks := .later }
def Sha256TellsCardSaid : Prop := Claim7.holds Tryd.pinned (.plain (OpenSpec.ofChange sha256TellsSpec)) sha256TellsCard

/-- THE TIED CARD OF 'knapsacklaw02.Sha256Parts'. -/
def sha256PartsCard : Claim7 := { stood := { row := sha256PartsRow, standIns := [], harness := (true, "957cdd4b377f402d14cf470b0c701407f11ff2f886c5e50048d358daedb615c0"), looks := false }, kinds := [], alts := [], laidByText := true, laidKinds := [.data], laidTests := true, laidLooks := .later }
def Sha256PartsCardSaid : Prop := Claim7.holds Tryd.pinned (.plain (OpenSpec.ofChange sha256PartsSpec)) sha256PartsCard

/-- THE TIED CARD OF 'knapsacklaw02.Sha256Writes'. -/
def sha256WritesCard : Claim7 := { stood := { row := sha256WritesRow, standIns := [], harness := (true, "957cdd4b377f402d14cf470b0c701407f11ff2f886c5e50048d358daedb615c0"), looks := false }, kinds := [], alts := [], laidByText := true, laidKinds := [.data], laidTests := true, laidLooks := .later }
def Sha256WritesCardSaid : Prop := Claim7.holds Tryd.pinned (.plain (OpenSpec.ofChange sha256WritesSpec)) sha256WritesCard

/-- THE SECOND FORM's CARD OF 'knapsacklaw02.Sha256Tells'. -/
def sha256TellsUptoCard : Claim7 := { stood := { row := sha256TellsUptoRow, standIns := [], harness := (true, "957cdd4b377f402d14cf470b0c701407f11ff2f886c5e50048d358daedb615c0"), looks := false }, kinds := [], alts := [], laidByText := true, laidKinds := [.data], laidTests := true, laidLooks := .later }
def Sha256TellsUptoCardSaid : Prop := Claim7.holds Tryd.pinned (.plain (OpenSpec.upto sha256TellsSpec)) sha256TellsUptoCard

/-- THE SECOND FORM's CARD OF 'knapsacklaw02.Sha256Parts'. -/
def sha256PartsUptoCard : Claim7 := { stood := { row := sha256PartsUptoRow, standIns := [], harness := (true, "957cdd4b377f402d14cf470b0c701407f11ff2f886c5e50048d358daedb615c0"), looks := false }, kinds := [], alts := [], laidByText := true, laidKinds := [.data], laidTests := true, laidLooks := .later }
def Sha256PartsUptoCardSaid : Prop := Claim7.holds Tryd.pinned (.plain (OpenSpec.upto sha256PartsSpec)) sha256PartsUptoCard

/-- THE SECOND FORM's CARD OF 'knapsacklaw02.Sha256Writes'. -/
def sha256WritesUptoCard : Claim7 := { stood := { row := sha256WritesUptoRow, standIns := [], harness := (true, "957cdd4b377f402d14cf470b0c701407f11ff2f886c5e50048d358daedb615c0"), looks := false }, kinds := [], alts := [], laidByText := true, laidKinds := [.data], laidTests := true, laidLooks := .later }
def Sha256WritesUptoCardSaid : Prop := Claim7.holds Tryd.pinned (.plain (OpenSpec.upto sha256WritesSpec)) sha256WritesUptoCard
end Rows
end Go.Proofs.YtmgijjfjldkgaaaDoor
