/-
  DERIVED. GIVEN WITH THE SEED: THE CARDS: each row of YtlanconcbpdneaaDoorRows.lean that lists a variable, with what it lists TIED to the program's text (the seventh form; the later family's looks); each row that meets fmt, with fmt's text TOLD by the authors' own Lean function (tested against real Go, not proved from fmt's source: count such statements apart). THE CARD IS WHAT COUNTS. Prove the row's statement (the work); the ties are given (YtlanconcbpdneaaDoorTie.lean); close each card by the builder's one call (the guide's Derived/Test/ToyasCard.lean, 'card_holds'). Laid BY PROGRAM, IN A SANDBOX (cutbox-door.mjs). By AI agents, Wed Nov 11 2026. No macro, syntax, notation, axiom, sorry.
-/
import Derived.Test.YtlanconcbpdneaaDoorRows
import GoSem.ClaimSeven
namespace Go.Proofs.YtlanconcbpdneaaDoor
namespace Rows

/-- THE TIED CARD OF 'knapsacklaw04.ObjectDecodes'. -/
def objectDecodesCard : Claim7 := { stood := { row := objectDecodesRow, standIns := [], harness := (true, "18087fe849fe3df9d92f3b1e3bb0951b77bb8cb073d695d394a2cb64da3ec862"), looks := false }, kinds := [], alts := [], laidByText := true, laidKinds := [.data], laidTests := true, laidLooks := .later }
def ObjectDecodesCardSaid : Prop := Claim7.holds Tryd.pinned (.plain (OpenSpec.ofChange objectDecodesSpec)) objectDecodesCard

/-- THE SECOND FORM's CARD OF 'knapsacklaw04.ObjectDecodes'. -/
def objectDecodesUptoCard : Claim7 := { stood := { row := objectDecodesUptoRow, standIns := [], harness := (true, "18087fe849fe3df9d92f3b1e3bb0951b77bb8cb073d695d394a2cb64da3ec862"), looks := false }, kinds := [], alts := [], laidByText := true, laidKinds := [.data], laidTests := true, laidLooks := .later }
def ObjectDecodesUptoCardSaid : Prop := Claim7.holds Tryd.pinned (.plain (OpenSpec.upto objectDecodesSpec)) objectDecodesUptoCard
end Rows
end Go.Proofs.YtlanconcbpdneaaDoor
