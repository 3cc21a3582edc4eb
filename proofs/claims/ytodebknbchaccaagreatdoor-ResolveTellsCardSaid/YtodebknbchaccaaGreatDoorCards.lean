/-
  DERIVED. GIVEN WITH THE SEED: THE CARDS: each row of YtodebknbchaccaaGreatDoorRows.lean that lists a variable, with what it lists TIED to the program's text (the seventh form; the later family's looks); each row that meets fmt, with fmt's text TOLD by the authors' own Lean function (tested against real Go, not proved from fmt's source: count such statements apart). THE CARD IS WHAT COUNTS. Prove the row's statement (the work); the ties are given (YtodebknbchaccaaGreatDoorTie.lean); close each card by the builder's one call (the guide's Derived/Test/ToyasCard.lean, 'card_holds'). Laid BY PROGRAM, IN A SANDBOX (cutbox-door.mjs). By AI agents, Wed Nov 11 2026. No macro, syntax, notation, axiom, sorry.
-/
import Derived.Test.YtodebknbchaccaaGreatDoorRows
import GoSem.ClaimSeven
namespace Go.Proofs.YtodebknbchaccaaGreatDoor
namespace Rows

/-- THE TIED CARD OF 'knapsacklaw16.ResolveTells'. -/
def resolveTellsCard : Claim7 := { stood := { row := resolveTellsRow, standIns := [], harness := (true, "7d0bccc454185dd4879c0a2ebca545464a23cf0c935bc8058832dae71418927c"), looks := false }, kinds := [], alts := [], laidByText := true, laidKinds := [.data], laidTests := true, laidLooks := .later }
def ResolveTellsCardSaid : Prop := Claim7.holds Tryz.pinned (.plain (OpenSpec.ofChange resolveTellsSpec)) resolveTellsCard

/-- THE TIED CARD OF 'knapsacklaw16.ResolveCompletes'. -/
def resolveCompletesCard : Claim7 := { stood := { row := resolveCompletesRow, standIns := [], harness := (true, "7d0bccc454185dd4879c0a2ebca545464a23cf0c935bc8058832dae71418927c"), looks := false }, kinds := [], alts := [], laidByText := true, laidKinds := [.data], laidTests := true, laidLooks := .later }
def ResolveCompletesCardSaid : Prop := Claim7.holds Tryz.pinned (.plain (OpenSpec.ofChange resolveCompletesSpec)) resolveCompletesCard

/-- THE TIED CARD OF 'knapsacklaw16.ResolveIndexes'. -/
def resolveIndexesCard : Claim7 := { stood := { row := resolveIndexesRow, standIns := [], harness := (true, "7d0bccc454185dd4879c0a2ebca545464a23cf0c935bc8058832dae71418927c"), looks := false }, kinds := [], alts := [], laidByText := true, laidKinds := [.data], laidTests := true, laidLooks := .later }
def ResolveIndexesCardSaid : Prop := Claim7.holds Tryz.pinned (.plain (OpenSpec.ofChange resolveIndexesSpec)) resolveIndexesCard

/-- THE TIED CARD OF 'knapsacklaw16.ResolveMakes'. -/
def resolveMakesCard : Claim7 := { stood := { row := resolveMakesRow, standIns := [], harness := (true, "7d0bccc454185dd4879c0a2ebca545464a23cf0c935bc8058832dae71418927c"), looks := false }, kinds := [], alts := [], laidByText := true, laidKinds := [.data], laidTests := true, laidLooks := .later }
def ResolveMakesCardSaid : Prop := Claim7.holds Tryz.pinned (.plain (OpenSpec.ofChange resolveMakesSpec)) resolveMakesCard

/-- THE SECOND FORM's CARD OF 'knapsacklaw16.ResolveTells'. -/
def resolveTellsUptoCard : Claim7 := { stood := { row := resolveTellsUptoRow, standIns := [], harness := (true, "7d0bccc454185dd4879c0a2ebca545464a23cf0c935bc8058832dae71418927c"), looks := false }, kinds := [], alts := [], laidByText := true, laidKinds := [.data], laidTests := true, laidLooks := .later }
def ResolveTellsUptoCardSaid : Prop := Claim7.holds Tryz.pinned (.plain (OpenSpec.upto resolveTellsSpec)) resolveTellsUptoCard

/-- THE SECOND FORM's CARD OF 'knapsacklaw16.ResolveCompletes'. -/
def resolveCompletesUptoCard : Claim7 := { stood := { row := resolveCompletesUptoRow, standIns := [], harness := (true, "7d0bccc454185dd4879c0a2ebca545464a23cf0c935bc8058832dae71418927c"), looks := false }, kinds := [], alts := [], laidByText := true, laidKinds := [.data], laidTests := true, laidLooks := .later }
def ResolveCompletesUptoCardSaid : Prop := Claim7.holds Tryz.pinned (.plain (OpenSpec.upto resolveCompletesSpec)) resolveCompletesUptoCard

/-- THE SECOND FORM's CARD OF 'knapsacklaw16.ResolveIndexes'. -/
def resolveIndexesUptoCard : Claim7 := { stood := { row := resolveIndexesUptoRow, standIns := [], harness := (true, "7d0bccc454185dd4879c0a2ebca545464a23cf0c935bc8058832dae71418927c"), looks := false }, kinds := [], alts := [], laidByText := true, laidKinds := [.data], laidTests := true, laidLooks := .later }
def ResolveIndexesUptoCardSaid : Prop := Claim7.holds Tryz.pinned (.plain (OpenSpec.upto resolveIndexesSpec)) resolveIndexesUptoCard

/-- THE SECOND FORM's CARD OF 'knapsacklaw16.ResolveMakes'. -/
def resolveMakesUptoCard : Claim7 := { stood := { row := resolveMakesUptoRow, standIns := [], harness := (true, "7d0bccc454185dd4879c0a2ebca545464a23cf0c935bc8058832dae71418927c"), looks := false }, kinds := [], alts := [], laidByText := true, laidKinds := [.data], laidTests := true, laidLooks := .later }
def ResolveMakesUptoCardSaid : Prop := Claim7.holds Tryz.pinned (.plain (OpenSpec.upto resolveMakesSpec)) resolveMakesUptoCard
end Rows
end Go.Proofs.YtodebknbchaccaaGreatDoor
