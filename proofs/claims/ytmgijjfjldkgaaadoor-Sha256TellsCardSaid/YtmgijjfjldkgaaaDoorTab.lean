/- What the row's list of variables gives: the table of constants; and a world that meets it. No condition. -/
import Derived.Test.YtmgijjfjldkgaaaDoorCards
import Derived.Test.YtmgijjfjldkgaaaDoorPost
import Derived.Test.YtmgijjfjldkgaaaDoorShaL
import Derived.WalkKit
import Derived.ProofKit
import Derived.OpenShut
import Derived.Deep.DeepHandedRow
import Derived.Lib.LaidTab
namespace Go.Proofs.YtmgijjfjldkgaaaDoor
open Go.ChangeShapes Go.WideShapes Go.ChangeAt Go.RowKit

theorem gTab : Tryd.prog.globalNamed "knapsack/sha256.constants" = some 0 := by kernel_rfl
theorem gTabType : (Tryd.prog.globals[0]?).map (·.type) = some 45 := by kernel_rfl
theorem cellsTab : Tryd.prog.cellsOf 45 = 64 := by kernel_rfl
theorem cellsU32 : Tryd.prog.cellsOf 41 = 1 := by kernel_rfl
theorem laid_is : (Rows.laid_knapsack_sha256_constants : DataW Unit) = Lib.tabData .u32 (K256.map fun n => ((n : Nat) : Int)) := by kernel_rfl
theorem tabK_of {W : World} (h : laidMetH Tryd.prog [("knapsack/sha256.constants", Rows.laid_knapsack_sha256_constants)] W) : TabK W := by
  rw [laid_is] at h
  have ht := Lib.tabIs_of_head (rest := []) gTab gTabType Tryd.underlying45 Tryd.underlying41 cellsU32 cellsTab h
  have hc (t : Nat) (h64 : t < 64) : W.cell? ⟨0, t, none⟩ = some (.int .u32 (K256.getD t 0 : Nat)) := by
    rw [ht.cell gTab t (by rw [List.length_map, K256_length]; exact h64)]
    have : t < K256.length := by rw [K256_length]; exact h64
    simp [List.getD, List.getElem?_map, List.getElem?_eq_getElem this]
  exact ⟨World.block_lt_of_cell? W _ (hc 0 (by omega)), hc⟩
/-- A world for the witness: the settled one, the table as its initialiser lays it. -/
noncomputable def laidWorld (os : Os) : World :=
  { World.holding Tryd.prog os ⟨#[], #[], []⟩ with heap := (World.holding Tryd.prog os ⟨#[], #[], []⟩).heap.modify 0 fun
      | .cells _ t frozen => .cells (u32s K256) t frozen
      | o => o }
end Go.Proofs.YtmgijjfjldkgaaaDoor
