/- A world that meets the rows' list of variables (package unicode/utf8's two tables). No condition. -/
import Derived.Test.YtakodjmembpdjaaDoorCards
import Derived.Test.YtakodjmembpdjaaDoorPost
import Derived.WalkKit
import Derived.ProofKit
import Derived.OpenShut
import Derived.Deep.DeepHandedRow
import Derived.Lib.LaidTab
namespace Go.Proofs.YtakodjmembpdjaaDoor
open Go.ChangeShapes Go.WideShapes Go.ChangeAt Go.RowKit
def utf8Ranges : List Nat := [128, 191, 160, 191, 128, 159, 144, 191, 128, 143, 0, 0, 0, 0, 0, 0, 0, 0, 0, 0, 0, 0, 0, 0, 0, 0, 0, 0, 0, 0, 0, 0]
def bytesOf (l : List Nat) : Array Value := (l.map fun (n : Nat) => Value.int .u8 ((n : Nat) : Int)).toArray
def relaid (l : List Nat) : Obj → Obj
  | .cells _ t frozen => .cells (bytesOf l) t frozen
  | o => o
/-- A world for the witness: the settled one, the tables as their initialisers lay them. -/
noncomputable def laidWorld (os : Os) : World :=
  { World.holding Tryd.prog os ⟨#[], #[], []⟩ with heap := ((World.holding Tryd.prog os ⟨#[], #[], []⟩).heap.modify 1 (relaid Pinned.utf8FirstZ)).modify 2 (relaid utf8Ranges) }
end Go.Proofs.YtakodjmembpdjaaDoor
