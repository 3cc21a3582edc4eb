/- Arguments that are slices of texts, in the walk's words. No condition. -/
import Derived.Test.YtakodjmembpdjaaDoorOpenE
import Derived.Test.YtakodjmembpdjaaDoorStrW
namespace Go.Proofs.YtakodjmembpdjaaDoor
open Go.ChangeShapes Go.WideShapes Go.ChangeAt Go.RowKit
section
variable {H : Type} {enc : TypeId × Value → H} {w : World} {base : Nat} {sp : Nat → Bool} {held : Bool}
theorem elem_str (fuel : Nat) (cs : List Value) (x : DataW H × List MemPlace) (h : DataW.trod enc Tryd.prog w base sp held fuel 9 cs = some x) (hl : cs.length = 1) : ∃ r : Txt, cs = strC r ∧ r.length ≤ 9223372036854775807 := by
  obtain ⟨s1, e1, _, w1⟩ := DataW.trod_string Tryd.underlying9 h
  obtain ⟨a1, rfl⟩ := B_mk s1
  exact ⟨a1, e1, by unfold maxLen at w1; rw [size_B] at w1; omega⟩
theorem open_strs {v : Value} {d : DataW H} {p : List MemPlace} (h : DataW.Trod enc Tryd.prog w base sp held 22 v d p) (hc : v.cells.toList = [v]) : ∃ l : List Txt, Strs w v l ∧ ∀ y ∈ l, y.length ≤ 9223372036854775807 := by
  obtain ⟨fuel, hf⟩ := h
  rw [hc] at hf
  exact open_elems strC 1 (by omega) _ Tryd.underlying22 (by kernel_rfl) (fun y hy => rfl) elem_str hf
end
end Go.Proofs.YtakodjmembpdjaaDoor
