/- Slices of texts: the words. No condition. -/
import Derived.Test.YtakodjmembpdjaaDoorFar
namespace Go.Proofs.YtakodjmembpdjaaDoor
open Go.RowKit
abbrev Txt := List UInt8
def strC (l : Txt) : List Value := [.string (B l)]
theorem strC_one (l : Txt) : ∀ u ∈ strC l, u.oneCell' = true := by
  intro u hu
  simp only [strC, List.mem_singleton] at hu
  subst hu; rfl
theorem strK (l : List Txt) : ∀ x ∈ l, (strC x).length = 1 := fun _ _ => rfl
theorem strOne (l : List Txt) : ∀ u ∈ rowsOf strC l, u.oneCell' = true := rowsOf_one' fun x _ => strC_one x
theorem Tryd.strTy : SliceTy Tryd.prog 22 9 (.string (B [])) 1 16 := ⟨Tryd.underlying22, info_parts (by kernel_rfl), rfl, by omega⟩
abbrev Strs (w : World) (v : Value) (l : List Txt) : Prop := SliceAt w 1 strC v l
abbrev OwnStrs (w : World) (base : Nat) (v : Value) (l : List Txt) : Prop := w.ownsRow base 9 1 v l.length (rowsOf strC l)
theorem OwnStrs.strs {w : World} {base : Nat} {v : Value} {l : List Txt} (h : OwnStrs w base v l) : Strs w v l := SliceAt.of_own (strK l) h
theorem OwnStrs.more {w : World} {base : Nat} {v : Value} {o : List Txt} {r : Txt} (h : w.ownsRow base 9 1 v (o.length + 1) (rowsOf strC o ++ (strC r).toArray.toList)) : OwnStrs w base v (o ++ [r]) := by
  unfold OwnStrs
  rw [rowsOf_append, rowsOf_one, List.length_append]
  rwa [List.toList_toArray] at h
end Go.Proofs.YtakodjmembpdjaaDoor
