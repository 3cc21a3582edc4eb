/- Files of the disk: their cells. No condition. -/
import Derived.Test.YtejaeclcgkcklaaElem
import Derived.Test.YtejaeclcgkcklaaSortP
namespace Go.Proofs.Ytejaeclcgkcklaa
open Go.RowKit
/-- A file: a name, and bytes. -/
structure FileL where
  name : List UInt8
  data : List UInt8
def fileC (r : FileL) : List Value := [.string (B r.name), .string (B r.data)]
def FileOk (r : FileL) : Prop := r.name.length ≤ 9223372036854775807 ∧ r.data.length ≤ 9223372036854775807
theorem fileC_len {r : FileL} (_ : FileOk r) : (fileC r).length = 2 := rfl
theorem fileC_one (r : FileL) : ∀ u ∈ fileC r, u.oneCell' = true := by
  intro u hu
  simp only [fileC, List.mem_cons, List.not_mem_nil, or_false] at hu
  rcases hu with rfl | rfl <;> rfl
def zFile : Value := .agg (fileC ⟨[], []⟩).toArray
theorem zFile_one : ∀ u ∈ zFile.cells.toList, u.oneCell' = true := fun u hu => fileC_one ⟨[], []⟩ u (by simpa [zFile, Value.cells] using hu)
theorem Try.fileTy : SliceTy Try.prog 45 54 zFile 2 32 := ⟨Try.underlying45, info_parts (by kernel_rfl), rfl, by omega⟩
end Go.Proofs.Ytejaeclcgkcklaa
