/- The walk of strings.Cut at one byte, in the walk's words. Condition: internal/bytealg.MaxLen holds an int. -/
import Derived.Test.YtlpiefopegjgjaaCutP
import Derived.Test.YtlpiefopegjgjaaShelf
import Derived.Test.YtlpiefopegjgjaaBase
namespace Go.Proofs.Ytlpiefopegjgjaa
open Go.RowKit
/-- internal/bytealg.MaxLen holds an int. -/
def MaxK (w : World) : Prop := ∃ m : Int, w.cell? ⟨0, 0, none⟩ = some (.int .i64 m)
theorem MaxK.lt {w : World} (h : MaxK w) : 0 < w.heap.size := by
  obtain ⟨m, h⟩ := h
  exact World.block_lt_of_cell? w ⟨0, 0, none⟩ h
theorem MaxK.below {w w' : World} (h : MaxK w) (hb : Below w.heap.size w w') : MaxK w' := by
  have hl := h.lt
  obtain ⟨m, h⟩ := h
  exact ⟨m, (hb.cell (p := ⟨0, 0, none⟩) hl).trans h⟩
theorem cut_calls (s : List UInt8) (c : UInt8) (w : World) (hs : s.length < 4294967281) (hm : MaxK w) :
    Calls Try.prog 32 #[.string (B s), .string ⟨#[c]⟩] w fun e w' => (match cutB c s with
      | some (a, b) => e = .returned (.tuple #[.string (B a), .string (B b), .bool true])
      | none => e = .returned (.tuple #[.string (B s), .string (B []), .bool false])) ∧ ∃ n, w' = w.drewN n := by
  obtain ⟨m, hm⟩ := hm
  refine (Try.strings_Cut (B s) ⟨#[c]⟩ m w (by rw [size_B]; exact hs) hm).mono ?_
  rintro e w' ⟨he, hw⟩
  refine ⟨?_, hw⟩
  have e1 : (B s).data.toList = s := by simp [B]
  have e2 : (⟨#[c]⟩ : ByteArray).data.toList = [c] := rfl
  rw [e1, e2] at he
  cases h : cutB c s with
  | none => rw [cut_none h] at he; exact he
  | some p =>
    obtain ⟨a, b⟩ := p
    rw [cut_some h] at he
    exact he
end Go.Proofs.Ytlpiefopegjgjaa
