/- strings.Cut at one byte, in the plain law's words. No condition; no program. -/
import Derived.Test.YtlpiefopegjgjaaPutP
import Derived.Lib.IndexMore
import Derived.Lib.IndexBytes
namespace Go.Proofs.Ytlpiefopegjgjaa
open Go.RowKit
theorem indexByte_cutB (c : UInt8) : ∀ s : List UInt8, (cutB c s = none ∧ Lib.indexByte s c = -1) ∨ ∃ a b, cutB c s = some (a, b) ∧ Lib.indexByte s c = (a.length : Int)
  | [] => .inl ⟨rfl, rfl⟩
  | x :: r => by
    by_cases hx : x = c
    · subst hx
      exact .inr ⟨[], r, by simp [cutB], by simp [Lib.indexByte]⟩
    · have hb : (x == c) = false := by simpa using hx
      rcases indexByte_cutB c r with ⟨h1, h2⟩ | ⟨a, b, h1, h2⟩
      · exact .inl ⟨by simp [cutB, hx, h1], by simp [Lib.indexByte, hb, h2]⟩
      · refine .inr ⟨x :: a, b, by simp [cutB, hx, h1], ?_⟩
        have hne : ((a.length : Int) == -1) = false := by
          rw [beq_eq_false_iff_ne]; omega
        simp [Lib.indexByte, hb, h2, hne]
theorem cut_some {c : UInt8} {s a b : List UInt8} (h : cutB c s = some (a, b)) : Lib.cut s [c] = (a, b, true) := by
  rcases indexByte_cutB c s with ⟨h1, _⟩ | ⟨a', b', h1, h2⟩
  · rw [h] at h1; cases h1
  · rw [h] at h1
    injection h1 with h1
    injection h1 with e1 e2
    subst e1 e2
    obtain ⟨hs, _⟩ := cutB_some.1 h
    unfold Lib.cut
    rw [Lib.index_one, h2, if_pos (by omega), Int.toNat_natCast]
    rw [hs]
    simp [List.drop_append]
theorem cut_none {c : UInt8} {s : List UInt8} (h : cutB c s = none) : Lib.cut s [c] = (s, [], false) := by
  rcases indexByte_cutB c s with ⟨_, h2⟩ | ⟨a, b, h1, _⟩
  · unfold Lib.cut
    rw [Lib.index_one, h2, if_neg (by omega)]
  · rw [h] at h1; cases h1
end Go.Proofs.Ytlpiefopegjgjaa
