/- Small laws for the steps of a region that draws its order. No condition; no program. -/
import Derived.Test.YtlanconcbpdneaaInv
namespace Go.Proofs.Ytlanconcbpdneaa
open Go.RowKit
theorem slot_eval (a : Act) (t : Nat) : a.tmps[t]?.getD undef = a.eval (.tmp t) := by simp [Act.eval]
theorem wp_val' {P : Program} {o : Oper} {a : Act} {w w' : World} {v : Value} {K : Act → World → Prop} {Q : Exit → Act → World → Prop} (hrun : (execOp a.eval o).run P w = .ok (.value v) w') (hK : K (a.put o.dst v) w') : o.wp P a w K Q := by
  unfold Oper.wp
  rw [hrun]
  exact hK
theorem wp_val {P : Program} {o : Oper} {a : Act} {w : World} {v : Value} {K : Act → World → Prop} {Q : Exit → Act → World → Prop} (hrun : (execOp a.eval o).run P w = .ok (.value v) w) (hK : K (a.put o.dst v) w) : o.wp P a w K Q := wp_val' hrun hK
section
variable {P : Program} {ops : Array Oper} {a0 : Act} {C : Array Bool → World → Prop} {R : Nat → Value → World → Prop} {listed : Array Bool} {a : Act} {w : World} {i j k : Nat}
/-- What operation j waits for, if j is listed, is listed. -/
theorem Left.earlier (h : Left ops a0 C R listed a w) (hl : listed.getD j false = true) (hb : waitsB ops j k = true) : listed.getD k false = true := by
  unfold waitsB at hb
  split at hb
  · rename_i q hq
    rw [Array.any_eq_true'] at hb
    obtain ⟨e, he, h2⟩ := hb
    simp only [Bool.and_eq_true, decide_eq_true_eq] at h2
    have := h.closed j q hq hl e he h2.1
    rwa [h2.2] at this
  · cases hb
theorem Left.later2 (h : Left ops a0 C R listed a w) (hl : listed.getD k false = false) (hb : waitsB ops j k = true) : listed.getD j false = false := by
  cases hj : listed.getD j false with
  | false => rfl
  | true => have := h.earlier hj hb; rw [hl] at this; cases this
theorem Left.before (_ : Left ops a0 C R listed a w) (hi : i ∈ Region.ready .any ops listed) (hb : waitsB ops i j = true) : listed.getD j false = true := by
  unfold waitsB at hb
  split at hb
  · rename_i q hq
    rw [Array.any_eq_true'] at hb
    obtain ⟨e, he, h2⟩ := hb
    simp only [Bool.and_eq_true, decide_eq_true_eq] at h2
    have := (ready_spec hi).2.2 q hq e he h2.1
    rwa [h2.2] at this
  · cases hb
end
end Go.Proofs.Ytlanconcbpdneaa
