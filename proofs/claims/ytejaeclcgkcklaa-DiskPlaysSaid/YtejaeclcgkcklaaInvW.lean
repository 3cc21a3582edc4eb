/- Small laws for the steps of a region that draws its order. No condition; no program. -/
import Derived.Test.YtejaeclcgkcklaaInv
namespace Go.Proofs.Ytejaeclcgkcklaa
open Go.RowKit
theorem slot_eval (a : Act) (t : Nat) : a.tmps[t]?.getD undef = a.eval (.tmp t) := by simp [Act.eval]
theorem wp_val' {P : Program} {o : Oper} {a : Act} {w w' : World} {v : Value} {K : Act → World → Prop} {Q : Exit → Act → World → Prop} (hrun : (execOp a.eval o).run P w = .ok (.value v) w') (hK : K (a.put o.dst v) w') : o.wp P a w K Q := by
  unfold Oper.wp
  rw [hrun]
  exact hK
theorem wp_val {P : Program} {o : Oper} {a : Act} {w : World} {v : Value} {K : Act → World → Prop} {Q : Exit → Act → World → Prop} (hrun : (execOp a.eval o).run P w = .ok (.value v) w) (hK : K (a.put o.dst v) w) : o.wp P a w K Q := wp_val' hrun hK
end Go.Proofs.Ytejaeclcgkcklaa
