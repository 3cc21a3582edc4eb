/- Regions that draw their order, walked once in the text's order, in a class of worlds of one's own. No condition; no program. -/
import Derived.Test.YtlanconcbpdneaaBase
import Derived.Deep.Quiet
import Derived.Deep.MidRow
namespace Go.Proofs.Ytlanconcbpdneaa
open Go.RowKit
section
variable {P : Program} {ops : Array Oper} {C : World → Prop} {Q : Act → Prop} {a : Act} {o : Oper} {rest : List Oper}
/-- One operation that is wanted: its value in every world of the class. -/
theorem wpQuiet_go {v : Value} (hw : Region.wanted o (yielded ops a.tmps) = true) (hv : ∀ w, C w → Oper.quietUpon P C w v ((execOp a.eval o).run P w)) (h : wpQuiet P ops C Q rest (a.put o.dst v)) : wpQuiet P ops C Q (o :: rest) a := by
  unfold wpQuiet
  rw [if_pos hw]
  exact ⟨v, hv, h⟩
theorem wpQuiet_ex (hw : Region.wanted o (yielded ops a.tmps) = true) (h : ∃ v, (∀ w, C w → Oper.quietUpon P C w v ((execOp a.eval o).run P w)) ∧ wpQuiet P ops C Q rest (a.put o.dst v)) : wpQuiet P ops C Q (o :: rest) a := by
  obtain ⟨v, h1, h2⟩ := h
  exact wpQuiet_go hw h1 h2
/-- ... that is not. -/
theorem wpQuiet_pass (hw : Region.wanted o (yielded ops a.tmps) = false) (h : wpQuiet P ops C Q rest (a.put o.dst undef)) : wpQuiet P ops C Q (o :: rest) a := by
  unfold wpQuiet
  rw [if_neg (by rw [hw]; simp)]
  exact h
/-- A call: its contract in every world of the class. -/
theorem quiet_call {w : World} {f : FuncId} {args : Array Value} {v : Value} (h : Calls P f args w fun e w'' => e = .returned v ∧ C w'') : Oper.quietUpon P C w v (.ok (.enter f args) w) := ⟨rfl, h⟩
theorem quiet_val {w : World} {v : Value} : Oper.quietUpon P C w v (.ok (.value v) w) := ⟨rfl, rfl⟩
/-- A whole array or struct that is loaded. -/
theorem quiet_load_mid {w : World} {v : Value} (ty : TypeId) (x : Operand) (ho : o.op = .load ty x) (b i : Nat) (hx : a.eval x = .pointer (some ⟨b, i, none⟩)) (cs : List Value) (d : TypeDesc) (hc : w.rangeAt b i cs)
    (hu : P.underlying ty = some d) (hd : d.isRow = true) (hi : (P.info? ty).map (·.size) = some cs.length) (hv : v = .agg cs.toArray) : Oper.quietUpon P C w v ((execOp a.eval o).run P w) := by
  subst hv
  unfold execOp
  simp only [ho, hx, Instr.loadAt, Instr.sureAddr, Sem.run_bind, Sem.run_pure, Result.andThen_ok, run_loadVar_mid w b i ty cs d hc hu hd hi]
  exact ⟨rfl, rfl⟩
end
theorem wp_region_class {P : Program} {C : World → Prop} {id : Nat} {Q : Exit → Act → World → Prop} {a : Act} {w : World} {l : List Oper} (hm : P.follows .mixedOrders = true) (hB : Region.lexB .any l.toArray = true) (hC : C { w with drawn := w.drawn + 1 })
    (h : wpQuiet P l.toArray C (fun a' => ∀ w', C w' → Q .normal a' w') l a) : (Code.region id l.toArray true).wp P Q a w :=
  wp_region_quiet (C := C) hm hB hC (by simpa using h)
theorem range_blk {w : World} {g : Nat} {t : TypeId} {cs : Array Value} (h : Blk w g t cs) : World.rangeAt w g 0 cs.toList := fun j v hv => by
  rw [Nat.zero_add, h.cell]
  simpa using hv
end Go.Proofs.Ytlanconcbpdneaa
