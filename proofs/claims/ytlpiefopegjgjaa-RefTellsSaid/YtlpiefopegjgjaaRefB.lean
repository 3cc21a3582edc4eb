/- A ref's literal, and a slice literal of one ref. No condition. -/
import Derived.Test.YtlpiefopegjgjaaRefC
import Derived.Great.BuildSlice
import Derived.Great.FillDense
namespace Go.Proofs.Ytlpiefopegjgjaa
open Go.RowKit
theorem fold_whole (c0 : Array Value) (a : Value) (l : List Value) (n : Nat) (hl : l.length = n) (h0 : c0.size = n + 1) :
    (l.zipIdx 0).foldl (fun cs (x : Value × Nat) => cs.setIfInBounds (1 + x.2) x.1) (c0.setIfInBounds 0 a) = (a :: l).toArray := by
  obtain ⟨h1, h2⟩ := Great.foldl_set 1 l 0 (c0.setIfInBounds 0 a)
  apply Array.ext_getElem?
  intro k
  rw [h2 k]
  cases k with
  | zero =>
    rw [if_neg (by omega)]
    have : 0 < c0.size := by omega
    simp [this]
  | succ k =>
    by_cases hk : k < n
    · rw [if_pos ⟨by omega, by omega, by simp; omega⟩, show k + 1 - (1 + 0) = k from by omega]
      simp
    · rw [if_neg (by omega), Array.getElem?_eq_none (by simp; omega)]
      symm
      rw [Array.getElem?_eq_none (by simp; omega)]
theorem zRef_cells' : zRef.cells.size = 33 := rfl
theorem built_ref (name id : List UInt8) (hid : id.length = 32) : Try.prog.built 54 [(0, .string (B name)), (1, .agg (u8s id))] = some (refC ⟨name, id⟩).toArray := by
  obtain ⟨it, hi, hz, hs, hb⟩ := Try.refTy.hi
  have hpl : (match Try.prog.underlying 54 with | some (.struct fields) => fields.toList.mapM (fun f => (Try.prog.info? f.type).map fun i => (f.offset, i.size)) | _ => none) = some [(0, 1), (1, 32)] := by kernel_rfl
  have hu := Try.underlying54
  rw [hu] at hpl
  unfold Program.built
  rw [hi, hu]
  simp only [hz]
  simp only at hpl
  rw [hpl]
  have hf := fold_whole zRef.cells (.string (B name)) (id.map u8v) 32 (by simpa using hid) zRef_cells'
  have h33 := zRef_cells'
  have e1 : (Value.string (B name)).cells = #[.string (B name)] := rfl
  have e2 : (Value.agg (u8s id)).cells = u8s id := rfl
  have f1 : Array.foldl (fun cs (x : Value × Nat) => cs.setIfInBounds (0 + x.snd) x.fst) zRef.cells (#[.string (B name)] : Array Value).zipIdx = zRef.cells.setIfInBounds 0 (.string (B name)) := rfl
  have f2 : ∀ c : Array Value, Array.foldl (fun cs (x : Value × Nat) => cs.setIfInBounds (1 + x.snd) x.fst) c (u8s id).zipIdx = (id.map u8v).zipIdx.foldl (fun cs (x : Value × Nat) => cs.setIfInBounds (1 + x.snd) x.fst) c := fun c => by
    rw [← Array.foldl_toList, Array.toList_zipIdx]
    rfl
  have g0 : (#[(0, 1), (1, 32)] : Array (Nat × Nat))[0]? = some (0, 1) := rfl
  have g1 : (#[(0, 1), (1, 32)] : Array (Nat × Nat))[1]? = some (1, 32) := rfl
  simp only [Instr.fill, g0, g1, e1, e2]
  rw [f1, f2, hf, if_neg (by rw [h33]; simp), if_neg (by simp [u8s_size, hid, h33])]
  rfl
theorem run_build_ref (w : World) (name id : List UInt8) (hid : id.length = 32) : (Instr.build 54 #[(0, .string (B name)), (1, .agg (u8s id))]).run Try.prog w = .ok (.agg (refC ⟨name, id⟩).toArray) w :=
  run_build w _ _ _ (built_ref name id hid)
theorem run_buildSlice_ref (w : World) (r : RefL) (hr : RefOk r) : (Instr.buildSlice 22 1 #[(0, .agg (refC r).toArray)]).run Try.prog w = .ok (.slice (some ⟨w.heap.size, 0, none⟩) 1 1) (w.alloc (.cells (refC r).toArray 54)) := by
  obtain ⟨it, hi, hz, hs, hb⟩ := Try.refTy.hi
  refine run_buildSlice w _ _ 1 _ _ it zRef Try.underlying22 hi hz (by rw [hs]; omega) (by rw [hs]; omega) ?_
  rw [hs]
  have := Great.fill_whole (s := 33) (by omega) [Value.agg (refC r).toArray] ((Array.range (1 * 33)).map (zRef.cells[· % zRef.cells.size]!)) (by
    intro v hv
    simp at hv
    subst hv
    show (refC r).toArray.size = 33
    rw [List.size_toArray, refC_len hr]) (by simp)
  simpa [Value.cells] using this
theorem wpList_build_ref {ops : Array Oper} {rest : List Oper} {o : Oper} {a : Act} {w : World} {Q : Exit → Act → World → Prop} (hgd : o.guard = none) (x y : Operand) (ho : o.op = .build 54 #[(0, x), (1, y)])
    (name id : List UInt8) (hid : id.length = 32) (hx : a.eval x = .string (B name)) (hy : a.eval y = .agg (u8s id))
    (h : wpList Try.prog ops Q rest (a.put o.dst (.agg (refC ⟨name, id⟩).toArray)) w) : wpList Try.prog ops Q (o :: rest) a w :=
  wpList_plain hgd fun _ hK => by
    have hb := built_ref name id hid
    have e : ((#[(0, x), (1, y)] : Array (Nat × Operand)).map fun (i, x) => (i, a.eval x)).toList = [(0, .string (B name)), (1, .agg (u8s id))] := by simp [hx, hy]
    exact wp_build _ _ ho (by rw [e, hb]; rfl) (by rw [e, hb]; exact hK _ _ h)
theorem wpList_buildSlice_ref {ops : Array Oper} {rest : List Oper} {o : Oper} {a : Act} {w : World} {Q : Exit → Act → World → Prop} (hgd : o.guard = none) (x : Operand) (ho : o.op = .buildSlice 22 1 #[(0, x)])
    (r : RefL) (hr : RefOk r) (hx : a.eval x = .agg (refC r).toArray)
    (h : wpList Try.prog ops Q rest (a.put o.dst (.slice (some ⟨w.heap.size, 0, none⟩) 1 1)) (w.alloc (.cells (refC r).toArray 54))) : wpList Try.prog ops Q (o :: rest) a w :=
  wpList_plain hgd fun _ hK => by
    have e : ((#[(0, x)] : Array (Nat × Operand)).map fun (i, x) => (i, a.eval x)) = #[(0, .agg (refC r).toArray)] := by simp [hx]
    have hr' := run_buildSlice_ref w r hr
    unfold Oper.wp execOp
    simp only [ho, Sem.run_bind, e, hr', Result.andThen_ok]
    exact hK _ _ h
end Go.Proofs.Ytlpiefopegjgjaa
