/- Small words: two blocks, a result of an id and a bool. No condition. -/
import Derived.Test.YtlanconcbpdneaaId
namespace Go.Proofs.Ytlanconcbpdneaa
open Go.RowKit
theorem blk_at2 (w : World) (o : Obj) (t : TypeId) (cs : Array Value) : Blk ((w.alloc o).alloc (.cells cs t)) (w.heap.size + 1) t cs := by
  have := Blk.new (w.alloc o) t cs
  rwa [show (w.alloc o).heap.size = w.heap.size + 1 from by simp] at this
theorem results_row_tmp {P : Program} {fn : Func} {p q : Tmp} {ty : TypeId} (h : fn.results = #[.cell p ty, .tmp q]) (tmps : Array Value) (w : World) (g : Nat) (t : TypeId) (cs : Array Value) (fr : Nat × Nat) (d : TypeDesc)
    (hp : tmps.getD p undef = .pointer (some ⟨g, 0, none⟩)) (hg : w.heap[g]? = some (.cells cs t fr))
    (hu : P.underlying ty = some d) (hd : (match d with | .struct _ | .array _ _ => true | _ => false) = true) (hi : (P.info? ty).map (·.size) = some cs.size) :
    (results fn tmps).run P w = .ok (.tuple #[.agg cs, tmps.getD q undef]) w := by
  have hp' : tmps[p]?.getD undef = .pointer (some ⟨g, 0, none⟩) := by simpa using hp
  simp [results, h, hp', asAddr, run_loadVar_row w g t ty cs fr d hg hu hd hi]
theorem sized32 {l : List UInt8} (h : l.length = 32) : (Try.prog.info? 24).map (·.size) = some (u8s l).size := by rw [u8s_size, h]; exact sz32
theorem same32 {a b : List UInt8} (ha : a.length = 32) (hb : b.length = 32) : (u8s a).size = (u8s b).size := by rw [u8s_size, u8s_size, ha, hb]
theorem zeros32 : (List.replicate 32 (0 : UInt8)).length = 32 := by simp
end Go.Proofs.Ytlanconcbpdneaa
