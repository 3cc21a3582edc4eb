/- Laws at operations written out: a law that does not fit falls at once, by the operation's own word. No condition. -/
import Derived.Test.YtlpiefopegjgjaaUpdI
import Derived.Test.YtlpiefopegjgjaaRefB
namespace Go.Proofs.Ytlpiefopegjgjaa
open Go.RowKit
section
variable {ops : Array Oper} {rest : List Oper} {a : Act} {w : World} {Q : Exit → Act → World → Prop} {d : Option Tmp} {rt : TypeId} {pos : String} {af : Array Edge}
theorem lit_load_id (x : Operand) (b o : Nat) (l : List UInt8) (hl : l.length = 32) (hc : w.rangeAt b o (u8s l).toList) (hx : a.eval x = .pointer (some ⟨b, o, none⟩))
    (h : wpList Try.prog ops Q rest (a.put d (.agg (u8s l))) w) : wpList Try.prog ops Q ({ dst := d, op := .load 37 x, type := rt, pos := pos, after := af, guard := none } :: rest) a w :=
  wpList_load_mid rfl _ x rfl b o hx _ _ hc Try.underlying37 rfl (by rw [Array.length_toList, u8s_size, hl]; exact sz32) (by rw [Array.toArray_toList]; exact h)
theorem lit_load_ref (x : Operand) (b o : Nat) (r : RefL) (hr : RefOk r) (hc : w.rangeAt b o (refC r)) (hx : a.eval x = .pointer (some ⟨b, o, none⟩))
    (h : wpList Try.prog ops Q rest (a.put d (.agg (refC r).toArray)) w) : wpList Try.prog ops Q ({ dst := d, op := .load 54 x, type := rt, pos := pos, after := af, guard := none } :: rest) a w :=
  wpList_load_mid rfl _ x rfl b o hx _ _ hc Try.underlying54 rfl (sizedRef hr) h
theorem lit_load_upd (x : Operand) (b o : Nat) (r : UpdL) (hr : UpdOk r) (hc : w.rangeAt b o (updC r)) (hx : a.eval x = .pointer (some ⟨b, o, none⟩))
    (h : wpList Try.prog ops Q rest (a.put d (.agg (updC r).toArray)) w) : wpList Try.prog ops Q ({ dst := d, op := .load 39 x, type := rt, pos := pos, after := af, guard := none } :: rest) a w :=
  wpList_load_mid rfl _ x rfl b o hx _ _ hc Try.underlying39 rfl (sizedUpd hr) h
theorem lit_new_id (x y : Operand) (u : List UInt8) (lu : u.length = 32) (zs : Array Value) (hz : zs.size = 32) (hx : a.eval x = .pointer (some ⟨w.heap.size, 0, none⟩)) (hy : a.eval y = .agg (u8s u))
    (h : ∀ W1, Blk W1 w.heap.size 37 (u8s u) → Below w.heap.size w W1 → wpList Try.prog ops Q rest (a.put d undef) W1) :
    wpList Try.prog ops Q ({ dst := d, op := .store 37 x y, type := rt, pos := pos, after := af, guard := none } :: rest) a (w.alloc (.cells zs 37)) :=
  wpList_store_newId rfl x y rfl u lu zs hx hy hz h
theorem lit_new_upd (x y : Operand) (u : UpdL) (lu : UpdOk u) (zs : Array Value) (hz : zs.size = 65) (hx : a.eval x = .pointer (some ⟨w.heap.size, 0, none⟩)) (hy : a.eval y = .agg (updC u).toArray)
    (h : ∀ W1, Blk W1 w.heap.size 39 (updC u).toArray → Below w.heap.size w W1 → wpList Try.prog ops Q rest (a.put d undef) W1) :
    wpList Try.prog ops Q ({ dst := d, op := .store 39 x y, type := rt, pos := pos, after := af, guard := none } :: rest) a (w.alloc (.cells zs 39)) :=
  wpList_store_newUpd rfl x y rfl u lu zs hx hy hz h
theorem lit_build_ref (x y : Operand) (name id : List UInt8) (hid : id.length = 32) (hx : a.eval x = .string (B name)) (hy : a.eval y = .agg (u8s id))
    (h : wpList Try.prog ops Q rest (a.put d (.agg (refC ⟨name, id⟩).toArray)) w) : wpList Try.prog ops Q ({ dst := d, op := .build 54 #[(0, x), (1, y)], type := rt, pos := pos, after := af, guard := none } :: rest) a w :=
  wpList_build_ref rfl x y rfl name id hid hx hy h
theorem lit_slice_ref (x : Operand) (r : RefL) (hr : RefOk r) (hx : a.eval x = .agg (refC r).toArray)
    (h : wpList Try.prog ops Q rest (a.put d (.slice (some ⟨w.heap.size, 0, none⟩) 1 1)) (w.alloc (.cells (refC r).toArray 54))) :
    wpList Try.prog ops Q ({ dst := d, op := .buildSlice 22 1 #[(0, x)], type := rt, pos := pos, after := af, guard := none } :: rest) a w :=
  wpList_buildSlice_ref rfl x rfl r hr hx h
theorem lit_append {P : Program} (s x : Operand) (c : Nat) (t : TypeId) {e : TypeId} {z : Value} {size bytes : Nat} (hT : SliceTy P t e z size bytes) {base n : Nat} {v : Value} {xs : List Value} (hown : w.ownsRow base e size v n xs)
    {k m : Nat} {t' : TypeId} {cs : Array Value} (hcs : Blk w k t' cs) (hl : cs.size = m * size) (h1 : ∀ u ∈ cs.toList, u.oneCell' = true)
    (h63 : n + m ≤ 9223372036854775807) (hbytes : (n + m) * bytes ≤ 140737488355328) (w0 : World) (hb : Below base w0 w) (hbase : base ≤ w.heap.size) (hs : a.eval s = v) (hx : a.eval x = .slice (some ⟨k, 0, none⟩) m c)
    (h : ∀ v' w', w'.ownsRow base e size v' (n + m) (xs ++ cs.toList) → Below base w0 w' → w.grownBy w' v.ownBlock → wpList P ops Q rest (a.put d v') w') :
    wpList P ops Q ({ dst := d, op := .call { callee := .builtin .append, args := #[s, x], argTypes := #[t, t] }, type := rt, pos := pos, after := af, guard := none } :: rest) a w :=
  wpList_append_blk rfl s x t rfl e z size bytes hT base v n xs hs hown k m c t' cs hx hcs hl h1 h63 hbytes w0 hb hbase h
end
end Go.Proofs.Ytlpiefopegjgjaa
