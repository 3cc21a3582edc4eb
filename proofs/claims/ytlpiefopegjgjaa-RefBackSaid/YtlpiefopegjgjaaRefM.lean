/- Refs in memory, in the walk's words. No condition. -/
import Derived.Test.YtlpiefopegjgjaaRefW
import Derived.Deep.MidRow
namespace Go.Proofs.Ytlpiefopegjgjaa
open Go.RowKit
/-- The cells of a ref. -/
def refC (r : RefL) : List Value := .string (B r.name) :: r.id.map u8v
def RefOk (r : RefL) : Prop := r.id.length = 32 ∧ r.name.length ≤ 9223372036854775807
def RefsOk (l : List RefL) : Prop := ∀ r ∈ l, RefOk r
theorem RefsOk.at_ {l : List RefL} (h : RefsOk l) {i : Nat} (hi : i < l.length) : RefOk l[i] := h _ (List.getElem_mem hi)
theorem refC_len {r : RefL} (h : RefOk r) : (refC r).length = 33 := by simp [refC, h.1]
theorem refC_one (r : RefL) : ∀ u ∈ refC r, u.oneCell' = true := by
  intro u hu
  simp only [refC, List.mem_cons, List.mem_map] at hu
  rcases hu with rfl | ⟨c, _, rfl⟩ <;> rfl
theorem range_name {w : World} {g o : Nat} {r : RefL} (h : w.rangeAt g o (refC r)) : w.cell? ⟨g, o, none⟩ = some (.string (B r.name)) := h 0 _ rfl
theorem range_id {w : World} {g o : Nat} {r : RefL} (h : w.rangeAt g o (refC r)) : w.rangeAt g (o + 1) (u8s r.id).toList := fun j u hu => by
  have := h (j + 1) u (by simpa [refC, u8s] using hu)
  rwa [show o + (j + 1) = o + 1 + j from by omega] at this
theorem szRef : (Try.prog.info? 54).map (·.size) = some 33 := by kernel_rfl
theorem sizedRef {r : RefL} (h : RefOk r) : (Try.prog.info? 54).map (·.size) = some (refC r).length := by rw [refC_len h]; exact szRef
theorem wpList_store_newRef {W : World} {ops : Array Oper} {rest : List Oper} {o : Oper} {a : Act} {Q : Exit → Act → World → Prop} (hgd : o.guard = none) (x y : Operand) (ho : o.op = .store 54 x y)
    (r : RefL) (hr : RefOk r) (zs : Array Value) (hx : a.eval x = .pointer (some ⟨W.heap.size, 0, none⟩)) (hy : a.eval y = .agg (refC r).toArray) (hz : zs.size = 33)
    (h : ∀ W1, Blk W1 W.heap.size 54 (refC r).toArray → Below W.heap.size W W1 → wpList Try.prog ops Q rest (a.put o.dst undef) W1) : wpList Try.prog ops Q (o :: rest) a (W.alloc (.cells zs 54)) :=
  wpList_store_new hgd _ x y ho (refC r).toArray zs hx hy (by rw [List.size_toArray]; exact sizedRef hr) (hz.trans (by simp [refC_len hr])) (Array.all_eq_true_iff_forall_mem.2 fun u hu => refC_one r u (by simpa using hu)) h
abbrev Refs (w : World) (v : Value) (l : List RefL) : Prop := SliceAt w 33 refC v l
theorem run_ldvI_mid {w : World} {g o : Nat} {l : List UInt8} (h : w.rangeAt g o (u8s l).toList) (hl : l.length = 32) : (ldvI ⟨g, o, none⟩).run Try.prog w = .ok (.agg (u8s l)) w := by
  have := run_loadVar_mid (P := Try.prog) w g o 37 (u8s l).toList _ h Try.underlying37 rfl (by rw [Array.length_toList]; rw [u8s_size, hl]; exact sz32)
  rwa [Array.toArray_toList] at this
/-- What lies there while a ref is looked at. -/
structure FineC (w : World) (g gs os cap : Nat) (l : List RefL) (r : RefL) (w' : World) : Prop where
  blk : Blk w' g 54 (refC r).toArray
  at_ : ∀ i x, l[i]? = some x → w'.rangeAt gs (os + i * 33) (refC x)
  gs_ : gs < w'.heap.size
  bel : Below w.heap.size w w'
theorem range_blkRef {w : World} {g : Nat} {r : RefL} (h : Blk w g 54 (refC r).toArray) : w.rangeAt g 0 (refC r) := by
  have := range_blk h
  rwa [List.toList_toArray] at this
theorem FineC.id_ {w : World} {g gs os cap : Nat} {l : List RefL} {r : RefL} {w' : World} (h : FineC w g gs os cap l r w') : w'.rangeAt g 1 (u8s r.id).toList := range_id (range_blkRef h.blk)
theorem FineC.name_ {w : World} {g gs os cap : Nat} {l : List RefL} {r : RefL} {w' : World} (h : FineC w g gs os cap l r w') : w'.cell? ⟨g, 0, none⟩ = some (.string (B r.name)) := range_name (range_blkRef h.blk)
theorem FineC.drew {w : World} {g gs os cap : Nat} {l : List RefL} {r : RefL} {w' : World} (h : FineC w g gs os cap l r w') : FineC w g gs os cap l r w'.drew := ⟨h.blk, h.at_, h.gs_, h.bel.drew⟩
theorem FineC.below {w : World} {g gs os cap : Nat} {l : List RefL} {r : RefL} {w' w'' : World} (h : FineC w g gs os cap l r w') (hb : Below w'.heap.size w' w'') : FineC w g gs os cap l r w'' :=
  ⟨h.blk.below hb h.blk.lt, fun i x hx => rangeAt_below (h.at_ i x hx) h.gs_ hb, Nat.lt_of_lt_of_le h.gs_ hb.size, bthen h.bel h.bel.size hb⟩
theorem keepF {w : World} {g gs os cap : Nat} {l : List RefL} {r : RefL} {f : FuncId} {args : Array Value} {v : Value} {w0 : World}
    (h : Calls Try.prog f args w0 fun e w' => e = .returned v ∧ Below w0.heap.size w0 w') (hS : FineC w g gs os cap l r w0) :
    Calls Try.prog f args w0 fun e w' => e = .returned v ∧ FineC w g gs os cap l r w' :=
  h.mono fun _ _ ⟨he, hb⟩ => ⟨he, hS.below hb⟩
theorem calls_same {P : Program} {f : FuncId} {args : Array Value} {v : Value} {w0 : World} (h : Calls P f args w0 fun e w' => e = .returned v ∧ w0 = w') : Calls P f args w0 fun e w' => e = .returned v ∧ Below w0.heap.size w0 w' :=
  h.mono fun _ _ ⟨he, hw⟩ => ⟨he, hw ▸ Below.refl _ _⟩
end Go.Proofs.Ytlpiefopegjgjaa
