/- Arrays of bytes as values: ids. Their cells, and == on them. No condition. -/
import Derived.Test.YtlanconcbpdneaaBase
import Derived.ChangeKeysEq
import Derived.Laws.Tables
namespace Go.Proofs.Ytlanconcbpdneaa
open Go.RowKit

def u8s (l : List UInt8) : Array Value := (l.map u8v).toArray
theorem u8s_size (l : List UInt8) : (u8s l).size = l.length := by simp [u8s]
theorem u8s_get (l : List UInt8) (i : Nat) (h : i < l.length) : (u8s l)[i]? = some (.int .u8 ((l.getD i 0).toNat : Nat)) := by
  simp [u8s, u8v, List.getD, List.getElem?_eq_getElem h]
theorem u8s_set (l : List UInt8) (i n : Nat) (h : n < 256) : (u8s l).setIfInBounds i (.int .u8 (n : Nat)) = u8s (l.set i n.toUInt8) := by
  apply Array.ext'
  simp only [u8s, Array.toList_setIfInBounds, List.map_set]
  rw [show u8v n.toUInt8 = .int .u8 (n : Nat) from u8v_ofNat n h]
theorem u8s_one (l : List UInt8) : (u8s l).all (·.oneCell') = true :=
  Array.all_eq_true_iff_forall_mem.2 fun v hv => u8v_one l v (by simpa [u8s] using hv)
theorem u8v_inj {a b : UInt8} (h : u8v a = u8v b) : a = b := by
  simp only [u8v, Value.int.injEq, true_and] at h
  exact UInt8.toNat_inj.1 (by omega)
theorem map_u8v_inj {a b : List UInt8} (h : a.map u8v = b.map u8v) : a = b := by
  induction a generalizing b with
  | nil => cases b with
    | nil => rfl
    | cons => cases h
  | cons x a ih => cases b with
    | nil => cases h
    | cons y b =>
      simp only [List.map_cons, List.cons.injEq] at h
      rw [u8v_inj h.1, ih h.2]
theorem u8s_inj {a b : List UInt8} (h : u8s a = u8s b) : a = b := map_u8v_inj (by simpa [u8s] using congrArg Array.toList h)
theorem sz32 : (Try.prog.info? 24).map (·.size) = some 32 := by kernel_rfl
theorem below_setRow {B g : Nat} {a w : World} (h : Below B a w) (hB : B ≤ g) (cs : Array Value) : Below B a (w.setRow g cs) :=
  h.trans ⟨rfl, rfl, rfl, by simp, fun k hk => setRow_other _ _ _ _ (by omega)⟩
theorem size_alloc' (w : World) (o : Obj) : (w.alloc o).heap.size = w.heap.size + 1 := by simp

section
variable {P : Program}
theorem run_part_byte (w : World) {e : TypeId} (he : P.plainKey e = true) (l : List UInt8) (i : Nat) (h : i < l.length) : (part e (u8s l) i).run P w = .ok (u8v (l.getD i 0)) w :=
  run_part_plain w he (by rw [u8s_get l i h]; rfl)
theorem run_eqItems_bytes (w : World) (d : Nat) {e : TypeId} (he : P.plainKey e = true) (hu : P.underlying e = some (.int .u8)) (hc : P.cellsOf e = 1) (a b : List UInt8) :
    ∀ is : List Nat, (∀ i ∈ is, i < a.length ∧ i < b.length) → (Op.eqItems (d + 1) e (P.cellsOf e) (u8s a) (u8s b) is).run P w = .ok (decide (∀ i ∈ is, a.getD i 0 = b.getD i 0)) w
  | [], _ => by simp [Op.eqItems]
  | i :: is, h => by
    obtain ⟨ha, hb⟩ := h i (by simp)
    have ih := run_eqItems_bytes w d he hu hc a b is (fun j hj => h j (by simp [hj]))
    simp only [Op.eqItems, Sem.run_bind, hc, Nat.mul_one, run_part_byte w he a i ha, run_part_byte w he b i hb, Result.andThen_ok]
    rw [u8v, u8v, run_equalIn_int w d e .u8 .u8 _ _ hu]
    simp only [Result.andThen_ok]
    have e1 : (((a.getD i 0).toNat : Int) == ((b.getD i 0).toNat : Int)) = decide (a.getD i 0 = b.getD i 0) := by
      rw [Bool.eq_iff_iff]
      simp only [beq_iff_eq, decide_eq_true_eq]
      exact ⟨fun h => UInt8.toNat_inj.1 (by omega), fun h => by rw [h]⟩
    rw [e1]
    by_cases hi : a.getD i 0 = b.getD i 0
    · simp only [hi, decide_true, Bool.not_true, Bool.false_eq_true, if_false]
      rw [hc] at ih
      rw [ih]
      simp only [List.forall_mem_cons, hi, true_and]
    · simp only [List.forall_mem_cons, hi, false_and, decide_false, Bool.not_false, if_true, Sem.run_pure]
theorem run_equalIn_bytes (w : World) (d : Nat) {t e : TypeId} {n : Nat} (ht : P.underlying t = some (.array n e)) (he : P.plainKey e = true) (hu : P.underlying e = some (.int .u8)) (hc : P.cellsOf e = 1) (hi : ∃ i, P.info? e = some i)
    (a b : List UInt8) (ha : a.length = n) (hb : b.length = n) : (Op.equalIn (d + 2) t (.agg (u8s a)) (.agg (u8s b))).run P w = .ok (decide (a = b)) w := by
  obtain ⟨i, hi⟩ := hi
  rw [run_equalIn_array w (d + 1) _ _ ht hi, run_eqItems_bytes w d he hu hc a b _ (fun j hj => by rw [List.mem_range] at hj; omega)]
  congr 1
  rw [Bool.eq_iff_iff]
  simp only [decide_eq_true_eq, List.mem_range]
  constructor
  · intro h
    apply List.ext_getElem (by omega)
    intro j h1 h2
    have := h j (by omega)
    simpa [List.getD, List.getElem?_eq_getElem h1, List.getElem?_eq_getElem h2] using this
  · intro h j _
    rw [h]
end
theorem run_eql_id (w : World) (a b : List UInt8) (ha : a.length = 32) (hb : b.length = 32) :
    (binOp .eql 24 (.agg (u8s a)) (.agg (u8s b))).run Try.prog w = .ok (.bool (decide (a = b))) w := by
  rw [run_eql_struct, run_equalIn_bytes w 9998 Try.underlying24 (by kernel_rfl) Try.underlying5 (by kernel_rfl) (Option.isSome_iff_exists.1 (by kernel_rfl)) a b ha hb]
  rfl
theorem run_neq_id (w : World) (a b : List UInt8) (ha : a.length = 32) (hb : b.length = 32) :
    (binOp .neq 24 (.agg (u8s a)) (.agg (u8s b))).run Try.prog w = .ok (.bool (!decide (a = b))) w := by
  rw [run_neq_struct, run_equalIn_bytes w 9998 Try.underlying24 (by kernel_rfl) Try.underlying5 (by kernel_rfl) (Option.isSome_iff_exists.1 (by kernel_rfl)) a b ha hb]
  rfl
/-- The cells of a block. -/
def RowOf (w : World) (g : Nat) : Array Value := match w.heap[g]? with | some (.cells cs _ _) => cs | _ => #[]
def HasRow (w : World) (g : Nat) (t : TypeId) (n : Nat) : Prop := ∃ cs, cs.size = n ∧ Blk w g t cs
theorem rowOf_blk {w : World} {g : Nat} {t : TypeId} {cs : Array Value} (h : Blk w g t cs) : RowOf w g = cs := by
  unfold Blk at h
  simp [RowOf, h]
theorem hasRow_blk {w : World} {g : Nat} {t : TypeId} {cs : Array Value} {n : Nat} (h : Blk w g t cs) (hn : cs.size = n) : HasRow w g t n := ⟨cs, hn, h⟩
/-- The load and the store of an id, not to be opened by the walk. -/
def ldvI (p : Addr) : Sem Value := loadVar 24 p
def stvI (p : Addr) (v : Value) : Sem Unit := storeVar 24 p v
theorem ldvI_eq (p : Addr) : loadVar 24 p = ldvI p := rfl
theorem stvI_eq (p : Addr) (v : Value) : storeVar 24 p v = stvI p v := rfl
theorem run_ldvI (w : World) (g : Nat) (hh : HasRow w g 24 32) : (ldvI ⟨g, 0, none⟩).run Try.prog w = .ok (.agg (RowOf w g)) w := by
  obtain ⟨cs, hn, h⟩ := hh
  rw [rowOf_blk h]
  exact run_loadVar_row w g _ _ _ _ _ h Try.underlying24 rfl (by rw [hn]; exact sz32)
theorem hasRow_id {w : World} {g : Nat} {l : List UInt8} (h : Blk w g 24 (u8s l)) (hl : l.length = 32) : HasRow w g 24 32 := hasRow_blk h (by rw [u8s_size, hl])
/-- An id's 32 bytes. -/
abbrev IdL := List UInt8
def zeroId : List UInt8 := List.replicate 32 0
theorem zeroId_length : zeroId.length = 32 := by simp [zeroId]
section
variable {P : Program}
/-- An aggregate is stored into a variable that was laid just now: the world behind it is a new one. -/
theorem wpList_store_new {W : World} {ops : Array Oper} {rest : List Oper} {o : Oper} {a : Act} {Q : Exit → Act → World → Prop} (hgd : o.guard = none) (ty : TypeId) (x y : Operand) (ho : o.op = .store ty x y)
    (cells zs : Array Value) (hx : a.eval x = .pointer (some ⟨W.heap.size, 0, none⟩)) (hy : a.eval y = .agg cells) (hi : (P.info? ty).map (·.size) = some cells.size) (hold : zs.size = cells.size) (h1 : cells.all (·.oneCell') = true)
    (h : ∀ W1, Blk W1 W.heap.size ty cells → Below W.heap.size W W1 → wpList P ops Q rest (a.put o.dst undef) W1) : wpList P ops Q (o :: rest) a (W.alloc (.cells zs ty)) :=
  wpList_store_row hgd ty x y ho W.heap.size cells hx hy ty zs (Blk.new W ty zs) hi hold h1
    (h _ (setRow_heap _ _ _ _ _ _ (Blk.new W ty zs)) (below_setRow ((Below.refl _ _).alloc (Nat.le_refl _) _) (Nat.le_refl _) _))
end
theorem wpList_store_newId {W : World} {ops : Array Oper} {rest : List Oper} {o : Oper} {a : Act} {Q : Exit → Act → World → Prop} (hgd : o.guard = none) (x y : Operand) (ho : o.op = .store 24 x y)
    (u : List UInt8) (lu : u.length = 32) (zs : Array Value) (hx : a.eval x = .pointer (some ⟨W.heap.size, 0, none⟩)) (hy : a.eval y = .agg (u8s u)) (hz : zs.size = 32)
    (h : ∀ W1, Blk W1 W.heap.size 24 (u8s u) → Below W.heap.size W W1 → wpList Try.prog ops Q rest (a.put o.dst undef) W1) : wpList Try.prog ops Q (o :: rest) a (W.alloc (.cells zs 24)) :=
  wpList_store_new hgd _ x y ho (u8s u) zs hx hy (by rw [u8s_size, lu]; exact sz32) (by rw [u8s_size, lu]; exact hz) (u8s_one u) h
end Go.Proofs.Ytlanconcbpdneaa
