/- Lemmas and walks of this seat, laid together: Id, Zero, Quiet, Own, Elem, Rowk, Far, ObjW, Shelf, ObjN. -/
import Derived.Test.YtlanconcbpdneaaDoorMa
import Derived.ChangeKeysEq
import Derived.Laws.Tables
import Derived.Deep.Quiet
import Derived.Deep.MidRow
import Derived.Deep.RegionLaw
import Derived.Lib.AppendZerosOnto
import Derived.Maps.AppendAt
import Derived.Shelf.Strings.Builder1
import Derived.Shelf.Strings.Builder2
import Derived.Shelf.Strings.OnBuilder
import Derived.Shelf.Small.Strs
import Derived.Shelf.Strings.BuilderF
import Derived.Shelf.Strings.BuilderK
import Derived.Shelf.Strings.Builder2Cap
import Derived.Shelf.Strings.Search1
import Derived.Shelf.Strings.Prefix
import Derived.Shelf.Bits.Mul64
import Derived.Shelf.Strings.Repeat
import Derived.Shelf.Strings.BuilderCap
import Derived.Test.YtlanconcbpdneaaDoorProg
/- Arrays of bytes as values: ids. Their cells, and == on them. No condition. -/
namespace Go.Proofs.YtlanconcbpdneaaDoor
open Go.RowKit

def u8s (l : List UInt8) : Array Value := (l.map u8v).toArray
theorem u8s_size (l : List UInt8) : (u8s l).size = l.length := by simp [u8s]
theorem u8s_get (l : List UInt8) (i : Nat) (h : i < l.length) : (u8s l)[i]? = some (.int .u8 ((l.getD i 0).toNat : Nat)) := by
  simp [u8s, u8v, List.getD, List.getElem?_eq_getElem h]
theorem u8s_set (l : List UInt8) (i n : Nat) (h : n < 256) : (u8s l).setIfInBounds i (.int .u8 (n : Nat)) = u8s (l.set i n.toUInt8) := by
  apply Array.ext'
  simp only [u8s, Array.toList_setIfInBounds, List.map_set]
  rw [show u8v n.toUInt8 = .int .u8 (n : Nat) from u8v_ofNat n h]
theorem u8s_one (l : List UInt8) : (u8s l).all (·.oneCell') = true :=
  Array.all_eq_true_iff_forall_mem.2 fun v hv => u8v_one l v (by simpa [u8s] using hv)
theorem u8v_inj {a b : UInt8} (h : u8v a = u8v b) : a = b := by
  simp only [u8v, Value.int.injEq, true_and] at h
  exact UInt8.toNat_inj.1 (by omega)
theorem map_u8v_inj {a b : List UInt8} (h : a.map u8v = b.map u8v) : a = b := by
  induction a generalizing b with
  | nil => cases b with
    | nil => rfl
    | cons => cases h
  | cons x a ih => cases b with
    | nil => cases h
    | cons y b =>
      simp only [List.map_cons, List.cons.injEq] at h
      rw [u8v_inj h.1, ih h.2]
theorem u8s_inj {a b : List UInt8} (h : u8s a = u8s b) : a = b := map_u8v_inj (by simpa [u8s] using congrArg Array.toList h)
theorem sz32 : (Tryd.prog.info? 25).map (·.size) = some 32 := by kernel_rfl
theorem below_setRow {B g : Nat} {a w : World} (h : Below B a w) (hB : B ≤ g) (cs : Array Value) : Below B a (w.setRow g cs) :=
  h.trans ⟨rfl, rfl, rfl, by simp, fun k hk => setRow_other _ _ _ _ (by omega)⟩
theorem size_alloc' (w : World) (o : Obj) : (w.alloc o).heap.size = w.heap.size + 1 := by simp

section
variable {P : Program}
theorem run_part_byte (w : World) {e : TypeId} (he : P.plainKey e = true) (l : List UInt8) (i : Nat) (h : i < l.length) : (part e (u8s l) i).run P w = .ok (u8v (l.getD i 0)) w :=
  run_part_plain w he (by rw [u8s_get l i h]; rfl)
theorem run_eqItems_bytes (w : World) (d : Nat) {e : TypeId} (he : P.plainKey e = true) (hu : P.underlying e = some (.int .u8)) (hc : P.cellsOf e = 1) (a b : List UInt8) :
    ∀ is : List Nat, (∀ i ∈ is, i < a.length ∧ i < b.length) → (Op.eqItems (d + 1) e (P.cellsOf e) (u8s a) (u8s b) is).run P w = .ok (decide (∀ i ∈ is, a.getD i 0 = b.getD i 0)) w
  | [], _ => by simp [Op.eqItems]
  | i :: is, h => by
    obtain ⟨ha, hb⟩ := h i (by simp)
    have ih := run_eqItems_bytes w d he hu hc a b is (fun j hj => h j (by simp [hj]))
    simp only [Op.eqItems, Sem.run_bind, hc, Nat.mul_one, run_part_byte w he a i ha, run_part_byte w he b i hb, Result.andThen_ok]
    rw [u8v, u8v, run_equalIn_int w d e .u8 .u8 _ _ hu]
    simp only [Result.andThen_ok]
    have e1 : (((a.getD i 0).toNat : Int) == ((b.getD i 0).toNat : Int)) = decide (a.getD i 0 = b.getD i 0) := by
      rw [Bool.eq_iff_iff]
      simp only [beq_iff_eq, decide_eq_true_eq]
      exact ⟨fun h => UInt8.toNat_inj.1 (by omega), fun h => by rw [h]⟩
    rw [e1]
    by_cases hi : a.getD i 0 = b.getD i 0
    · simp only [hi, decide_true, Bool.not_true, Bool.false_eq_true, if_false]
      rw [hc] at ih
      rw [ih]
      simp only [List.forall_mem_cons, hi, true_and]
    · simp only [List.forall_mem_cons, hi, false_and, decide_false, Bool.not_false, if_true, Sem.run_pure]
theorem run_equalIn_bytes (w : World) (d : Nat) {t e : TypeId} {n : Nat} (ht : P.underlying t = some (.array n e)) (he : P.plainKey e = true) (hu : P.underlying e = some (.int .u8)) (hc : P.cellsOf e = 1) (hi : ∃ i, P.info? e = some i)
    (a b : List UInt8) (ha : a.length = n) (hb : b.length = n) : (Op.equalIn (d + 2) t (.agg (u8s a)) (.agg (u8s b))).run P w = .ok (decide (a = b)) w := by
  obtain ⟨i, hi⟩ := hi
  rw [run_equalIn_array w (d + 1) _ _ ht hi, run_eqItems_bytes w d he hu hc a b _ (fun j hj => by rw [List.mem_range] at hj; omega)]
  congr 1
  rw [Bool.eq_iff_iff]
  simp only [decide_eq_true_eq, List.mem_range]
  constructor
  · intro h
    apply List.ext_getElem (by omega)
    intro j h1 h2
    have := h j (by omega)
    simpa [List.getD, List.getElem?_eq_getElem h1, List.getElem?_eq_getElem h2] using this
  · intro h j _
    rw [h]
end
theorem run_eql_id (w : World) (a b : List UInt8) (ha : a.length = 32) (hb : b.length = 32) :
    (binOp .eql 25 (.agg (u8s a)) (.agg (u8s b))).run Tryd.prog w = .ok (.bool (decide (a = b))) w := by
  rw [run_eql_struct, run_equalIn_bytes w 9998 Tryd.underlying25 (by kernel_rfl) Tryd.underlying5 (by kernel_rfl) (Option.isSome_iff_exists.1 (by kernel_rfl)) a b ha hb]
  rfl
theorem run_neq_id (w : World) (a b : List UInt8) (ha : a.length = 32) (hb : b.length = 32) :
    (binOp .neq 25 (.agg (u8s a)) (.agg (u8s b))).run Tryd.prog w = .ok (.bool (!decide (a = b))) w := by
  rw [run_neq_struct, run_equalIn_bytes w 9998 Tryd.underlying25 (by kernel_rfl) Tryd.underlying5 (by kernel_rfl) (Option.isSome_iff_exists.1 (by kernel_rfl)) a b ha hb]
  rfl
/-- The cells of a block. -/
def RowOf (w : World) (g : Nat) : Array Value := match w.heap[g]? with | some (.cells cs _ _) => cs | _ => #[]
def HasRow (w : World) (g : Nat) (t : TypeId) (n : Nat) : Prop := ∃ cs, cs.size = n ∧ Blk w g t cs
theorem rowOf_blk {w : World} {g : Nat} {t : TypeId} {cs : Array Value} (h : Blk w g t cs) : RowOf w g = cs := by
  unfold Blk at h
  simp [RowOf, h]
theorem hasRow_blk {w : World} {g : Nat} {t : TypeId} {cs : Array Value} {n : Nat} (h : Blk w g t cs) (hn : cs.size = n) : HasRow w g t n := ⟨cs, hn, h⟩
/-- The load and the store of an id, not to be opened by the walk. -/
def ldvI (p : Addr) : Sem Value := loadVar 25 p
def stvI (p : Addr) (v : Value) : Sem Unit := storeVar 25 p v
theorem ldvI_eq (p : Addr) : loadVar 25 p = ldvI p := rfl
theorem stvI_eq (p : Addr) (v : Value) : storeVar 25 p v = stvI p v := rfl
theorem run_ldvI (w : World) (g : Nat) (hh : HasRow w g 25 32) : (ldvI ⟨g, 0, none⟩).run Tryd.prog w = .ok (.agg (RowOf w g)) w := by
  obtain ⟨cs, hn, h⟩ := hh
  rw [rowOf_blk h]
  exact run_loadVar_row w g _ _ _ _ _ h Tryd.underlying25 rfl (by rw [hn]; exact sz32)
theorem hasRow_id {w : World} {g : Nat} {l : List UInt8} (h : Blk w g 25 (u8s l)) (hl : l.length = 32) : HasRow w g 25 32 := hasRow_blk h (by rw [u8s_size, hl])
/-- An id's 32 bytes. -/
abbrev IdL := List UInt8
def zeroId : List UInt8 := List.replicate 32 0
theorem zeroId_length : zeroId.length = 32 := by simp [zeroId]
section
variable {P : Program}
/-- An aggregate is stored into a variable that was laid just now: the world behind it is a new one. -/
theorem wpList_store_new {W : World} {ops : Array Oper} {rest : List Oper} {o : Oper} {a : Act} {Q : Exit → Act → World → Prop} (hgd : o.guard = none) (ty : TypeId) (x y : Operand) (ho : o.op = .store ty x y)
    (cells zs : Array Value) (hx : a.eval x = .pointer (some ⟨W.heap.size, 0, none⟩)) (hy : a.eval y = .agg cells) (hi : (P.info? ty).map (·.size) = some cells.size) (hold : zs.size = cells.size) (h1 : cells.all (·.oneCell') = true)
    (h : ∀ W1, Blk W1 W.heap.size ty cells → Below W.heap.size W W1 → wpList P ops Q rest (a.put o.dst undef) W1) : wpList P ops Q (o :: rest) a (W.alloc (.cells zs ty)) :=
  wpList_store_row hgd ty x y ho W.heap.size cells hx hy ty zs (Blk.new W ty zs) hi hold h1
    (h _ (setRow_heap _ _ _ _ _ _ (Blk.new W ty zs)) (below_setRow ((Below.refl _ _).alloc (Nat.le_refl _) _) (Nat.le_refl _) _))
end
theorem wpList_store_newId {W : World} {ops : Array Oper} {rest : List Oper} {o : Oper} {a : Act} {Q : Exit → Act → World → Prop} (hgd : o.guard = none) (x y : Operand) (ho : o.op = .store 25 x y)
    (u : List UInt8) (lu : u.length = 32) (zs : Array Value) (hx : a.eval x = .pointer (some ⟨W.heap.size, 0, none⟩)) (hy : a.eval y = .agg (u8s u)) (hz : zs.size = 32)
    (h : ∀ W1, Blk W1 W.heap.size 25 (u8s u) → Below W.heap.size W W1 → wpList Tryd.prog ops Q rest (a.put o.dst undef) W1) : wpList Tryd.prog ops Q (o :: rest) a (W.alloc (.cells zs 25)) :=
  wpList_store_new hgd _ x y ho (u8s u) zs hx hy (by rw [u8s_size, lu]; exact sz32) (by rw [u8s_size, lu]; exact hz) (u8s_one u) h
end Go.Proofs.YtlanconcbpdneaaDoor
/- == of an id and the empty one, as the walk meets it. No condition. -/
namespace Go.Proofs.YtlanconcbpdneaaDoor
open Go.RowKit
theorem zero_cells : (#[.int .u8 0, .int .u8 0, .int .u8 0, .int .u8 0, .int .u8 0, .int .u8 0, .int .u8 0, .int .u8 0, .int .u8 0, .int .u8 0, .int .u8 0, .int .u8 0, .int .u8 0, .int .u8 0, .int .u8 0, .int .u8 0, .int .u8 0, .int .u8 0, .int .u8 0, .int .u8 0, .int .u8 0, .int .u8 0, .int .u8 0, .int .u8 0, .int .u8 0, .int .u8 0, .int .u8 0, .int .u8 0, .int .u8 0, .int .u8 0, .int .u8 0, .int .u8 0] : Array Value) = u8s (List.replicate 32 0) := by kernel_rfl
theorem equalIn_zero (l : List UInt8) (hl : l.length = 32) (w : World) :
    (Op.equalIn 10000 25 (.agg (u8s l)) (.agg #[.int .u8 0, .int .u8 0, .int .u8 0, .int .u8 0, .int .u8 0, .int .u8 0, .int .u8 0, .int .u8 0, .int .u8 0, .int .u8 0, .int .u8 0, .int .u8 0, .int .u8 0, .int .u8 0, .int .u8 0, .int .u8 0, .int .u8 0, .int .u8 0, .int .u8 0, .int .u8 0, .int .u8 0, .int .u8 0, .int .u8 0, .int .u8 0, .int .u8 0, .int .u8 0, .int .u8 0, .int .u8 0, .int .u8 0, .int .u8 0, .int .u8 0, .int .u8 0])).run Tryd.prog w = .ok (decide (l = List.replicate 32 0)) w := by
  rw [zero_cells]
  exact run_equalIn_bytes w 9998 Tryd.underlying25 (by kernel_rfl) Tryd.underlying5 (by kernel_rfl) (Option.isSome_iff_exists.1 (by kernel_rfl)) l (List.replicate 32 0) hl (by simp)
end Go.Proofs.YtlanconcbpdneaaDoor
/- Regions that draw their order, walked once in the text's order, in a class of worlds of one's own. No condition; no program. -/
namespace Go.Proofs.YtlanconcbpdneaaDoor
open Go.RowKit
section
variable {P : Program} {ops : Array Oper} {C : World → Prop} {Q : Act → Prop} {a : Act} {o : Oper} {rest : List Oper}
/-- One operation that is wanted: its value in every world of the class. -/
theorem wpQuiet_go {v : Value} (hw : Region.wanted o (yielded ops a.tmps) = true) (hv : ∀ w, C w → Oper.quietUpon P C w v ((execOp a.eval o).run P w)) (h : wpQuiet P ops C Q rest (a.put o.dst v)) : wpQuiet P ops C Q (o :: rest) a := by
  unfold wpQuiet
  rw [if_pos hw]
  exact ⟨v, hv, h⟩
theorem wpQuiet_ex (hw : Region.wanted o (yielded ops a.tmps) = true) (h : ∃ v, (∀ w, C w → Oper.quietUpon P C w v ((execOp a.eval o).run P w)) ∧ wpQuiet P ops C Q rest (a.put o.dst v)) : wpQuiet P ops C Q (o :: rest) a := by
  obtain ⟨v, h1, h2⟩ := h
  exact wpQuiet_go hw h1 h2
/-- ... that is not. -/
theorem wpQuiet_pass (hw : Region.wanted o (yielded ops a.tmps) = false) (h : wpQuiet P ops C Q rest (a.put o.dst undef)) : wpQuiet P ops C Q (o :: rest) a := by
  unfold wpQuiet
  rw [if_neg (by rw [hw]; simp)]
  exact h
/-- A call: its contract in every world of the class. -/
theorem quiet_call {w : World} {f : FuncId} {args : Array Value} {v : Value} (h : Calls P f args w fun e w'' => e = .returned v ∧ C w'') : Oper.quietUpon P C w v (.ok (.enter f args) w) := ⟨rfl, h⟩
theorem quiet_val {w : World} {v : Value} : Oper.quietUpon P C w v (.ok (.value v) w) := ⟨rfl, rfl⟩
/-- A whole array or struct that is loaded. -/
theorem quiet_load_mid {w : World} {v : Value} (ty : TypeId) (x : Operand) (ho : o.op = .load ty x) (b i : Nat) (hx : a.eval x = .pointer (some ⟨b, i, none⟩)) (cs : List Value) (d : TypeDesc) (hc : w.rangeAt b i cs)
    (hu : P.underlying ty = some d) (hd : d.isRow = true) (hi : (P.info? ty).map (·.size) = some cs.length) (hv : v = .agg cs.toArray) : Oper.quietUpon P C w v ((execOp a.eval o).run P w) := by
  subst hv
  unfold execOp
  simp only [ho, hx, Instr.loadAt, Instr.sureAddr, Sem.run_bind, Sem.run_pure, Result.andThen_ok, run_loadVar_mid w b i ty cs d hc hu hd hi]
  exact ⟨rfl, rfl⟩
end
theorem wp_region_class {P : Program} {C : World → Prop} {id : Nat} {Q : Exit → Act → World → Prop} {a : Act} {w : World} {l : List Oper} (hm : P.follows .mixedOrders = true) (hB : Region.lexB .any l.toArray = true) (hC : C { w with drawn := w.drawn + 1 })
    (h : wpQuiet P l.toArray C (fun a' => ∀ w', C w' → Q .normal a' w') l a) : (Code.region id l.toArray true).wp P Q a w :=
  wp_region_quiet (C := C) hm hB hC (by simpa using h)
theorem range_blk {w : World} {g : Nat} {t : TypeId} {cs : Array Value} (h : Blk w g t cs) : World.rangeAt w g 0 cs.toList := fun j v hv => by
  rw [Nat.zero_add, h.cell]
  simpa using hv
end Go.Proofs.YtlanconcbpdneaaDoor
/- Slices that the call owns, of whatever element: append of a block's cells. No condition; no program. -/
namespace Go.Proofs.YtlanconcbpdneaaDoor
open Go.RowKit

section
variable {P : Program}
/-- A slice value of the call's own: its form. -/
theorem own_form {w : World} {base : Nat} {e : TypeId} {size n : Nat} {v : Value} {xs : List Value} (h : w.ownsRow base e size v n xs) :
    (v = .slice none 0 0 ∧ n = 0 ∧ xs = []) ∨ ∃ g cap, v = .slice (some ⟨g, 0, none⟩) n cap ∧ base ≤ g ∧ g < w.heap.size ∧ n ≤ cap := by
  have hx := h.1
  rcases h.2 with ⟨h1, h2⟩ | ⟨g, cap, cur, h1, h2, h3, h4, _⟩
  · subst h2; exact .inl ⟨h1, rfl, List.eq_nil_of_length_eq_zero (by simpa using hx)⟩
  · refine .inr ⟨g, cap, h1, h2, ?_, h4⟩
    rcases Nat.lt_or_ge g w.heap.size with hlt | hge
    · exact hlt
    · rw [Array.getElem?_eq_none hge] at h3; cases h3
theorem own_form' {w : World} {base : Nat} {e : TypeId} {size n : Nat} {v : Value} {xs : List Value} (h : w.ownsRow base e size v n xs) : ∃ A cap, v = .slice A n cap := by
  rcases own_form h with ⟨rfl, rfl, _⟩ | ⟨g, cap, rfl, _⟩
  · exact ⟨_, _, rfl⟩
  · exact ⟨_, _, rfl⟩
theorem own_below {w w' : World} {base : Nat} {e : TypeId} {size n : Nat} {v : Value} {xs : List Value} (h : w.ownsRow base e size v n xs) (hb : Below w.heap.size w w') : w'.ownsRow base e size v n xs :=
  World.ownsRow.kept h (row := none) ⟨hb.os, hb.tape, hb.output, hb.size, fun k hk _ => hb.block k hk⟩ (by
    cases hv : v.ownBlock with
    | none => exact .inl rfl
    | some k => exact .inr (by simp))
theorem news_of_blk {w : World} {k : Nat} {t : TypeId} {cs : Array Value} (h : Blk w k t cs) : ∀ j u, cs.toList[j]? = some u → w.cell? ((⟨k, 0, none⟩ : Addr).add j) = some u := World.news_of_block h

theorem wp_append_blk {w : World} {o : Oper} {a : Act} {K : Act → World → Prop} {Q : Exit → Act → World → Prop} (s x : Operand) (t : TypeId)
    (ho : o.op = .call { callee := .builtin .append, args := #[s, x], argTypes := #[t, t] })
    (e : TypeId) (z : Value) (size bytes : Nat) (hT : SliceTy P t e z size bytes) (base : Nat) (v : Value) (n : Nat) (xs : List Value) (hs : a.eval s = v) (hown : w.ownsRow base e size v n xs)
    (k m c : Nat) (t' : TypeId) (cs : Array Value) (hx : a.eval x = .slice (some ⟨k, 0, none⟩) m c) (hcs : Blk w k t' cs) (hl : cs.size = m * size) (h1 : ∀ u ∈ cs.toList, u.oneCell' = true)
    (h63 : n + m ≤ 9223372036854775807) (hbytes : (n + m) * bytes ≤ 140737488355328) (w0 : World) (hb : Below base w0 w) (hbase : base ≤ w.heap.size)
    (h : ∀ v' w', w'.ownsRow base e size v' (n + m) (xs ++ cs.toList) → Below base w0 w' → w.grownBy w' v.ownBlock → K (a.put o.dst v') w') : o.wp P a w K Q := by
  obtain ⟨i, i1, i2, i3, i4⟩ := hT.hi
  refine wp_append_own w s x t ho base e i z size bytes hT.ht i1 i2 i3 i4 hT.hzs hT.hsz v n xs hs hown ⟨k, 0, none⟩ m c cs.toList hx (by simpa using hl) (news_of_blk hcs) h1 h63 hbytes hbase ?_
  intro v' w' hown' hg _
  exact h v' w' hown' (hb.grown hg hbase (fun k hk => (World.ownsRow.lt hown k hk).1)) hg

theorem wpList_append_blk {w : World} {ops : Array Oper} {rest : List Oper} {o : Oper} {a : Act} {Q : Exit → Act → World → Prop} (hgd : o.guard = none) (s x : Operand) (t : TypeId)
    (ho : o.op = .call { callee := .builtin .append, args := #[s, x], argTypes := #[t, t] })
    (e : TypeId) (z : Value) (size bytes : Nat) (hT : SliceTy P t e z size bytes) (base : Nat) (v : Value) (n : Nat) (xs : List Value) (hs : a.eval s = v) (hown : w.ownsRow base e size v n xs)
    (k m c : Nat) (t' : TypeId) (cs : Array Value) (hx : a.eval x = .slice (some ⟨k, 0, none⟩) m c) (hcs : Blk w k t' cs) (hl : cs.size = m * size) (h1 : ∀ u ∈ cs.toList, u.oneCell' = true)
    (h63 : n + m ≤ 9223372036854775807) (hbytes : (n + m) * bytes ≤ 140737488355328) (w0 : World) (hb : Below base w0 w) (hbase : base ≤ w.heap.size)
    (h : ∀ v' w', w'.ownsRow base e size v' (n + m) (xs ++ cs.toList) → Below base w0 w' → w.grownBy w' v.ownBlock → wpList P ops Q rest (a.put o.dst v') w') : wpList P ops Q (o :: rest) a w :=
  wpList_plain hgd fun _ hK => wp_append_blk s x t ho e z size bytes hT base v n xs hs hown k m c t' cs hx hcs hl h1 h63 hbytes w0 hb hbase fun v' w' h2 h3 h4 => hK _ _ (h v' w' h2 h3 h4)

theorem step_append_blk {w : World} {ops : Array Oper} {o : Oper} {a : Act} {K : Act → World → Prop} {Q : Exit → Act → World → Prop} {E : Prop} (hgd : o.guard = none) (s x : Operand) (t : TypeId)
    (ho : o.op = .call { callee := .builtin .append, args := #[s, x], argTypes := #[t, t] })
    (e : TypeId) (z : Value) (size bytes : Nat) (hT : SliceTy P t e z size bytes) (base : Nat) (v : Value) (n : Nat) (xs : List Value) (hs : a.eval s = v) (hown : w.ownsRow base e size v n xs)
    (k m c : Nat) (t' : TypeId) (cs : Array Value) (hx : a.eval x = .slice (some ⟨k, 0, none⟩) m c) (hcs : Blk w k t' cs) (hl : cs.size = m * size) (h1 : ∀ u ∈ cs.toList, u.oneCell' = true)
    (h63 : n + m ≤ 9223372036854775807) (hbytes : (n + m) * bytes ≤ 140737488355328) (w0 : World) (hb : Below base w0 w) (hbase : base ≤ w.heap.size)
    (h : ∀ v' w', w'.ownsRow base e size v' (n + m) (xs ++ cs.toList) → Below base w0 w' → w.grownBy w' v.ownBlock → K (a.put o.dst v') w') :
    if Region.wanted o (yielded ops a.tmps) = true then Oper.wp P o a w K Q else E := by
  have hw : Region.wanted o (yielded ops a.tmps) = true := by simp [Region.wanted, hgd]
  rw [if_pos hw]
  exact wp_append_blk s x t ho e z size bytes hT base v n xs hs hown k m c t' cs hx hcs hl h1 h63 hbytes w0 hb hbase h
end
end Go.Proofs.YtlanconcbpdneaaDoor
/- Slices whose elements have several cells: read, out of whatever memory. No condition; no program. -/
namespace Go.Proofs.YtlanconcbpdneaaDoor
open Go.RowKit
section
variable {α : Type}
/-- The slice value v reads as l, each element's k cells by enc. -/
def SliceAt (w : World) (k : Nat) (enc : α → List Value) (v : Value) (l : List α) : Prop :=
  ∃ A cap, v = .slice A l.length cap ∧ l.length ≤ cap ∧ cap ≤ 9223372036854775807 ∧
    (0 < l.length → ∃ g o, A = some ⟨g, o, none⟩ ∧ g < w.heap.size ∧ ∀ i x, l[i]? = some x → w.rangeAt g (o + i * k) (enc x))
variable {w w' : World} {k : Nat} {enc : α → List Value} {v : Value} {l : List α}
theorem SliceAt.below (h : SliceAt w k enc v l) (hb : Below w.heap.size w w') : SliceAt w' k enc v l := by
  obtain ⟨A, cap, h1, h2, h3, h4⟩ := h
  refine ⟨A, cap, h1, h2, h3, fun h0 => ?_⟩
  obtain ⟨g, o, e, hg, hc⟩ := h4 h0
  exact ⟨g, o, e, Nat.lt_of_lt_of_le hg hb.size, fun i x hx j u hu => (hb.cell (p := ⟨g, o + i * k + j, none⟩) hg).trans (hc i x hx j u hu)⟩
theorem SliceAt.len (h : SliceAt w k enc v l) : l.length ≤ 9223372036854775807 := by
  obtain ⟨A, cap, h1, h2, h3, h4⟩ := h
  omega
theorem SliceAt.nil : SliceAt w k enc (.slice none 0 0) ([] : List α) := ⟨none, 0, rfl, by simp, by omega, fun h => absurd h (by simp)⟩
/-- What is known of one element. -/
theorem SliceAt.at_ (h : SliceAt w k enc v l) {i : Nat} (hi : i < l.length) :
    ∃ g o cap, v = .slice (some ⟨g, o, none⟩) l.length cap ∧ g < w.heap.size ∧ w.rangeAt g (o + i * k) (enc l[i]) := by
  obtain ⟨A, cap, h1, h2, h3, h4⟩ := h
  obtain ⟨g, o, rfl, hg, hc⟩ := h4 (by omega)
  exact ⟨g, o, cap, h1, hg, hc i _ (List.getElem?_eq_getElem hi)⟩
theorem rangeAt_below {g o : Nat} {cs : List Value} (h : w.rangeAt g o cs) (hg : g < w.heap.size) (hb : Below w.heap.size w w') : w'.rangeAt g o cs :=
  fun j u hu => (hb.cell (p := ⟨g, o + j, none⟩) hg).trans (h j u hu)
/-- The cells of a list of elements. -/
def rowsOf (enc : α → List Value) (l : List α) : List Value := l.flatMap enc
theorem rowsOf_length (hk : ∀ x ∈ l, (enc x).length = k) : (rowsOf enc l).length = l.length * k := by
  induction l with
  | nil => simp [rowsOf]
  | cons x l ih =>
    have := ih (fun y hy => hk y (by simp [hy]))
    simp only [rowsOf, List.flatMap_cons, List.length_append, List.length_cons] at *
    rw [this, hk x (by simp), Nat.succ_mul]
    omega
theorem rowsOf_append (a b : List α) : rowsOf enc (a ++ b) = rowsOf enc a ++ rowsOf enc b := by simp [rowsOf]
theorem rowsOf_one (x : α) : rowsOf enc [x] = enc x := by simp [rowsOf]
theorem rowsOf_get (hk : ∀ x ∈ l, (enc x).length = k) {i : Nat} {x : α} (hx : l[i]? = some x) {j : Nat} {u : Value} (hu : (enc x)[j]? = some u) : (rowsOf enc l)[i * k + j]? = some u := by
  induction l generalizing i with
  | nil => simp at hx
  | cons y l ih =>
    have hy := hk y (by simp)
    have hj : j < k := by
      have := (List.getElem?_eq_some_iff.1 hu).1
      rw [hk x (List.mem_of_getElem? hx)] at this
      exact this
    cases i with
    | zero =>
      simp only [List.getElem?_cons_zero, Option.some.injEq] at hx
      subst hx
      rw [Nat.zero_mul, Nat.zero_add]
      simp only [rowsOf, List.flatMap_cons]
      rw [List.getElem?_append_left (by omega)]
      exact hu
    | succ i =>
      simp only [List.getElem?_cons_succ] at hx
      have := ih (fun z hz => hk z (by simp [hz])) hx
      simp only [rowsOf, List.flatMap_cons] at *
      rw [List.getElem?_append_right (by rw [hy, Nat.succ_mul]; omega), hy, show (i + 1) * k + j - k = i * k + j from by rw [Nat.succ_mul]; omega]
      exact this
/-- A slice of the call's own reads so. -/
theorem SliceAt.of_own {base : Nat} {e : TypeId} (hk : ∀ x ∈ l, (enc x).length = k) (h : w.ownsRow base e k v l.length (rowsOf enc l)) : SliceAt w k enc v l := by
  rcases own_form h with ⟨rfl, h0, _⟩ | ⟨g, cap, rfl, h1, h2, h3⟩
  · obtain rfl := List.eq_nil_of_length_eq_zero h0
    exact SliceAt.nil
  · have hcap : cap ≤ 9223372036854775807 := by
      rcases h.2 with ⟨hv, _⟩ | ⟨g', cap', cur, hv, _, _, _, hm, _⟩
      · cases hv
      · injection hv with _ _ hv
        subst hv
        simpa [maxLen] using hm
    refine ⟨_, cap, rfl, h3, hcap, fun _ => ⟨g, 0, rfl, h2, fun i x hx j u hu => ?_⟩⟩
    have hrow := rowsOf_get hk hx hu
    have hlt : i * k + j < (rowsOf enc l).length := (List.getElem?_eq_some_iff.1 hrow).1
    rw [rowsOf_length hk] at hlt
    have hc := World.ownsRow.cellAt h (i * k + j) hlt
    rw [Nat.zero_add]
    rw [hrow] at hc
    exact hc
end
end Go.Proofs.YtlanconcbpdneaaDoor
/- Rows of the call's own whose elements have several cells: written, element by element, and many at once; copy, clear, append of a make. No condition; no program. -/
namespace Go.Proofs.YtlanconcbpdneaaDoor
open Go.RowKit
section
variable {P : Program} {w w' : World} {g : Nat} {e : TypeId}
theorem Blk.setCells : ∀ (vs : List Value) (o : Nat) (w : World) (cur : Array Value), Blk w g e cur → ∃ cur', Blk (w.setCells g o vs) g e cur' ∧ cur'.size = cur.size
  | [], _, _, cur, h => ⟨cur, h, rfl⟩
  | v :: r, o, w, cur, h => by
    obtain ⟨cur', h1, h2⟩ := Blk.setCells r (o + 1) _ _ (h.set_ o v)
    exact ⟨cur', h1, by rw [h2, Array.size_setIfInBounds]⟩
theorem Blk.setCells_far {g' : Nat} (hne : g' ≠ g) : ∀ (vs : List Value) (o : Nat) (w : World) {cur : Array Value}, Blk w g' e cur → Blk (w.setCells g o vs) g' e cur
  | [], _, _, _, h => h
  | v :: r, o, w, _, h => Blk.setCells_far hne r (o + 1) _ (h.far (p := ⟨g, o, none⟩) hne v)
theorem below_setCells : ∀ (vs : List Value) (o : Nat) (w0 w : World) {base : Nat}, Below base w0 w → base ≤ g → Below base w0 (w.setCells g o vs)
  | [], _, _, _, _, h, _ => h
  | v :: r, o, w0, w, base, h, hg => below_setCells r (o + 1) w0 _ (h.setCell (p := ⟨g, o, none⟩) hg v) hg
theorem size_setCells : ∀ (vs : List Value) (o : Nat) (w : World), (w.setCells g o vs).heap.size = w.heap.size
  | [], _, _ => rfl
  | v :: r, o, w => by rw [World.setCells, size_setCells r]; exact World.size_setCell _ _ _
end
section
variable {α : Type} {P : Program} {w w' : World} {g : Nat} {e : TypeId} {k : Nat} {enc : α → List Value} {cap : Nat} {s t : List α}
/-- A row of the call's own: block g holds the elements' cells, one behind the other, and has room for cap. -/
structure Row (w : World) (g : Nat) (e : TypeId) (k : Nat) (enc : α → List Value) (cap : Nat) (s : List α) : Prop where
  blk : ∃ cur, Blk w g e cur ∧ cur.size = cap * k
  at_ : ∀ i x, s[i]? = some x → w.rangeAt g (i * k) (enc x)
  le : s.length ≤ cap
  top : cap ≤ maxLen
theorem Row.lt (h : Row w g e k enc cap s) : g < w.heap.size := by obtain ⟨cur, hb, _⟩ := h.blk; exact hb.lt
theorem Row.drew (h : Row w g e k enc cap s) : Row w.drew g e k enc cap s := ⟨h.blk, h.at_, h.le, h.top⟩
theorem Row.below (h : Row w g e k enc cap s) (hb : Below w.heap.size w w') : Row w' g e k enc cap s := by
  have hlt := h.lt
  obtain ⟨cur, hc, hs⟩ := h.blk
  exact ⟨⟨cur, hc.below hb hlt, hs⟩, fun i x hx => rangeAt_below (h.at_ i x hx) hlt hb, h.le, h.top⟩
theorem Row.alloc (h : Row w g e k enc cap s) (o : Obj) : Row (w.alloc o) g e k enc cap s := h.below ((Below.refl _ _).alloc (Nat.le_refl _) _)
theorem Row.cut (h : Row w g e k enc cap s) (n : Nat) : Row w g e k enc cap (s.take n) :=
  ⟨h.blk, fun i x hx => h.at_ i x (by rw [List.getElem?_take] at hx; split at hx; exact hx; cases hx), by have := h.le; simp; omega, h.top⟩
theorem Row.there (h : Row w g e k enc cap s) {o n : Nat} (hn : o + n ≤ cap * k) : w.there g o n := by
  obtain ⟨cur, hc, hs⟩ := h.blk
  intro j hj
  refine ⟨?_, hc.frozen _⟩
  rw [hc.cell, Array.getElem?_eq_getElem (by omega)]
  rfl
theorem Row.top63 (h : Row w g e k enc cap s) : cap ≤ 9223372036854775807 := by have := h.top; simpa [maxLen] using this
theorem Row.slice (h : Row w g e k enc cap s) : SliceAt w k enc (.slice (some ⟨g, 0, none⟩) s.length cap) s :=
  ⟨_, cap, rfl, h.le, h.top63, fun _ => ⟨g, 0, rfl, h.lt, fun i x hx => by rw [Nat.zero_add]; exact h.at_ i x hx⟩⟩
/-- Elements are written from place i on. -/
theorem Row.put (hk : ∀ x ∈ s, (enc x).length = k) (hkt : ∀ x ∈ t, (enc x).length = k) (h : Row w g e k enc cap s) {i : Nat} (hi : i ≤ s.length) (ht : i + t.length ≤ cap) :
    Row (w.setCells g (i * k) (rowsOf enc t)) g e k enc cap (s.take i ++ t ++ s.drop (i + t.length)) := by
  have hlen := rowsOf_length hkt
  obtain ⟨cur, hc, hs⟩ := h.blk
  obtain ⟨cur', hc', hs'⟩ := hc.setCells (rowsOf enc t) (i * k)
  have hroom : i * k + (rowsOf enc t).length ≤ cap * k := by
    rw [hlen, ← Nat.add_mul]
    exact Nat.mul_le_mul_right _ ht
  have hth : w.there g (i * k) (rowsOf enc t).length := h.there hroom
  refine ⟨⟨cur', hc', hs'.trans hs⟩, fun j x hx => ?_, ?_, h.top⟩
  · by_cases h1 : j < i
    · have hx' : s[j]? = some x := by
        rw [List.append_assoc, List.getElem?_append_left (by simp; omega), List.getElem?_take, if_pos h1] at hx
        exact hx
      refine World.rangeAt_setCells_apart (h.at_ j x hx') _ _ _ (.inr (.inl ?_))
      rw [hk x (List.mem_of_getElem? hx'), ← Nat.succ_mul]
      exact Nat.mul_le_mul_right _ h1
    · by_cases h2 : j < i + t.length
      · have hx' : t[j - i]? = some x := by
          rw [List.append_assoc, List.getElem?_append_right (by simp; omega), List.getElem?_append_left (by simp; omega)] at hx
          simpa [List.length_take, Nat.min_eq_left hi] using hx
        intro q u hu
        have hq := rowsOf_get hkt hx' hu
        have := World.rangeAt_setCells_same w g (i * k) (rowsOf enc t) hth _ u hq
        have e1 : i * k + ((j - i) * k + q) = j * k + q := by
          rw [← Nat.add_assoc, ← Nat.add_mul, show i + (j - i) = j from by omega]
        rwa [e1] at this
      · have hx' : s[j]? = some x := by
          rw [List.getElem?_append_right (by simp; omega), List.getElem?_drop] at hx
          rw [← hx]
          congr 1
          simp
          omega
        refine World.rangeAt_setCells_apart (h.at_ j x hx') _ _ _ (.inr (.inr ?_))
        rw [hlen, ← Nat.add_mul]
        exact Nat.mul_le_mul_right _ (by omega)
  · have := h.le
    simp
    omega
theorem Row.set (hk : ∀ x ∈ s, (enc x).length = k) (h : Row w g e k enc cap s) {i : Nat} (hi : i < s.length) {x : α} (hx : (enc x).length = k) : Row (w.setCells g (i * k) (enc x)) g e k enc cap (s.set i x) := by
  have := h.put hk (t := [x]) (fun y hy => by simp at hy; subst hy; exact hx) (i := i) (by omega) (by have := h.le; simp; omega)
  rw [rowsOf_one] at this
  rw [List.set_eq_take_append_cons_drop, if_pos hi]
  simpa using this
/-- Cells behind the first i elements are overwritten. -/
theorem Row.shed (hk : ∀ x ∈ s, (enc x).length = k) (h : Row w g e k enc cap s) (i : Nat) (zs : List Value) : Row (w.setCells g (i * k) zs) g e k enc cap (s.take i) := by
  obtain ⟨cur, hc, hs⟩ := h.blk
  obtain ⟨cur', hc', hs'⟩ := hc.setCells zs (i * k)
  refine ⟨⟨cur', hc', hs'.trans hs⟩, fun j x hx => ?_, ?_, h.top⟩
  · rw [List.getElem?_take] at hx
    split at hx
    · rename_i h1
      refine World.rangeAt_setCells_apart (h.at_ j x hx) _ _ _ (.inr (.inl ?_))
      rw [hk x (List.mem_of_getElem? hx), ← Nat.succ_mul]
      exact Nat.mul_le_mul_right _ h1
    · cases hx
  · have := h.le
    simp
    omega
theorem take_of_ranges (hk : ∀ x ∈ s, (enc x).length = k) {c : List Value} (hc : s.length * k ≤ c.length) (h : ∀ i x, s[i]? = some x → ∀ j u, (enc x)[j]? = some u → c[i * k + j]? = some u) : c.take (s.length * k) = rowsOf enc s := by
  induction s generalizing c with
  | nil => simp [rowsOf]
  | cons x s ih =>
    have hx := hk x (by simp)
    have h1 : c.take k = enc x := by
      refine List.ext_getElem? fun j => ?_
      rw [List.getElem?_take]
      split
      · rename_i hj
        have := h 0 x (by simp) j (enc x)[j] (List.getElem?_eq_getElem (by omega))
        rw [Nat.zero_mul, Nat.zero_add] at this
        rw [this, List.getElem?_eq_getElem (by omega)]
      · rw [List.getElem?_eq_none (by omega)]
    have h2 := ih (fun y hy => hk y (by simp [hy])) (c := c.drop k) (by simp only [List.length_cons, Nat.succ_mul] at hc; rw [List.length_drop]; omega) (fun i y hy j u hu => by
      rw [List.getElem?_drop]
      have := h (i + 1) y (by simpa using hy) j u hu
      rw [← this]
      congr 1
      rw [Nat.succ_mul]
      omega)
    simp only [List.length_cons, Nat.succ_mul, rowsOf, List.flatMap_cons] at *
    rw [Nat.add_comm, List.take_add, h1, h2]
theorem Row.own (hk : ∀ x ∈ s, (enc x).length = k) (h : Row w g e k enc cap s) {base : Nat} (hg : base ≤ g) : w.ownsRow base e k (.slice (some ⟨g, 0, none⟩) s.length cap) s.length (rowsOf enc s) := by
  obtain ⟨cur, hc, hs⟩ := h.blk
  have hle : s.length * k ≤ cap * k := Nat.mul_le_mul_right _ h.le
  refine ⟨rowsOf_length hk, .inr ⟨g, cap, cur, rfl, hg, hc, h.le, h.top, hs, take_of_ranges hk (by simpa [hs] using hle) fun i x hx j u hu => ?_⟩⟩
  have := h.at_ i x hx j u hu
  rw [hc.cell] at this
  rw [Array.getElem?_toList]
  exact this
/-- .. and back. -/
theorem Row.of_own {base : Nat} {v : Value} (hk : ∀ x ∈ s, (enc x).length = k) (h : w.ownsRow base e k v s.length (rowsOf enc s)) :
    (v = .slice none 0 0 ∧ s = []) ∨ ∃ g cap, v = .slice (some ⟨g, 0, none⟩) s.length cap ∧ base ≤ g ∧ Row w g e k enc cap s := by
  rcases h.2 with ⟨h1, h2⟩ | ⟨g, cap, cur, h1, h2, h3, h4, h5, h6, h7⟩
  · exact .inl ⟨h1, List.eq_nil_of_length_eq_zero h2⟩
  · refine .inr ⟨g, cap, h1, h2, ⟨cur, h3, h6⟩, fun i x hx j u hu => ?_, h4, h5⟩
    have hrow := rowsOf_get hk hx hu
    have hb : Blk w g e cur := h3
    rw [hb.cell, ← Array.getElem?_toList]
    rw [← h7, List.getElem?_take] at hrow
    split at hrow
    · exact hrow
    · cases hrow
/-- A row just laid, whose first cells are the elements'. -/
theorem Row.of_new (hk : ∀ x ∈ s, (enc x).length = k) (w : World) (zs : Array Value) (hs : s.length * k + zs.size = cap * k) (hle : s.length ≤ cap) (htop : cap ≤ maxLen) :
    Row (w.alloc (.cells ((rowsOf enc s).toArray ++ zs) e)) w.heap.size e k enc cap s := by
  have hb := Blk.new w e ((rowsOf enc s).toArray ++ zs)
  refine ⟨⟨_, hb, by rw [Array.size_append, List.size_toArray, rowsOf_length hk]; exact hs⟩, fun i x hx j u hu => ?_, hle, htop⟩
  have hrow := rowsOf_get hk hx hu
  have hlt : i * k + j < (rowsOf enc s).length := (List.getElem?_eq_some_iff.1 hrow).1
  rw [hb.cell, Array.getElem?_append_left (by simpa using hlt)]
  simpa using hrow
/-- copy, whatever the elements' size. -/
theorem run_copy_rows (w : World) (dT sT ty elem : TypeId) (b o dLen dCap : Nat) (a : Addr) (sLen sCap n : Nat) (cs : List Value)
    (hu : P.underlying dT = some (.slice elem)) (hs : (P.info? elem).map (·.size) = some k) (hn : n = Nat.min sLen dLen) (hl : cs.length = n * k)
    (hsrc : ∀ j v, cs[j]? = some v → w.cell? (a.add j) = some v) (ht : w.there b o cs.length) (h1 : ∀ v ∈ cs, v.oneCell' = true) :
    (Builtin.copy_ #[dT, sT] ty #[.slice (some ⟨b, o, none⟩) dLen dCap, .slice (some a) sLen sCap]).run P w = .ok (goInt n) (w.setCells b o cs) := by
  have hl' := run_loadCells_list (P := P) w a cs hsrc
  have hst := run_storeCells_cells (P := P) b o cs 0 w (fun j hj => (ht j hj).1) (fun j hj => (ht j hj).2) h1
  cases hq : P.info? elem with
  | none => simp [hq] at hs
  | some i =>
    have hi : i.size = k := by simpa [hq] using hs
    rw [hl] at hl'
    simp [Builtin.copy_, run_underlying hu, Builtin.lenOf, Builtin.firstCells, sizeOf, typeInfo, hq, hi, ← hn, hl', hst]
theorem run_clear_rows (w : World) (dT ty elem : TypeId) (z : Value) (b o n dCap : Nat) (hu : P.underlying dT = some (.slice elem)) (hz : (P.info? elem).map (·.zero) = some (some z)) (h0 : 0 < n)
    (ht : w.there b o (Builtin.zeroCells z.cells n).size) (h1 : ∀ v ∈ (Builtin.zeroCells z.cells n).toList, v.oneCell' = true) :
    (Builtin.clear_ #[dT] ty #[.slice (some ⟨b, o, none⟩) n dCap]).run P w = .ok (.tuple #[]) (w.setCells b o (Builtin.zeroCells z.cells n).toList) := by
  have hst := run_storeCells_cells (P := P) b o (Builtin.zeroCells z.cells n).toList 0 w (fun j hj => (ht j (by simpa using hj)).1) (fun j hj => (ht j (by simpa using hj)).2) h1
  obtain ⟨m, rfl⟩ : ∃ m, n = m + 1 := ⟨n - 1, by omega⟩
  cases hq : P.info? elem with
  | none => simp [hq] at hz
  | some i =>
    have hi : i.zero = some z := by simpa [hq] using hz
    rw [Nat.add_zero] at hst
    simp [Builtin.clear_, run_underlying hu, zeroValue, typeInfo, hq, hi]
    rw [hst]
    rfl
theorem rowsOf_find (hk : ∀ x ∈ s, (enc x).length = k) {j : Nat} {u : Value} (h : (rowsOf enc s)[j]? = some u) : ∃ i x q, s[i]? = some x ∧ (enc x)[q]? = some u ∧ j = i * k + q := by
  induction s generalizing j with
  | nil => simp [rowsOf] at h
  | cons y s ih =>
    have hy := hk y (by simp)
    simp only [rowsOf, List.flatMap_cons] at h
    by_cases hj : j < k
    · rw [List.getElem?_append_left (by omega)] at h
      exact ⟨0, y, j, rfl, h, by omega⟩
    · rw [List.getElem?_append_right (by omega), hy] at h
      obtain ⟨i, x, q, h1, h2, h3⟩ := ih (fun z hz => hk z (by simp [hz])) h
      exact ⟨i + 1, x, q, by simpa using h1, h2, by rw [Nat.succ_mul]; omega⟩
theorem SliceAt.news {v : Value} (hk : ∀ x ∈ s, (enc x).length = k) (h : SliceAt w k enc v s) {a : Addr} {n c : Nat} (hv : v = .slice (some a) n c) : ∀ j u, (rowsOf enc s)[j]? = some u → w.cell? (a.add j) = some u := by
  intro j u hu
  obtain ⟨i, x, q, h1, h2, h3⟩ := rowsOf_find hk hu
  obtain ⟨A, cap, rfl, _, _, hc⟩ := h
  have hi := (List.getElem?_eq_some_iff.1 h1).1
  obtain ⟨g, o, rfl, hg, hat⟩ := hc (by omega)
  injection hv with e1 _ _
  injection e1 with e1
  subst e1
  have := hat i x h1 q u h2
  rw [Addr.add_mid, h3, ← Nat.add_assoc]
  exact this
theorem rowsOf_one' (ho : ∀ x ∈ s, ∀ u ∈ enc x, u.oneCell' = true) : ∀ u ∈ rowsOf enc s, u.oneCell' = true := by
  intro u hu
  obtain ⟨x, hx, hux⟩ := List.mem_flatMap.1 hu
  exact ho x hx u hux
theorem zeroCells_one {z : Array Value} (hz : ∀ u ∈ z.toList, u.oneCell' = true) (n : Nat) : ∀ u ∈ (Builtin.zeroCells z n).toList, u.oneCell' = true := by
  intro u hu
  simp only [Builtin.zeroCells, Array.toList_map, List.mem_map] at hu
  obtain ⟨i, hi, rfl⟩ := hu
  have hlt : i % z.size < z.size := Nat.mod_lt _ (by
    rcases Nat.eq_zero_or_pos z.size with h0 | h0
    · rw [h0] at hi; simp at hi
    · exact h0)
  rw [getElem!_pos z _ hlt]
  exact hz _ (Array.getElem_mem_toList _)
theorem wp_clear_run (w : World) {o : Oper} {a : Act} {K : Act → World → Prop} {Q : Exit → Act → World → Prop} (d : Operand) (t : TypeId)
    (ho : o.op = .call { callee := .builtin .clear, args := #[d], argTypes := #[t] }) (v : Value) (hd : a.eval d = v) {v' : Value} {w' : World}
    (hr : (Builtin.clear_ #[t] o.type #[v]).run P w = .ok v' w') (h : K (a.put o.dst v') w') : o.wp P a w K Q := by
  unfold Oper.wp execOp
  simp only [ho, resolve, invoke, builtin, Sem.run_bind, Sem.run_pure, Result.andThen_ok, List.map_toArray, List.map_cons, List.map_nil, hd, hr]
  exact h
theorem wpList_clear_run (w : World) {ops : Array Oper} {rest : List Oper} {o : Oper} {a : Act} {Q : Exit → Act → World → Prop} (hgd : o.guard = none) (d : Operand) (t : TypeId)
    (ho : o.op = .call { callee := .builtin .clear, args := #[d], argTypes := #[t] }) (v : Value) (hd : a.eval d = v) {v' : Value} {w' : World}
    (hr : (Builtin.clear_ #[t] o.type #[v]).run P w = .ok v' w') (h : wpList P ops Q rest (a.put o.dst v') w') : wpList P ops Q (o :: rest) a w :=
  wpList_plain hgd fun _ hK => wp_clear_run w d t ho v hd hr (hK _ _ h)
theorem wp_copy_run (w : World) {o : Oper} {a : Act} {K : Act → World → Prop} {Q : Exit → Act → World → Prop} (d x : Operand) (t t' : TypeId)
    (ho : o.op = .call { callee := .builtin .copy, args := #[d, x], argTypes := #[t, t'] }) (v u : Value) (hd : a.eval d = v) (hs : a.eval x = u) {v' : Value} {w' : World}
    (hr : (Builtin.copy_ #[t, t'] o.type #[v, u]).run P w = .ok v' w') (h : K (a.put o.dst v') w') : o.wp P a w K Q := by
  unfold Oper.wp execOp
  simp only [ho, resolve, invoke, builtin, Sem.run_bind, Sem.run_pure, Result.andThen_ok, List.map_toArray, List.map_cons, List.map_nil, hd, hs, hr]
  exact h
theorem wpList_copy_run (w : World) {ops : Array Oper} {rest : List Oper} {o : Oper} {a : Act} {Q : Exit → Act → World → Prop} (hgd : o.guard = none) (d x : Operand) (t t' : TypeId)
    (ho : o.op = .call { callee := .builtin .copy, args := #[d, x], argTypes := #[t, t'] }) (v u : Value) (hd : a.eval d = v) (hs : a.eval x = u) {v' : Value} {w' : World}
    (hr : (Builtin.copy_ #[t, t'] o.type #[v, u]).run P w = .ok v' w') (h : wpList P ops Q rest (a.put o.dst v') w') : wpList P ops Q (o :: rest) a w :=
  wpList_plain hgd fun _ hK => wp_copy_run w d x t t' ho v u hd hs hr (hK _ _ h)
theorem step_copy_run {ops : Array Oper} {o : Oper} {a : Act} {w : World} {K : Act → World → Prop} {Q : Exit → Act → World → Prop} {E : Prop}
    (hg : o.guard = none) (d x : Operand) (dT sT : TypeId) (hop : o.op = Op.call { callee := Callee.builtin Builtin.copy, args := #[d, x], argTypes := #[dT, sT] })
    (v u : Value) (hd : a.eval d = v) (hx : a.eval x = u) {v' : Value} {w' : World} (hr : (Builtin.copy_ #[dT, sT] o.type #[v, u]).run P w = .ok v' w') (hK : K (a.put o.dst v') w') :
    if Region.wanted o (yielded ops a.tmps) = true then Oper.wp P o a w K Q else E := by
  have hw : Region.wanted o (yielded ops a.tmps) = true := by simp [Region.wanted, hg]
  rw [if_pos hw]
  exact wp_copy_run w d x dT sT hop v u hd hx hr hK
end
end Go.Proofs.YtlanconcbpdneaaDoor
/- What a call leaves as it was: all blocks but some. No condition; no program. -/
namespace Go.Proofs.YtlanconcbpdneaaDoor
open Go.RowKit
/-- All blocks of w but those of S are as they were; there may be new ones. -/
structure Far (S : List (Option Nat)) (w w' : World) : Prop where
  os : w'.os = w.os
  tape : w'.tape = w.tape
  output : w'.output = w.output
  size : w.heap.size ≤ w'.heap.size
  block : ∀ k, k < w.heap.size → some k ∉ S → w'.heap[k]? = w.heap[k]?
/-- The slice value v' lies where v lay, or in a new block. -/
def Newer (w : World) (v v' : Value) : Prop := v'.ownBlock = v.ownBlock ∨ ∀ k, v'.ownBlock = some k → w.heap.size ≤ k
section
variable {S T : List (Option Nat)} {w w0 w1 w2 w' : World} {g B : Nat} {t : TypeId} {cs : Array Value}
theorem Far.refl (S : List (Option Nat)) (w : World) : Far S w w := ⟨rfl, rfl, rfl, Nat.le_refl _, fun _ _ _ => rfl⟩
theorem Far.of_below (h : Below w.heap.size w w') : Far S w w' := ⟨h.os, h.tape, h.output, h.size, fun k hk _ => h.block k hk⟩
theorem Far.of_grown {row : Option Nat} (h : w.grownBy w' row) : Far [row] w w' := ⟨h.os, h.tape, h.output, h.size, fun k hk hn => h.block k hk (fun e => hn (by simp [e]))⟩
theorem Far.grown {row : Option Nat} (h : Far S w w') (hs : ∀ k, some k ∈ S → some k = row) : w.grownBy w' row := ⟨h.os, h.tape, h.output, h.size, fun k hk hn => h.block k hk (fun e => hn (hs k e))⟩
theorem Far.mono (h : Far S w w') (hs : ∀ k, some k ∈ S → some k ∈ T) : Far T w w' := ⟨h.os, h.tape, h.output, h.size, fun k hk hn => h.block k hk (fun e => hn (hs k e))⟩
theorem Far.then_ (h : Far S w w1) (h2 : Far T w1 w2) (hT : ∀ k, some k ∈ T → some k ∈ S ∨ w.heap.size ≤ k) : Far S w w2 :=
  ⟨h2.os.trans h.os, h2.tape.trans h.tape, h2.output.trans h.output, Nat.le_trans h.size h2.size, fun k hk hn => by
    refine (h2.block k (Nat.lt_of_lt_of_le hk h.size) fun e => ?_).trans (h.block k hk hn)
    rcases hT k e with h3 | h3
    · exact hn h3
    · omega⟩
theorem Far.trans (h : Far S w w1) (h2 : Far S w1 w2) : Far S w w2 := h.then_ h2 fun _ hk => .inl hk
theorem Far.more (h : Far S w w1) (h2 : Below w1.heap.size w1 w2) : Far S w w2 := h.trans (Far.of_below h2)
theorem Far.blk (h : Far S w w') (hb : Blk w g t cs) (hg : some g ∉ S) : Blk w' g t cs := (h.block g hb.lt hg).trans hb
theorem Far.own {base size n : Nat} {e : TypeId} {v : Value} {xs : List Value} (h : Far S w w') (ho : w.ownsRow base e size v n xs) (hv : ∀ k, v.ownBlock = some k → some k ∉ S) : w'.ownsRow base e size v n xs := by
  have hlt := World.ownsRow.lt ho
  refine ⟨ho.1, ?_⟩
  rcases ho.2 with hn | ⟨g, cap, cur, rfl, hb, hgg, rest⟩
  · exact .inl hn
  · exact .inr ⟨g, cap, cur, rfl, hb, (h.block g (hlt g rfl).2 (hv g rfl)).trans hgg, rest⟩
theorem Far.range {o : Nat} {cs : List Value} (h : Far S w w') (hr : w.rangeAt g o cs) (hlt : g < w.heap.size) (hg : some g ∉ S) : w'.rangeAt g o cs := fun j u hu => by
  rw [World.cell?_of_block (w := w) (h.block g hlt hg)]
  exact hr j u hu
theorem Far.below (h : Far S w w') (hB : B ≤ w.heap.size) (hS : ∀ k, some k ∈ S → B ≤ k) : Below B w w' :=
  ⟨h.os, h.tape, h.output, h.size, fun k hk => h.block k (Nat.lt_of_lt_of_le hk hB) fun e => by have := hS k e; omega⟩
theorem Far.drew (h : Far S w w') : Far S w w'.drew := ⟨h.os, h.tape, h.output, h.size, h.block⟩
theorem Far.drewN (h : Far S w w') (n : Nat) : Far S w (w'.drewN n) := ⟨h.os, h.tape, h.output, h.size, h.block⟩
theorem Far.alloc (h : Far S w w') (o : Obj) : Far S w (w'.alloc o) := h.more ((Below.refl _ _).alloc (Nat.le_refl _) o)
theorem Far.set_ (h : Far S w w') {p : Addr} (hp : some p.block ∈ S ∨ w.heap.size ≤ p.block) (v : Value) : Far S w (w'.setCell p v) :=
  ⟨h.os, h.tape, h.output, by rw [World.size_setCell]; exact h.size, fun k hk hn => by
    refine (Below.heap_setCell w' p v k fun e => ?_).trans (h.block k hk hn)
    rcases hp with hp | hp
    · exact hn (e ▸ hp)
    · omega⟩
theorem Far.cells (hg : some g ∈ S ∨ w.heap.size ≤ g) : ∀ (vs : List Value) (o : Nat) (w' : World), Far S w w' → Far S w (w'.setCells g o vs)
  | [], _, _, h => h
  | v :: r, o, w', h => Far.cells hg r (o + 1) _ (h.set_ (p := ⟨g, o, none⟩) hg v)
theorem Newer.refl (w : World) (v : Value) : Newer w v v := .inl rfl
theorem Newer.then_ {v v1 v2 : Value} (h : Newer w v v1) (h2 : Newer w1 v1 v2) (hs : w.heap.size ≤ w1.heap.size) : Newer w v v2 := by
  rcases h2 with h2 | h2
  · rcases h with h | h
    · exact .inl (h2.trans h)
    · exact .inr fun k hk => h k (h2 ▸ hk)
  · exact .inr fun k hk => Nat.le_trans hs (h2 k hk)
/-- A block that was there is no block of v', if it was none of v. -/
theorem Newer.ne {v v' : Value} (h : Newer w v v') (hg : g < w.heap.size) (hne : v.ownBlock ≠ some g) : v'.ownBlock ≠ some g := by
  rcases h with h | h
  · rwa [h]
  · intro e
    have := h g e
    omega
end
/-- append of a block's cells, and where the new slice lies. -/
theorem lit_append_at {P : Program} {ops : Array Oper} {rest : List Oper} {a : Act} {w : World} {Q : Exit → Act → World → Prop} {d : Option Tmp} {rt : TypeId} {pos : String} {af : Array Edge}
    (s x : Operand) (c : Nat) (t : TypeId) {e : TypeId} {z : Value} {size bytes : Nat} (hT : SliceTy P t e z size bytes) {base n : Nat} {v : Value} {xs : List Value} (hown : w.ownsRow base e size v n xs)
    {k m : Nat} {t' : TypeId} {cs : Array Value} (hcs : Blk w k t' cs) (hl : cs.size = m * size) (h1 : ∀ u ∈ cs.toList, u.oneCell' = true)
    (h63 : n + m ≤ 9223372036854775807) (hbytes : (n + m) * bytes ≤ 140737488355328) (hbase : base ≤ w.heap.size) (hs : a.eval s = v) (hx : a.eval x = .slice (some ⟨k, 0, none⟩) m c)
    (h : ∀ v' w', w'.ownsRow base e size v' (n + m) (xs ++ cs.toList) → w.grownBy w' v.ownBlock → Newer w v v' → wpList P ops Q rest (a.put d v') w') :
    wpList P ops Q ({ dst := d, op := .call { callee := .builtin .append, args := #[s, x], argTypes := #[t, t] }, type := rt, pos := pos, after := af, guard := none } :: rest) a w := by
  obtain ⟨i, i1, i2, i3, i4⟩ := hT.hi
  refine wpList_append_own_at w rfl s x t rfl base e i z size bytes hT.ht i1 i2 i3 i4 hT.hzs hT.hsz v n xs hs hown ⟨k, 0, none⟩ m c cs.toList hx (by simpa using hl) (news_of_blk hcs) h1 (by simp only [maxLen]; omega) hbytes hbase ?_
  intro v' w' hown' hg _ hat
  refine h v' w' hown' hg ?_
  rcases hat with hat | hat
  · exact .inl hat
  · refine .inr fun k hk => ?_
    rw [hat] at hk
    injection hk with hk
    omega
theorem grown_of_below {w w' : World} (h : Below w.heap.size w w') (row : Option Nat) : w.grownBy w' row := ⟨h.os, h.tape, h.output, h.size, fun k hk _ => h.block k hk⟩
/-- A variable just laid is given a whole value. -/
theorem lit_new {P : Program} {ops : Array Oper} {rest : List Oper} {a : Act} {w : World} {Q : Exit → Act → World → Prop} {d : Option Tmp} {rt : TypeId} {pos : String} {af : Array Edge}
    (ty : TypeId) (x y : Operand) (cs : Array Value) (k : Nat) (hk : (P.info? ty).map (·.size) = some k) (hcs : cs.size = k) (h1 : cs.all (·.oneCell') = true) (zs : Array Value) (hz : zs.size = k) (hx : a.eval x = .pointer (some ⟨w.heap.size, 0, none⟩)) (hy : a.eval y = .agg cs)
    (h : ∀ W1, Blk W1 w.heap.size ty cs → Below w.heap.size w W1 → wpList P ops Q rest (a.put d undef) W1) :
    wpList P ops Q ({ dst := d, op := .store ty x y, type := rt, pos := pos, after := af, guard := none } :: rest) a (w.alloc (.cells zs ty)) :=
  wpList_store_new rfl ty x y rfl cs zs hx hy (by rw [hcs]; exact hk) (hz.trans hcs.symm) h1 h
/-- A whole value in mid-block is loaded. -/
theorem lit_load {P : Program} {ops : Array Oper} {rest : List Oper} {a : Act} {w : World} {Q : Exit → Act → World → Prop} {d : Option Tmp} {rt : TypeId} {pos : String} {af : Array Edge}
    (ty : TypeId) (x : Operand) (b o : Nat) (cs : List Value) (td : TypeDesc) (hc : w.rangeAt b o cs) (hu : P.underlying ty = some td) (hag : td.isRow = true) (hk : (P.info? ty).map (·.size) = some cs.length) (hx : a.eval x = .pointer (some ⟨b, o, none⟩))
    (h : wpList P ops Q rest (a.put d (.agg cs.toArray)) w) : wpList P ops Q ({ dst := d, op := .load ty x, type := rt, pos := pos, after := af, guard := none } :: rest) a w :=
  wpList_load_mid rfl ty x rfl b o hx cs td hc hu hag hk h
theorem wpList_append_slice {P : Program} {w : World} {ops : Array Oper} {rest : List Oper} {o : Oper} {a : Act} {Q : Exit → Act → World → Prop} (hgd : o.guard = none) (s x : Operand) (t : TypeId)
    (ho : o.op = .call { callee := .builtin .append, args := #[s, x], argTypes := #[t, t] })
    (e : TypeId) (z : Value) (size bytes : Nat) (hT : SliceTy P t e z size bytes) (base : Nat) (v : Value) (n : Nat) (xs : List Value) (hs : a.eval s = v) (hown : w.ownsRow base e size v n xs)
    (ad : Addr) (m c : Nat) (news : List Value) (hx : a.eval x = .slice (some ad) m c) (hl : news.length = m * size) (hnews : ∀ j u, news[j]? = some u → w.cell? (ad.add j) = some u) (h1 : ∀ u ∈ news, u.oneCell' = true)
    (h63 : n + m ≤ 9223372036854775807) (hbytes : (n + m) * bytes ≤ 140737488355328) (w0 : World) (hb : Below base w0 w) (hbase : base ≤ w.heap.size)
    (h : ∀ v' w', w'.ownsRow base e size v' (n + m) (xs ++ news) → Below base w0 w' → wpList P ops Q rest (a.put o.dst v') w') : wpList P ops Q (o :: rest) a w :=
  wpList_plain hgd fun _ hK => by
    obtain ⟨i, i1, i2, i3, i4⟩ := hT.hi
    refine wp_append_own w s x t ho base e i z size bytes hT.ht i1 i2 i3 i4 hT.hzs hT.hsz v n xs hs hown ad m c news hx hl hnews h1 h63 hbytes hbase ?_
    intro v' w' hown' hg _
    exact hK _ _ (h v' w' hown' (hb.grown hg hbase (fun k hk => (World.ownsRow.lt hown k hk).1)))
end Go.Proofs.YtlanconcbpdneaaDoor
/- Layer 4 (object): the words. No condition. -/
namespace Go.Proofs.YtlanconcbpdneaaDoor
open Go.RowKit
def idC (l : Txt) : List Value := (u8s l).toList
def entC (e : EntL) : List Value := .string (B e.name) :: .int .i64 e.kind :: (u8s e.id).toList
def objC (o : ObjL) (ve vp : Value) : List Value := .int .i64 o.kind :: .string (B o.data) :: ve :: ((u8s o.tree).toList ++ (vp :: .int .u32 o.time :: .string (B o.text) :: ((u8s o.target).toList ++ [.int .i64 o.of_, .string (B o.name)])))
def linkC (l : LinkL) : List Value := (u8s l.id).toList ++ [.int .i64 l.kind]
structure EntOk (e : EntL) : Prop where
  id : e.id.length = 32
  name : e.name.length ≤ 9223372036854775807
  k1 : -9223372036854775808 ≤ e.kind
  k2 : e.kind ≤ 9223372036854775807
structure ObjOk (o : ObjL) : Prop where
  tree : o.tree.length = 32
  target : o.target.length = 32
  ents : ∀ e ∈ o.ents, EntOk e
  pars : ∀ p ∈ o.pars, p.length = 32
  data : o.data.length ≤ 9223372036854775807
  text : o.text.length ≤ 9223372036854775807
  name : o.name.length ≤ 9223372036854775807
  time : o.time < 4294967296
  k1 : -9223372036854775808 ≤ o.kind
  k2 : o.kind ≤ 9223372036854775807
  f1 : -9223372036854775808 ≤ o.of_
  f2 : o.of_ ≤ 9223372036854775807
theorem u8s_len (l : Txt) : (u8s l).toList.length = l.length := by simp [u8s]
theorem idC_len {l : Txt} (h : l.length = 32) : (idC l).length = 32 := by unfold idC; rw [u8s_len, h]
theorem entC_len {e : EntL} (h : EntOk e) : (entC e).length = 34 := by unfold entC; simp only [List.length_cons, u8s_len, h.id]
theorem objC_len {o : ObjL} (h : ObjOk o) (ve vp : Value) : (objC o ve vp).length = 72 := by
  unfold objC
  simp only [List.length_cons, List.length_append, u8s_len, h.tree, h.target, List.length_nil]
theorem linkC_len {l : LinkL} (h : l.id.length = 32) : (linkC l).length = 33 := by unfold linkC; simp [u8s_size, h]
/-- A slice value reads as these entries. -/
abbrev Ents (w : World) (v : Value) (l : List EntL) : Prop := SliceAt w 34 entC v l
abbrev Ids (w : World) (v : Value) (l : List Txt) : Prop := SliceAt w 32 idC v l
/-- A value reads as this object. -/
structure ObjV (w : World) (ve vp : Value) (o : ObjL) : Prop where
  ok : ObjOk o
  ents : Ents w ve o.ents
  pars : Ids w vp o.pars
theorem ObjV.below {w w' : World} {ve vp : Value} {o : ObjL} (h : ObjV w ve vp o) (hb : Below w.heap.size w w') : ObjV w' ve vp o := ⟨h.ok, h.ents.below hb, h.pars.below hb⟩
/-- One block holds an object's cells. -/
structure ObjB (w : World) (g : Nat) (o : ObjL) (ve vp : Value) : Prop where
  blk : Blk w g 29 (objC o ve vp).toArray
  tr : o.tree.length = 32
  ta : o.target.length = 32
section
variable {w : World} {g : Nat} {o : ObjL} {ve vp : Value}
theorem ObjB.drew (h : ObjB w g o ve vp) : ObjB w.drew g o ve vp := ⟨h.blk.drew, h.tr, h.ta⟩
theorem ObjB.below {w' : World} (h : ObjB w g o ve vp) (hb : Below w.heap.size w w') : ObjB w' g o ve vp := ⟨(hb.block g h.blk.lt).trans h.blk, h.tr, h.ta⟩
theorem ObjB.at_ (h : ObjB w g o ve vp) {i : Nat} {u : Value} (hu : (objC o ve vp)[i]? = some u) : w.cell? ⟨g, i, none⟩ = some u := by
  rw [h.blk.cell]
  simpa using hu
theorem app_right {α : Type} {a b : List α} {n i : Nat} (ha : a.length = n) (hi : n ≤ i) : (a ++ b)[i]? = b[i - n]? := by rw [List.getElem?_append_right (by omega), ha]
theorem obj_pars (h : o.tree.length = 32) : (objC o ve vp)[35]? = some vp := by
  show ((u8s o.tree).toList ++ _)[32]? = _
  rw [app_right (by rw [u8s_len, h]) (Nat.le_refl _)]; rfl
theorem obj_time (h : o.tree.length = 32) : (objC o ve vp)[36]? = some (.int .u32 o.time) := by
  show ((u8s o.tree).toList ++ _)[33]? = _
  rw [app_right (by rw [u8s_len, h]) (by omega)]; rfl
theorem obj_text (h : o.tree.length = 32) : (objC o ve vp)[37]? = some (.string (B o.text)) := by
  show ((u8s o.tree).toList ++ _)[34]? = _
  rw [app_right (by rw [u8s_len, h]) (by omega)]; rfl
theorem obj_of (h : o.tree.length = 32) (ht : o.target.length = 32) : (objC o ve vp)[70]? = some (.int .i64 o.of_) := by
  show ((u8s o.tree).toList ++ _)[67]? = _
  rw [app_right (by rw [u8s_len, h]) (by omega)]
  show ((u8s o.target).toList ++ _)[32]? = _
  rw [app_right (by rw [u8s_len, ht]) (by omega)]; rfl
theorem obj_name (h : o.tree.length = 32) (ht : o.target.length = 32) : (objC o ve vp)[71]? = some (.string (B o.name)) := by
  show ((u8s o.tree).toList ++ _)[68]? = _
  rw [app_right (by rw [u8s_len, h]) (by omega)]
  show ((u8s o.target).toList ++ _)[33]? = _
  rw [app_right (by rw [u8s_len, ht]) (by omega)]; rfl
theorem ObjB.kind (h : ObjB w g o ve vp) : w.cell? ⟨g, 0, none⟩ = some (.int .i64 o.kind) := h.at_ rfl
theorem ObjB.data (h : ObjB w g o ve vp) : w.cell? ⟨g, 1, none⟩ = some (.string (B o.data)) := h.at_ rfl
theorem ObjB.ents (h : ObjB w g o ve vp) : w.cell? ⟨g, 2, none⟩ = some ve := h.at_ rfl
theorem ObjB.pars (h : ObjB w g o ve vp) : w.cell? ⟨g, 35, none⟩ = some vp := h.at_ (obj_pars h.tr)
theorem ObjB.time (h : ObjB w g o ve vp) : w.cell? ⟨g, 36, none⟩ = some (.int .u32 o.time) := h.at_ (obj_time h.tr)
theorem ObjB.text (h : ObjB w g o ve vp) : w.cell? ⟨g, 37, none⟩ = some (.string (B o.text)) := h.at_ (obj_text h.tr)
theorem ObjB.of_ (h : ObjB w g o ve vp) : w.cell? ⟨g, 70, none⟩ = some (.int .i64 o.of_) := h.at_ (obj_of h.tr h.ta)
theorem ObjB.name (h : ObjB w g o ve vp) : w.cell? ⟨g, 71, none⟩ = some (.string (B o.name)) := h.at_ (obj_name h.tr h.ta)
theorem ObjB.whole (h : ObjB w g o ve vp) : w.rangeAt g 0 (objC o ve vp) := by
  have := range_blk h.blk
  simpa using this
theorem rangeAt_part {g o : Nat} {a b c : List Value} {n m : Nat} (h : w.rangeAt g o (a ++ (b ++ c))) (ha : a.length = n) (hm : o + n = m) : w.rangeAt g m b := fun j u hu => by
  have hj : j < b.length := (List.getElem?_eq_some_iff.1 hu).1
  have := h (n + j) u (by
    rw [List.getElem?_append_right (by omega), ha, Nat.add_sub_cancel_left, List.getElem?_append_left hj]
    exact hu)
  rwa [← Nat.add_assoc, hm] at this
theorem ObjB.tree (h : ObjB w g o ve vp) : w.rangeAt g 3 (u8s o.tree).toList := rangeAt_part (a := [.int .i64 o.kind, .string (B o.data), ve]) h.whole rfl rfl
theorem ObjB.target (h : ObjB w g o ve vp) : w.rangeAt g 38 (u8s o.target).toList := by
  have := h.whole
  have e : objC o ve vp = (.int .i64 o.kind :: .string (B o.data) :: ve :: ((u8s o.tree).toList ++ [vp, .int .u32 o.time, .string (B o.text)])) ++ ((u8s o.target).toList ++ [.int .i64 o.of_, .string (B o.name)]) := by
    unfold objC
    simp
  rw [e] at this
  exact rangeAt_part this (n := 38) (by simp [u8s_size, h.tr]) (by omega)
end
def ldvO (p : Addr) : Sem Value := loadVar 29 p
theorem ldvO_eq (p : Addr) : loadVar 29 p = ldvO p := rfl
def ldvE (p : Addr) : Sem Value := loadVar 53 p
theorem ldvE_eq (p : Addr) : loadVar 53 p = ldvE p := rfl
theorem szObj : (Tryd.prog.info? 29).map (·.size) = some 72 := by kernel_rfl
theorem szEnt : (Tryd.prog.info? 53).map (·.size) = some 34 := by kernel_rfl
theorem run_ldvI_at {w : World} {g o : Nat} {l : Txt} (h : w.rangeAt g o (u8s l).toList) (hl : l.length = 32) : (ldvI ⟨g, o, none⟩).run Tryd.prog w = .ok (.agg (u8s l)) w := by
  have := run_loadVar_mid (P := Tryd.prog) w g o 25 (u8s l).toList _ h Tryd.underlying25 rfl (by rw [u8s_len, hl]; exact sz32)
  rwa [Array.toArray_toList] at this
theorem run_ldvE {w : World} {g o : Nat} {x : EntL} (h : w.rangeAt g o (entC x)) (hx : EntOk x) : (ldvE ⟨g, o, none⟩).run Tryd.prog w = .ok (.agg (entC x).toArray) w :=
  run_loadVar_mid (P := Tryd.prog) w g o 53 (entC x) _ h Tryd.underlying53 rfl (by rw [entC_len hx]; exact szEnt)
theorem run_ldvO {w : World} {g : Nat} {o : ObjL} {ve vp : Value} (h : ObjB w g o ve vp) (ho : ObjOk o) : (ldvO ⟨g, 0, none⟩).run Tryd.prog w = .ok (.agg (objC o ve vp).toArray) w :=
  run_loadVar_mid (P := Tryd.prog) w g 0 29 (objC o ve vp) _ h.whole Tryd.underlying29 rfl (by rw [objC_len ho]; exact szObj)
theorem agg_eq {a b : Array Value} (h : a = b) : Value.agg a = Value.agg b := by rw [h]
end Go.Proofs.YtlanconcbpdneaaDoor
/-
  DERIVED: THE SHELF's CONTRACTS AT THIS DUMP, IN PLAIN WORDS (tools/lay-plain.mjs out of 'TrydShelf.lean', which tools/lay-shelf.mjs wrote): THE SAME DECLARATIONS UNDER THE SAME NAMES: 'import', 'namespace', 'open', 'def', 'theorem' AND NOTHING ELSE: no command of the shelf's: FOR A HAND-IN. Each laying: the table of numbers ('.._ren') and one theorem, a field a fact of the dump's own or the kernel's comparison; each contract: ONE APPLICATION.
-/
namespace Go.Proofs
open Go.Shelf
def Tryd.lays170_ren : Go.Shelf.Ren := ⟨fun | 170 => 59 | n => n, fun | 70 => 84 | 3 => 3 | 0 => 0 | 72 => 86 | 37 => 56 | 5 => 5 | n => n, fun | n => n⟩
theorem Tryd.lays170 : Go.Proofs.Lays.n170 Tryd.prog Tryd.lays170_ren := {
  mixed := by kernel_rfl
  f170 := Tryd.func59.trans (congrArg some (by kernel_rfl))
  t0 := Tryd.underlying0
  a0 := Tryd.isAgg0
  z0 := Tryd.sizeOf0
  v0 := Tryd.zeroValue0
  t3 := Tryd.underlying3
  a3 := Tryd.isAgg3
  z3 := Tryd.sizeOf3
  v3 := Tryd.zeroValue3
  t37 := Tryd.underlying56
  a37 := Tryd.isAgg56
  z37 := Tryd.sizeOf56
  v37 := Tryd.zeroValue56
  t70 := Tryd.underlying84
  a70 := Tryd.isAgg84
  z70 := Tryd.sizeOf84
  v70 := Tryd.zeroValue84
  t72 := Tryd.underlying86
  a72 := Tryd.isAgg86
  z72 := Tryd.sizeOf86
  v72 := Tryd.zeroValue86 }
open Go.RowKit in
/-- (*strings.Builder).Len: "Len returns the number of accumulated bytes; b.Len() == len(b.String()).": the world is as it was. (LAID: no walk: one application.) -/
theorem Tryd.Builder_Len (B b : Nat) (bs : List Value) (w : World) (h : Lib.IsBuilder 86 5 B b bs w) :
    Calls Tryd.prog 59 #[.pointer (some ⟨b, 0, none⟩)] w fun e w' => e = .returned (.int .i64 bs.length) ∧ w' = w := Any.Builder_Len Tryd.lays170 B b bs w h
def Tryd.lays169_ren : Go.Shelf.Ren := ⟨fun | 169 => 51 | n => n, fun | 70 => 84 | 9 => 9 | 0 => 0 | 72 => 86 | 37 => 56 | 127 => 101 | 3 => 3 | 5 => 5 | n => n, fun | n => n⟩
theorem Tryd.lays169 : Go.Proofs.Lays.n169 Tryd.prog Tryd.lays169_ren := {
  mixed := by kernel_rfl
  f169 := Tryd.func51.trans (congrArg some (by kernel_rfl))
  t0 := Tryd.underlying0
  a0 := Tryd.isAgg0
  z0 := Tryd.sizeOf0
  v0 := Tryd.zeroValue0
  t3 := Tryd.underlying3
  a3 := Tryd.isAgg3
  z3 := Tryd.sizeOf3
  v3 := Tryd.zeroValue3
  t9 := Tryd.underlying9
  a9 := Tryd.isAgg9
  z9 := Tryd.sizeOf9
  v9 := Tryd.zeroValue9
  t37 := Tryd.underlying56
  a37 := Tryd.isAgg56
  z37 := Tryd.sizeOf56
  v37 := Tryd.zeroValue56
  t70 := Tryd.underlying84
  a70 := Tryd.isAgg84
  z70 := Tryd.sizeOf84
  v70 := Tryd.zeroValue84
  t72 := Tryd.underlying86
  a72 := Tryd.isAgg86
  z72 := Tryd.sizeOf86
  v72 := Tryd.zeroValue86
  t127 := Tryd.underlying101
  a127 := Tryd.isAgg101
  z127 := Tryd.sizeOf101
  v127 := Tryd.zeroValue101 }
theorem Tryd.Builder_Extra_169 : Builder.Extra Tryd.prog Tryd.lays169_ren := {
  sizeBuilder := by kernel_rfl
  liesBuilder := by kernel_rfl
  t5 := Tryd.underlying5
  a5 := Tryd.isAgg5
  z5 := Tryd.sizeOf5
  v5 := Tryd.zeroValue5
  infoByte := by kernel_rfl
  cellsByte := by kernel_rfl
  sizeByte := by kernel_rfl
  neB5 := by decide }
open Go.RowKit in
/-- (*strings.Builder).String: "String returns the accumulated string.": OF A BUILDER THAT HOLDS AT LEAST ONE BYTE. ✋ THE MODEL FREEZES THOSE BYTES IN THE BUFFER (unsafe.String): a later write INTO them ends the model's run without an answer; a later append BEHIND them goes on. The statement's order of evaluation is drawn: one draw. (LAID: no walk: one application.) -/
theorem Tryd.Builder_String (B b : Nat) (l : List UInt8) (w : World) (h : Lib.IsBuilder 86 5 B b (Lib.byteCells l) w) (h0 : l ≠ []) :
    Calls Tryd.prog 51 #[.pointer (some ⟨b, 0, none⟩)] w fun e w' => e = .returned (.string ⟨l.toArray⟩) ∧ Below B w w' := Any.Builder_String Tryd.lays169 Tryd.Builder_Extra_169 B b l w h h0
open Go.RowKit in
/-- (*strings.Builder).String OF A BUILDER THAT HOLDS NO BYTE: the empty string. (Its buffer is nil, or a row of which it has taken nothing yet; where that row has NO capacity the model lays one new block for unsafe.SliceData's 'some address'.) One draw. (LAID: no walk: one application.) -/
theorem Tryd.Builder_String_empty (B b : Nat) (w : World) (h : Lib.IsBuilder 86 5 B b [] w) (hBw : B ≤ w.heap.size) :
    Calls Tryd.prog 51 #[.pointer (some ⟨b, 0, none⟩)] w fun e w' => e = .returned (.string ⟨#[]⟩) ∧ Below B w w' := Any.Builder_String_empty Tryd.lays169 Tryd.Builder_Extra_169 B b w h hBw
open Go.RowKit in
/-- (*strings.Builder).String: "String returns the accumulated string.": WHATEVER THE BUILDER HOLDS. (LAID: no walk: one application.) -/
theorem Tryd.Builder_String_any (B b : Nat) (l : List UInt8) (w : World) (h : Lib.IsBuilder 86 5 B b (Lib.byteCells l) w) (hBw : B ≤ w.heap.size) :
    Calls Tryd.prog 51 #[.pointer (some ⟨b, 0, none⟩)] w fun e w' => e = .returned (.string ⟨l.toArray⟩) ∧ Below B w w' := Any.Builder_String_any Tryd.lays169 Tryd.Builder_Extra_169 B b l w h hBw
def Tryd.lays241_ren : Go.Shelf.Ren := ⟨fun | 241 => 64 | 277 => 69 | n => n, fun | 70 => 84 | 3 => 3 | 0 => 0 | 72 => 86 | 37 => 56 | 5 => 5 | n => n, fun | n => n⟩
theorem Tryd.lays241 : Go.Proofs.Lays.n241 Tryd.prog Tryd.lays241_ren := {
  mixed := by kernel_rfl
  f241 := Tryd.func64.trans (congrArg some (by kernel_rfl))
  f277 := Tryd.func69.trans (congrArg some (by kernel_rfl))
  t0 := Tryd.underlying0
  a0 := Tryd.isAgg0
  z0 := Tryd.sizeOf0
  v0 := Tryd.zeroValue0
  t3 := Tryd.underlying3
  a3 := Tryd.isAgg3
  z3 := Tryd.sizeOf3
  v3 := Tryd.zeroValue3
  t37 := Tryd.underlying56
  a37 := Tryd.isAgg56
  z37 := Tryd.sizeOf56
  v37 := Tryd.zeroValue56
  t70 := Tryd.underlying84
  a70 := Tryd.isAgg84
  z70 := Tryd.sizeOf84
  v70 := Tryd.zeroValue84
  t72 := Tryd.underlying86
  a72 := Tryd.isAgg86
  z72 := Tryd.sizeOf86
  v72 := Tryd.zeroValue86 }
theorem Tryd.Builder_Extra_241 : Builder.Extra Tryd.prog Tryd.lays241_ren := {
  sizeBuilder := by kernel_rfl
  liesBuilder := by kernel_rfl
  t5 := Tryd.underlying5
  a5 := Tryd.isAgg5
  z5 := Tryd.sizeOf5
  v5 := Tryd.zeroValue5
  infoByte := by kernel_rfl
  cellsByte := by kernel_rfl
  sizeByte := by kernel_rfl
  neB5 := by decide }
open Go.RowKit in
/-- (*strings.Builder).grow (no doc but "grow copies the buffer to a new, larger buffer so that there are at least n bytes of capacity beyond len(b.buf)."): AT A BUILDER WITHOUT A BUFFER: a new row of whatever bytes for its buffer, none of them its own yet. Three draws. (LAID: no walk: one application.) -/
theorem Tryd.Builder_grow_fresh (B b n : Nat) (w : World) (hB : B ≤ b) (hbk : w.heap[b]? = some (.cells #[.pointer (some ⟨b, 0, none⟩), .slice none 0 0] 86 (0, 0))) (hBw : B ≤ w.heap.size) (hn : n ≤ 281474976710656) :
    Calls Tryd.prog 64 #[.pointer (some ⟨b, 0, none⟩), .int .i64 n] w fun e w' => e = .returned (.tuple #[]) ∧ (Lib.BuilderAt 86 5 B b (.pointer (some ⟨b, 0, none⟩)) [] w' ∧ Below B w w') := Any.Builder_grow_fresh Tryd.lays241 Tryd.Builder_Extra_241 B b n w hB hbk hBw hn
def Tryd.lays165_ren : Go.Shelf.Ren := ⟨fun | 165 => 56 | 240 => 62 | 241 => 64 | 276 => 68 | 277 => 69 | n => n, fun | 70 => 84 | 3 => 3 | 0 => 0 | 4 => 4 | 9 => 9 | 20 => 20 | 72 => 86 | 37 => 56 | 164 => 106 | 5 => 5 | n => n, fun | n => n⟩
theorem Tryd.lays165 : Go.Proofs.Lays.n165 Tryd.prog Tryd.lays165_ren := {
  mixed := by kernel_rfl
  f165 := Tryd.func56.trans (congrArg some (by kernel_rfl))
  f240 := Tryd.func62.trans (congrArg some (by kernel_rfl))
  f241 := Tryd.func64.trans (congrArg some (by kernel_rfl))
  f276 := Tryd.func68.trans (congrArg some (by kernel_rfl))
  f277 := Tryd.func69.trans (congrArg some (by kernel_rfl))
  t0 := Tryd.underlying0
  a0 := Tryd.isAgg0
  z0 := Tryd.sizeOf0
  v0 := Tryd.zeroValue0
  t3 := Tryd.underlying3
  a3 := Tryd.isAgg3
  z3 := Tryd.sizeOf3
  v3 := Tryd.zeroValue3
  t4 := Tryd.underlying4
  a4 := Tryd.isAgg4
  z4 := Tryd.sizeOf4
  v4 := Tryd.zeroValue4
  t9 := Tryd.underlying9
  a9 := Tryd.isAgg9
  z9 := Tryd.sizeOf9
  v9 := Tryd.zeroValue9
  t20 := Tryd.underlying20
  a20 := Tryd.isAgg20
  z20 := Tryd.sizeOf20
  v20 := Tryd.zeroValue20
  t37 := Tryd.underlying56
  a37 := Tryd.isAgg56
  z37 := Tryd.sizeOf56
  v37 := Tryd.zeroValue56
  t70 := Tryd.underlying84
  a70 := Tryd.isAgg84
  z70 := Tryd.sizeOf84
  v70 := Tryd.zeroValue84
  t72 := Tryd.underlying86
  a72 := Tryd.isAgg86
  z72 := Tryd.sizeOf86
  v72 := Tryd.zeroValue86
  t164 := Tryd.underlying106
  a164 := Tryd.isAgg106
  z164 := Tryd.sizeOf106
  v164 := Tryd.zeroValue106 }
theorem Tryd.Builder_Extra_165 : Builder.Extra Tryd.prog Tryd.lays165_ren := {
  sizeBuilder := by kernel_rfl
  liesBuilder := by kernel_rfl
  t5 := Tryd.underlying5
  a5 := Tryd.isAgg5
  z5 := Tryd.sizeOf5
  v5 := Tryd.zeroValue5
  infoByte := by kernel_rfl
  cellsByte := by kernel_rfl
  sizeByte := by kernel_rfl
  neB5 := by decide }
open Go.RowKit in
/-- (*strings.Builder).Grow AT A BUILDER THAT HAS NOT BEEN WRITTEN ('var b strings.Builder; b.Grow(n)'): "Grow grows b's capacity, if necessary, to guarantee space for another n bytes.": it holds no byte behind it as before it. (LAID: no walk: one application.) -/
theorem Tryd.Builder_Grow_fresh (B b n : Nat) (w : World) (hB : B ≤ b) (hbk : w.heap[b]? = some (.cells #[.pointer none, .slice none 0 0] 86 (0, 0))) (hBw : B ≤ w.heap.size) (hn : n ≤ 281474976710656) :
    Calls Tryd.prog 56 #[.pointer (some ⟨b, 0, none⟩), .int .i64 n] w fun e w' => e = .returned (.tuple #[]) ∧ (Lib.BuilderAt 86 5 B b (.pointer (some ⟨b, 0, none⟩)) [] w' ∧ Below B w w') := Any.Builder_Grow_fresh Tryd.lays165 Tryd.Builder_Extra_165 B b n w hB hbk hBw hn
def Tryd.lays156_ren : Go.Shelf.Ren := ⟨fun | 156 => 43 | 165 => 56 | 166 => 49 | 169 => 51 | 240 => 62 | 241 => 64 | 276 => 68 | 277 => 69 | n => n, fun | 31 => 79 | 9 => 9 | 3 => 3 | 4 => 4 | 0 => 0 | 20 => 20 | 72 => 86 | 76 => 90 | 70 => 84 | 37 => 56 | 75 => 88 | 127 => 101 | 164 => 106 | 5 => 5 | 80 => 69 | n => n, fun | n => n⟩
theorem Tryd.lays156 : Go.Proofs.Lays.n156 Tryd.prog Tryd.lays156_ren := {
  mixed := by kernel_rfl
  f156 := Tryd.func43.trans (congrArg some (by kernel_rfl))
  f165 := Tryd.func56.trans (congrArg some (by kernel_rfl))
  f166 := Tryd.func49.trans (congrArg some (by kernel_rfl))
  f169 := Tryd.func51.trans (congrArg some (by kernel_rfl))
  f240 := Tryd.func62.trans (congrArg some (by kernel_rfl))
  f241 := Tryd.func64.trans (congrArg some (by kernel_rfl))
  f276 := Tryd.func68.trans (congrArg some (by kernel_rfl))
  f277 := Tryd.func69.trans (congrArg some (by kernel_rfl))
  t0 := Tryd.underlying0
  a0 := Tryd.isAgg0
  z0 := Tryd.sizeOf0
  v0 := Tryd.zeroValue0
  t3 := Tryd.underlying3
  a3 := Tryd.isAgg3
  z3 := Tryd.sizeOf3
  v3 := Tryd.zeroValue3
  t4 := Tryd.underlying4
  a4 := Tryd.isAgg4
  z4 := Tryd.sizeOf4
  v4 := Tryd.zeroValue4
  t9 := Tryd.underlying9
  a9 := Tryd.isAgg9
  z9 := Tryd.sizeOf9
  v9 := Tryd.zeroValue9
  t20 := Tryd.underlying20
  a20 := Tryd.isAgg20
  z20 := Tryd.sizeOf20
  v20 := Tryd.zeroValue20
  t31 := Tryd.underlying79
  a31 := Tryd.isAgg79
  z31 := Tryd.sizeOf79
  v31 := Tryd.zeroValue79
  t37 := Tryd.underlying56
  a37 := Tryd.isAgg56
  z37 := Tryd.sizeOf56
  v37 := Tryd.zeroValue56
  t70 := Tryd.underlying84
  a70 := Tryd.isAgg84
  z70 := Tryd.sizeOf84
  v70 := Tryd.zeroValue84
  t72 := Tryd.underlying86
  a72 := Tryd.isAgg86
  z72 := Tryd.sizeOf86
  v72 := Tryd.zeroValue86
  t75 := Tryd.underlying88
  a75 := Tryd.isAgg88
  z75 := Tryd.sizeOf88
  v75 := Tryd.zeroValue88
  t76 := Tryd.underlying90
  a76 := Tryd.isAgg90
  z76 := Tryd.sizeOf90
  v76 := Tryd.zeroValue90
  t127 := Tryd.underlying101
  a127 := Tryd.isAgg101
  z127 := Tryd.sizeOf101
  v127 := Tryd.zeroValue101
  t164 := Tryd.underlying106
  a164 := Tryd.isAgg106
  z164 := Tryd.sizeOf106
  v164 := Tryd.zeroValue106 }
theorem Tryd.Builder_Extra_156 : Builder.Extra Tryd.prog Tryd.lays156_ren := {
  sizeBuilder := by kernel_rfl
  liesBuilder := by kernel_rfl
  t5 := Tryd.underlying5
  a5 := Tryd.isAgg5
  z5 := Tryd.sizeOf5
  v5 := Tryd.zeroValue5
  infoByte := by kernel_rfl
  cellsByte := by kernel_rfl
  sizeByte := by kernel_rfl
  neB5 := by decide }
open Go.RowKit in
/-- No element: the empty string; the world is as it was. (Whatever the slice's address and capacity: a nil slice too.) (LAID: no walk: one application.) -/
theorem Tryd.strings_Join_none (a : Option Addr) (c : Nat) (sep : ByteArray) (w : World) :
    Calls Tryd.prog 43 #[.slice a 0 c, .string sep] w fun e w' => e = .returned (.string ⟨#[]⟩) ∧ w' = w := Any.strings_Join_none Tryd.lays156 Tryd.Builder_Extra_156 a c sep w
open Go.RowKit in
/-- strings.Join: "Join concatenates the elements of its first argument to create a single string. The separator string sep is placed between elements in the resulting string.": HOWEVER MANY ELEMENTS. Below the heap's end the world is as it was. (LAID: no walk: one application.) -/
theorem Tryd.strings_Join (bk o c : Nat) (xs : List ByteArray) (sep : ByteArray) (w : World) (hcells : ∀ (j : Nat) x, xs[j]? = some x → w.cell? ⟨bk, o + j, none⟩ = some (.string x)) (hbk : bk < w.heap.size) (hN : xs.length ≤ 140737488355328) (hcap : xs.length ≤ c) (hlen : (Lib.join (xs.map (·.data.toList)) sep.data.toList).length ≤ 140737488355328) :
    Calls Tryd.prog 43 #[.slice (some ⟨bk, o, none⟩) xs.length c, .string sep] w fun e w' => e = .returned (.string ⟨(Lib.join (xs.map (·.data.toList)) sep.data.toList).toArray⟩) ∧ Below w.heap.size w w' := Any.strings_Join Tryd.lays156 Tryd.Builder_Extra_156 bk o c xs sep w hcells hbk hN hcap hlen
def Tryd.lays137_ren : Go.Shelf.Ren := ⟨fun | 137 => 25 | 217 => 52 | 266 => 63 | n => n, fun | 9 => 9 | 5 => 5 | 3 => 3 | n => n, fun | n => n⟩
theorem Tryd.lays137 : Go.Proofs.Lays.n137 Tryd.prog Tryd.lays137_ren := {
  mixed := by kernel_rfl
  f137 := Tryd.func25.trans (congrArg some (by kernel_rfl))
  f217 := Tryd.func52.trans (congrArg some (by kernel_rfl))
  f266 := Tryd.func63.trans (congrArg some (by kernel_rfl))
  t3 := Tryd.underlying3
  a3 := Tryd.isAgg3
  z3 := Tryd.sizeOf3
  v3 := Tryd.zeroValue3
  t5 := Tryd.underlying5
  a5 := Tryd.isAgg5
  z5 := Tryd.sizeOf5
  v5 := Tryd.zeroValue5
  t9 := Tryd.underlying9
  a9 := Tryd.isAgg9
  z9 := Tryd.sizeOf9
  v9 := Tryd.zeroValue9 }
open Go.RowKit in
/-- strings.IndexByte: "IndexByte returns the index of the first instance of c in s, or -1 if c is not present in s.": IT RETURNS 'Lib.indexByte s c'; the world is as it was. (LAID: no walk: one application.) -/
theorem Tryd.strings_IndexByte (s : ByteArray) (c : Int) (w : World) :
    Calls Tryd.prog 25 #[.string s, .int .u8 c] w fun e w' => e = .returned (.int .i64 (Lib.indexByte s.data.toList c.toNat.toUInt8)) ∧ w' = w := Any.strings_IndexByte Tryd.lays137 s c w
open Go.RowKit in
/-- (*strings.Builder).Len: "Len returns the number of accumulated bytes; b.Len() == len(b.String()).": the world is as it was. (THE FORM '_f': 'Lib.IsBuilderF'.) (LAID: no walk: one application.) -/
theorem Tryd.Builder_Len_f (B b : Nat) (bs : List Value) (w : World) (h : Lib.IsBuilderF 86 5 B b bs w) :
    Calls Tryd.prog 59 #[.pointer (some ⟨b, 0, none⟩)] w fun e w' => e = .returned (.int .i64 bs.length) ∧ w' = w := Any.Builder_Len_f Tryd.lays170 B b bs w h
open Go.RowKit in
/-- (*strings.Builder).String: "String returns the accumulated string.": OF A BUILDER THAT HOLDS AT LEAST ONE BYTE. ✋ THE MODEL FREEZES THOSE BYTES IN THE BUFFER (unsafe.String): a later write INTO them ends the model's run without an answer; a later append BEHIND them goes on. The statement's order of evaluation is drawn: one draw. THE FORM '_f': IT SAYS BESIDES THAT THE BUILDER IS A BUILDER STILL ('Lib.IsBuilderF', the same bytes): SO IT CAN BE WRITTEN ON: 'b.WriteString(b.String()[:k])'. (LAID: no walk: one application.) -/
theorem Tryd.Builder_String_f (B b : Nat) (l : List UInt8) (w : World) (h : Lib.IsBuilderF 86 5 B b (Lib.byteCells l) w) (h0 : l ≠ []) :
    Calls Tryd.prog 51 #[.pointer (some ⟨b, 0, none⟩)] w fun e w' => e = .returned (.string ⟨l.toArray⟩) ∧ (Lib.IsBuilderF 86 5 B b (Lib.byteCells l) w' ∧ Below B w w') := Any.Builder_String_f Tryd.lays169 Tryd.Builder_Extra_169 B b l w h h0
open Go.RowKit in
/-- (*strings.Builder).String OF A BUILDER THAT HOLDS NO BYTE: the empty string; THE FORM '_f': a builder still. (LAID: no walk: one application.) -/
theorem Tryd.Builder_String_empty_f (B b : Nat) (w : World) (h : Lib.IsBuilderF 86 5 B b [] w) (hBw : B ≤ w.heap.size) :
    Calls Tryd.prog 51 #[.pointer (some ⟨b, 0, none⟩)] w fun e w' => e = .returned (.string ⟨#[]⟩) ∧ (Lib.IsBuilderF 86 5 B b [] w' ∧ Below B w w') := Any.Builder_String_empty_f Tryd.lays169 Tryd.Builder_Extra_169 B b w h hBw
open Go.RowKit in
/-- (*strings.Builder).String: "String returns the accumulated string.": WHATEVER THE BUILDER HOLDS; THE FORM '_f': OF A BUILDER THAT MAY HAVE BEEN READ BEFORE; AND IT IS A BUILDER STILL, holding the same bytes: it can be written on. (LAID: no walk: one application.) -/
theorem Tryd.Builder_String_any_f (B b : Nat) (l : List UInt8) (w : World) (h : Lib.IsBuilderF 86 5 B b (Lib.byteCells l) w) (hBw : B ≤ w.heap.size) :
    Calls Tryd.prog 51 #[.pointer (some ⟨b, 0, none⟩)] w fun e w' => e = .returned (.string ⟨l.toArray⟩) ∧ (Lib.IsBuilderF 86 5 B b (Lib.byteCells l) w' ∧ Below B w w') := Any.Builder_String_any_f Tryd.lays169 Tryd.Builder_Extra_169 B b l w h hBw
open Go.RowKit in
/-- (*strings.Builder).String: "String returns the accumulated string.": OF A BUILDER THAT HOLDS AT LEAST ONE BYTE. ✋ THE MODEL FREEZES THOSE BYTES IN THE BUFFER (unsafe.String): a later write INTO them ends the model's run without an answer; a later append BEHIND them goes on. The statement's order of evaluation is drawn: one draw. THE FORM '_k': OVER 'Lib.IsBuilderF' (a builder that 'String()' may have read), AND WITH THE FRAME THAT REACHES ABOVE THE BUILDER: 'Lib.OthersKept': every block that is not b and is no row of uint8's stands as it stood: the iterator of a range among them. (LAID: no walk: one application.) -/
theorem Tryd.Builder_String_k (B b : Nat) (l : List UInt8) (w : World) (h : Lib.IsBuilderF 86 5 B b (Lib.byteCells l) w) (h0 : l ≠ []) :
    Calls Tryd.prog 51 #[.pointer (some ⟨b, 0, none⟩)] w fun e w' => e = .returned (.string ⟨l.toArray⟩) ∧ (Lib.IsBuilderF 86 5 B b (Lib.byteCells l) w' ∧ Below B w w' ∧ Lib.OthersKept 5 (some b) w w') := Any.Builder_String_k Tryd.lays169 Tryd.Builder_Extra_169 B b l w h h0
open Go.RowKit in
/-- (*strings.Builder).String OF A BUILDER THAT HOLDS NO BYTE: the empty string; THE FORM '_k': OVER 'Lib.IsBuilderF' (a builder that 'String()' may have read), AND WITH THE FRAME THAT REACHES ABOVE THE BUILDER: 'Lib.OthersKept': every block that is not b and is no row of uint8's stands as it stood: the iterator of a range among them. (LAID: no walk: one application.) -/
theorem Tryd.Builder_String_empty_k (B b : Nat) (w : World) (h : Lib.IsBuilderF 86 5 B b [] w) (hBw : B ≤ w.heap.size) :
    Calls Tryd.prog 51 #[.pointer (some ⟨b, 0, none⟩)] w fun e w' => e = .returned (.string ⟨#[]⟩) ∧ (Lib.IsBuilderF 86 5 B b [] w' ∧ Below B w w' ∧ Lib.OthersKept 5 (some b) w w') := Any.Builder_String_empty_k Tryd.lays169 Tryd.Builder_Extra_169 B b w h hBw
open Go.RowKit in
/-- (*strings.Builder).String: "String returns the accumulated string.": WHATEVER THE BUILDER HOLDS; THE FORM '_k': OVER 'Lib.IsBuilderF' (a builder that 'String()' may have read), AND WITH THE FRAME THAT REACHES ABOVE THE BUILDER: 'Lib.OthersKept': every block that is not b and is no row of uint8's stands as it stood: the iterator of a range among them. (LAID: no walk: one application.) -/
theorem Tryd.Builder_String_any_k (B b : Nat) (l : List UInt8) (w : World) (h : Lib.IsBuilderF 86 5 B b (Lib.byteCells l) w) (hBw : B ≤ w.heap.size) :
    Calls Tryd.prog 51 #[.pointer (some ⟨b, 0, none⟩)] w fun e w' => e = .returned (.string ⟨l.toArray⟩) ∧ (Lib.IsBuilderF 86 5 B b (Lib.byteCells l) w' ∧ Below B w w' ∧ Lib.OthersKept 5 (some b) w w') := Any.Builder_String_any_k Tryd.lays169 Tryd.Builder_Extra_169 B b l w h hBw
open Go.RowKit in
/-- (*strings.Builder).grow (no doc but "grow copies the buffer to a new, larger buffer so that there are at least n bytes of capacity beyond len(b.buf)."): AT A BUILDER WITHOUT A BUFFER: a new row of whatever bytes for its buffer, none of them its own yet. Three draws. (LAID: no walk: one application.) -/
theorem Tryd.Builder_grow_fresh_cap (B b n : Nat) (w : World) (hB : B ≤ b) (hbk : w.heap[b]? = some (.cells #[.pointer (some ⟨b, 0, none⟩), .slice none 0 0] 86 (0, 0))) (hBw : B ≤ w.heap.size) (hn : n ≤ 281474976710656) :
    Calls Tryd.prog 64 #[.pointer (some ⟨b, 0, none⟩), .int .i64 n] w fun e w' => e = .returned (.tuple #[]) ∧ (Lib.BuilderAt 86 5 B b (.pointer (some ⟨b, 0, none⟩)) [] w' ∧ Below B w w') ∧ ∃ p cap, w'.cell? ⟨b, 1, none⟩ = some (.slice p 0 cap) ∧ n ≤ cap := Any.Builder_grow_fresh_cap Tryd.lays241 Tryd.Builder_Extra_241 B b n w hB hbk hBw hn
open Go.RowKit in
/-- (*strings.Builder).Grow AT A BUILDER THAT HAS NOT BEEN WRITTEN ('var b strings.Builder; b.Grow(n)'): "Grow grows b's capacity, if necessary, to guarantee space for another n bytes.": it holds no byte behind it as before it. (LAID: no walk: one application.) -/
theorem Tryd.Builder_Grow_fresh_cap (B b n : Nat) (w : World) (hB : B ≤ b) (hbk : w.heap[b]? = some (.cells #[.pointer none, .slice none 0 0] 86 (0, 0))) (hBw : B ≤ w.heap.size) (hn : n ≤ 281474976710656) :
    Calls Tryd.prog 56 #[.pointer (some ⟨b, 0, none⟩), .int .i64 n] w fun e w' => e = .returned (.tuple #[]) ∧ (Lib.BuilderAt 86 5 B b (.pointer (some ⟨b, 0, none⟩)) [] w' ∧ Below B w w') ∧ ∃ p cap, w'.cell? ⟨b, 1, none⟩ = some (.slice p 0 cap) ∧ n ≤ cap := Any.Builder_Grow_fresh_cap Tryd.lays165 Tryd.Builder_Extra_165 B b n w hB hbk hBw hn
def Tryd.lays217_ren : Go.Shelf.Ren := ⟨fun | 217 => 52 | 266 => 63 | n => n, fun | 9 => 9 | 5 => 5 | 3 => 3 | n => n, fun | n => n⟩
theorem Tryd.lays217 : Go.Proofs.Lays.n217 Tryd.prog Tryd.lays217_ren := {
  mixed := by kernel_rfl
  f217 := Tryd.func52.trans (congrArg some (by kernel_rfl))
  f266 := Tryd.func63.trans (congrArg some (by kernel_rfl))
  t3 := Tryd.underlying3
  a3 := Tryd.isAgg3
  z3 := Tryd.sizeOf3
  v3 := Tryd.zeroValue3
  t5 := Tryd.underlying5
  a5 := Tryd.isAgg5
  z5 := Tryd.sizeOf5
  v5 := Tryd.zeroValue5
  t9 := Tryd.underlying9
  a9 := Tryd.isAgg9
  z9 := Tryd.sizeOf9
  v9 := Tryd.zeroValue9 }
open Go.RowKit Go.Lib in
/-- internal/stringslite.IndexByte (what strings.IndexByte calls): IT RETURNS 'Lib.indexByte s c'; the world is as it was. (LAID: no walk: one application.) -/
theorem Tryd.stringslite_IndexByte (s : ByteArray) (c : Int) (w : World) :
    Calls Tryd.prog 52 #[.string s, .int .u8 c] w fun e w' => e = .returned (.int .i64 (Lib.indexByte s.data.toList c.toNat.toUInt8)) ∧ w' = w := Any.stringslite_IndexByte Tryd.lays217 s c w
def Tryd.lays206_ren : Go.Shelf.Ren := ⟨fun | 206 => 67 | n => n, fun | 9 => 9 | 4 => 4 | 3 => 3 | n => n, fun | n => n⟩
theorem Tryd.lays206 : Go.Proofs.Lays.n206 Tryd.prog Tryd.lays206_ren := {
  mixed := by kernel_rfl
  f206 := Tryd.func67.trans (congrArg some (by kernel_rfl))
  t3 := Tryd.underlying3
  a3 := Tryd.isAgg3
  z3 := Tryd.sizeOf3
  v3 := Tryd.zeroValue3
  t4 := Tryd.underlying4
  a4 := Tryd.isAgg4
  z4 := Tryd.sizeOf4
  v4 := Tryd.zeroValue4
  t9 := Tryd.underlying9
  a9 := Tryd.isAgg9
  z9 := Tryd.sizeOf9
  v9 := Tryd.zeroValue9 }
open Go.RowKit Go.Lib in
/-- internal/stringslite.HasPrefix (what strings.HasPrefix calls). (LAID: no walk: one application.) -/
theorem Tryd.stringslite_HasPrefix (s p : ByteArray) (w : World) :
    Calls Tryd.prog 67 #[.string s, .string p] w fun e w' => e = .returned (.bool (Lib.hasPrefix s.data.toList p.data.toList)) ∧ w' = w := Any.stringslite_HasPrefix Tryd.lays206 s p w
def Tryd.lays99_ren : Go.Shelf.Ren := ⟨fun | 99 => 58 | 206 => 67 | n => n, fun | 9 => 9 | 4 => 4 | 3 => 3 | n => n, fun | n => n⟩
theorem Tryd.lays99 : Go.Proofs.Lays.n99 Tryd.prog Tryd.lays99_ren := {
  mixed := by kernel_rfl
  f99 := Tryd.func58.trans (congrArg some (by kernel_rfl))
  f206 := Tryd.func67.trans (congrArg some (by kernel_rfl))
  t3 := Tryd.underlying3
  a3 := Tryd.isAgg3
  z3 := Tryd.sizeOf3
  v3 := Tryd.zeroValue3
  t4 := Tryd.underlying4
  a4 := Tryd.isAgg4
  z4 := Tryd.sizeOf4
  v4 := Tryd.zeroValue4
  t9 := Tryd.underlying9
  a9 := Tryd.isAgg9
  z9 := Tryd.sizeOf9
  v9 := Tryd.zeroValue9 }
open Go.RowKit Go.Lib in
/-- strings.HasPrefix: "HasPrefix reports whether the string s begins with prefix.": IT RETURNS 'Lib.hasPrefix s prefix'; the world is as it was. (LAID: no walk: one application.) -/
theorem Tryd.strings_HasPrefix (s p : ByteArray) (w : World) :
    Calls Tryd.prog 58 #[.string s, .string p] w fun e w' => e = .returned (.bool (Lib.hasPrefix s.data.toList p.data.toList)) ∧ w' = w := Any.strings_HasPrefix Tryd.lays99 s p w
def Tryd.lays264_ren : Go.Shelf.Ren := ⟨fun | 264 => 66 | n => n, fun | 53 => 55 | 46 => 57 | n => n, fun | n => n⟩
theorem Tryd.lays264 : Go.Proofs.Lays.n264 Tryd.prog Tryd.lays264_ren := {
  mixed := by kernel_rfl
  f264 := Tryd.func66.trans (congrArg some (by kernel_rfl))
  t46 := Tryd.underlying57
  a46 := Tryd.isAgg57
  z46 := Tryd.sizeOf57
  v46 := Tryd.zeroValue57
  t53 := Tryd.underlying55
  a53 := Tryd.isAgg55
  z53 := Tryd.sizeOf55
  v53 := Tryd.zeroValue55 }
open Go.RowKit Go.Lib in
theorem Tryd.bits_Mul64 (x y : Nat) (hx : x < 18446744073709551616) (hy : y < 18446744073709551616) (w : World) :
    Calls Tryd.prog 66 #[.int .u64 x, .int .u64 y] w fun e w' => e = .returned (.tuple #[.int .u64 ((x * y / 18446744073709551616 : Nat) : Int), .int .u64 ((x * y % 18446744073709551616 : Nat) : Int)]) ∧ w' = w := Any.bits_Mul64 Tryd.lays264 x y hx hy w
def Tryd.lays212_ren : Go.Shelf.Ren := ⟨fun | 212 => 57 | 263 => 65 | 264 => 66 | n => n, fun | 46 => 57 | 51 => 27 | 146 => 102 | 53 => 55 | 148 => 104 | n => n, fun | n => n⟩
theorem Tryd.lays212 : Go.Proofs.Lays.n212 Tryd.prog Tryd.lays212_ren := {
  mixed := by kernel_rfl
  f212 := Tryd.func57.trans (congrArg some (by kernel_rfl))
  f263 := Tryd.func65.trans (congrArg some (by kernel_rfl))
  f264 := Tryd.func66.trans (congrArg some (by kernel_rfl))
  t46 := Tryd.underlying57
  a46 := Tryd.isAgg57
  z46 := Tryd.sizeOf57
  v46 := Tryd.zeroValue57
  t51 := Tryd.underlying27
  a51 := Tryd.isAgg27
  z51 := Tryd.sizeOf27
  v51 := Tryd.zeroValue27
  t53 := Tryd.underlying55
  a53 := Tryd.isAgg55
  z53 := Tryd.sizeOf55
  v53 := Tryd.zeroValue55
  t146 := Tryd.underlying102
  a146 := Tryd.isAgg102
  z146 := Tryd.sizeOf102
  v146 := Tryd.zeroValue102
  t148 := Tryd.underlying104
  a148 := Tryd.isAgg104
  z148 := Tryd.sizeOf104
  v148 := Tryd.zeroValue104 }
open Go.RowKit Go.Lib in
/-- math/bits.Mul: "Mul returns the full-width product of x and y": on a machine of 64 bits: Mul64's. (LAID: no walk: one application.) -/
theorem Tryd.bits_Mul (x y : Nat) (hx : x < 18446744073709551616) (hy : y < 18446744073709551616) (w : World) :
    Calls Tryd.prog 57 #[.int .u64 x, .int .u64 y] w fun e w' => e = .returned (.tuple #[.int .u64 ((x * y / 18446744073709551616 : Nat) : Int), .int .u64 ((x * y % 18446744073709551616 : Nat) : Int)]) ∧ w' = w := Any.bits_Mul Tryd.lays212 x y hx hy w
def Tryd.lays105_ren : Go.Shelf.Ren := ⟨fun | 105 => 44 | 212 => 57 | 99 => 58 | 165 => 56 | 166 => 49 | 170 => 59 | 169 => 51 | 263 => 65 | 264 => 66 | 206 => 67 | 240 => 62 | 241 => 64 | 276 => 68 | 277 => 69 | n => n, fun | 9 => 9 | 3 => 3 | 4 => 4 | 20 => 20 | 0 => 0 | 46 => 57 | 109 => 95 | 5 => 5 | 72 => 86 | 76 => 90 | 51 => 27 | 146 => 102 | 53 => 55 | 148 => 104 | 70 => 84 | 37 => 56 | 75 => 88 | 127 => 101 | 164 => 106 | 80 => 69 | n => n, fun | n => n⟩
theorem Tryd.lays105 : Go.Proofs.Lays.n105 Tryd.prog Tryd.lays105_ren := {
  mixed := by kernel_rfl
  f99 := Tryd.func58.trans (congrArg some (by kernel_rfl))
  f105 := Tryd.func44.trans (congrArg some (by kernel_rfl))
  f165 := Tryd.func56.trans (congrArg some (by kernel_rfl))
  f166 := Tryd.func49.trans (congrArg some (by kernel_rfl))
  f169 := Tryd.func51.trans (congrArg some (by kernel_rfl))
  f170 := Tryd.func59.trans (congrArg some (by kernel_rfl))
  f206 := Tryd.func67.trans (congrArg some (by kernel_rfl))
  f212 := Tryd.func57.trans (congrArg some (by kernel_rfl))
  f240 := Tryd.func62.trans (congrArg some (by kernel_rfl))
  f241 := Tryd.func64.trans (congrArg some (by kernel_rfl))
  f263 := Tryd.func65.trans (congrArg some (by kernel_rfl))
  f264 := Tryd.func66.trans (congrArg some (by kernel_rfl))
  f276 := Tryd.func68.trans (congrArg some (by kernel_rfl))
  f277 := Tryd.func69.trans (congrArg some (by kernel_rfl))
  t0 := Tryd.underlying0
  a0 := Tryd.isAgg0
  z0 := Tryd.sizeOf0
  v0 := Tryd.zeroValue0
  t3 := Tryd.underlying3
  a3 := Tryd.isAgg3
  z3 := Tryd.sizeOf3
  v3 := Tryd.zeroValue3
  t4 := Tryd.underlying4
  a4 := Tryd.isAgg4
  z4 := Tryd.sizeOf4
  v4 := Tryd.zeroValue4
  t5 := Tryd.underlying5
  a5 := Tryd.isAgg5
  z5 := Tryd.sizeOf5
  v5 := Tryd.zeroValue5
  t9 := Tryd.underlying9
  a9 := Tryd.isAgg9
  z9 := Tryd.sizeOf9
  v9 := Tryd.zeroValue9
  t20 := Tryd.underlying20
  a20 := Tryd.isAgg20
  z20 := Tryd.sizeOf20
  v20 := Tryd.zeroValue20
  t37 := Tryd.underlying56
  a37 := Tryd.isAgg56
  z37 := Tryd.sizeOf56
  v37 := Tryd.zeroValue56
  t46 := Tryd.underlying57
  a46 := Tryd.isAgg57
  z46 := Tryd.sizeOf57
  v46 := Tryd.zeroValue57
  t51 := Tryd.underlying27
  a51 := Tryd.isAgg27
  z51 := Tryd.sizeOf27
  v51 := Tryd.zeroValue27
  t53 := Tryd.underlying55
  a53 := Tryd.isAgg55
  z53 := Tryd.sizeOf55
  v53 := Tryd.zeroValue55
  t70 := Tryd.underlying84
  a70 := Tryd.isAgg84
  z70 := Tryd.sizeOf84
  v70 := Tryd.zeroValue84
  t72 := Tryd.underlying86
  a72 := Tryd.isAgg86
  z72 := Tryd.sizeOf86
  v72 := Tryd.zeroValue86
  t75 := Tryd.underlying88
  a75 := Tryd.isAgg88
  z75 := Tryd.sizeOf88
  v75 := Tryd.zeroValue88
  t76 := Tryd.underlying90
  a76 := Tryd.isAgg90
  z76 := Tryd.sizeOf90
  v76 := Tryd.zeroValue90
  t109 := Tryd.underlying95
  a109 := Tryd.isAgg95
  z109 := Tryd.sizeOf95
  v109 := Tryd.zeroValue95
  t127 := Tryd.underlying101
  a127 := Tryd.isAgg101
  z127 := Tryd.sizeOf101
  v127 := Tryd.zeroValue101
  t146 := Tryd.underlying102
  a146 := Tryd.isAgg102
  z146 := Tryd.sizeOf102
  v146 := Tryd.zeroValue102
  t148 := Tryd.underlying104
  a148 := Tryd.isAgg104
  z148 := Tryd.sizeOf104
  v148 := Tryd.zeroValue104
  t164 := Tryd.underlying106
  a164 := Tryd.isAgg106
  z164 := Tryd.sizeOf106
  v164 := Tryd.zeroValue106 }
theorem Tryd.Builder_Extra_105 : Builder.Extra Tryd.prog Tryd.lays105_ren := {
  sizeBuilder := by kernel_rfl
  liesBuilder := by kernel_rfl
  t5 := Tryd.underlying5
  a5 := Tryd.isAgg5
  z5 := Tryd.sizeOf5
  v5 := Tryd.zeroValue5
  infoByte := by kernel_rfl
  cellsByte := by kernel_rfl
  sizeByte := by kernel_rfl
  neB5 := by decide }
open Go.RowKit Go.Lib in
/-- THE MAIN CASE: at least two copies of a string that is not empty. (LAID: no walk: one application.) -/
theorem Tryd.strings_Repeat_main (s : ByteArray) (c : Nat) (w : World) (hc2 : 2 ≤ c) (hc : c ≤ 9223372036854775807) (hlen : s.size * c ≤ 140737488355328) (h0 : 0 < s.size) :
    Calls Tryd.prog 44 #[.string s, .int .i64 c] w fun e w' => e = .returned (.string ⟨(Lib.repeatL s.data.toList c).toArray⟩) ∧ Below w.heap.size w w' := Any.strings_Repeat_main Tryd.lays105 Tryd.Builder_Extra_105 s c w hc2 hc hlen h0
open Go.RowKit Go.Lib in
theorem Tryd.strings_Repeat_zero (s : ByteArray) (w : World) :
    Calls Tryd.prog 44 #[.string s, .int .i64 0] w fun e w' => e = .returned (.string ⟨#[]⟩) ∧ w' = w := Any.strings_Repeat_zero Tryd.lays105 s w
open Go.RowKit Go.Lib in
theorem Tryd.strings_Repeat_one (s : ByteArray) (w : World) :
    Calls Tryd.prog 44 #[.string s, .int .i64 1] w fun e w' => e = .returned (.string s) ∧ w' = w := Any.strings_Repeat_one Tryd.lays105 s w
open Go.RowKit Go.Lib in
/-- Copies of the empty string. (LAID: no walk: one application.) -/
theorem Tryd.strings_Repeat_empty (s : ByteArray) (c : Nat) (w : World) (hc2 : 2 ≤ c) (hc : c ≤ 9223372036854775807) (h0 : s.size = 0) :
    Calls Tryd.prog 44 #[.string s, .int .i64 c] w fun e w' => e = .returned (.string ⟨#[]⟩) ∧ w' = w := Any.strings_Repeat_empty Tryd.lays105 s c w hc2 hc h0
open Go.RowKit Go.Lib in
/-- count < 0: "It panics if count is negative". (LAID: no walk: one application.) -/
theorem Tryd.strings_Repeat_negative (s : ByteArray) (c : Int) (w : World) (hc : c < 0) :
    Calls Tryd.prog 44 #[.string s, .int .i64 c] w fun e w' => e = .panicked [{ v := repeatPanic Tryd.lays105_ren "strings: negative Repeat count", recovered := false }] ∧ w' = w := Any.strings_Repeat_negative Tryd.lays105 s c w hc
open Go.RowKit Go.Lib in
/-- len(s) * count is no int: ".. or if the result of (len(s) * count) overflows". (LAID: no walk: one application.) -/
theorem Tryd.strings_Repeat_overflow (s : ByteArray) (c : Nat) (w : World) (hc : c ≤ 9223372036854775807) (hs : s.size ≤ 9223372036854775807) (hbig : 9223372036854775807 < s.size * c) :
    Calls Tryd.prog 44 #[.string s, .int .i64 c] w fun e w' => e = .panicked [{ v := repeatPanic Tryd.lays105_ren "strings: Repeat output length overflow", recovered := false }] ∧ w' = w := Any.strings_Repeat_overflow Tryd.lays105 s c w hc hs hbig
open Go.RowKit Go.Lib in
/-- **strings.Repeat: count ≥ 0, the result within one allocation: count copies of s.** (LAID: no walk: one application.) -/
theorem Tryd.strings_Repeat (s : ByteArray) (c : Nat) (w : World) (hc : c ≤ 9223372036854775807) (hlen : s.size * c ≤ 140737488355328) :
    Calls Tryd.prog 44 #[.string s, .int .i64 c] w fun e w' => e = .returned (.string ⟨(Lib.repeatL s.data.toList c).toArray⟩) ∧ Below w.heap.size w w' := Any.strings_Repeat Tryd.lays105 Tryd.Builder_Extra_105 s c w hc hlen
end Go.Proofs
/- The walks of layer 4: Name on both sides, kind, one, bytes. No condition. -/
namespace Go.Proofs.YtlanconcbpdneaaDoor
open Go.RowKit
theorem idx_mem (c : UInt8) : ∀ s : Txt, (c ∉ s ∧ Lib.indexByte s c = -1) ∨ (c ∈ s ∧ 0 ≤ Lib.indexByte s c)
  | [] => .inl ⟨by simp, rfl⟩
  | x :: r => by
    by_cases hx : x = c
    · exact .inr ⟨by simp [hx], by simp [Lib.indexByte, hx]⟩
    · have hb : (x == c) = false := by simpa using hx
      rcases idx_mem c r with ⟨h1, h2⟩ | ⟨h1, h2⟩
      · exact .inl ⟨by simp [h1]; exact fun e => hx e.symm, by simp [Lib.indexByte, hb, h2]⟩
      · refine .inr ⟨by simp [h1], ?_⟩
        have hne : (Lib.indexByte r c == -1) = false := by rw [beq_eq_false_iff_ne]; omega
        simp only [Lib.indexByte, hb, hne]
        simp
        omega
theorem name_all {s : Txt} (h0 : (0 : UInt8) ∉ s) (h47 : (47 : UInt8) ∉ s) : s.all (fun c => !(c == 0) && !(c == 47)) = true := by
  rw [List.all_eq_true]
  intro c hc
  have h1 : c ≠ 0 := fun e => h0 (e ▸ hc)
  have h2 : c ≠ 47 := fun e => h47 (e ▸ hc)
  simp [h1, h2]
theorem name_no {s : Txt} (h : (0 : UInt8) ∈ s ∨ (47 : UInt8) ∈ s) : nameB s = false := by
  unfold nameB
  rw [Bool.and_eq_false_iff]
  refine .inr (List.all_eq_false.2 ?_)
  rcases h with h | h
  · exact ⟨0, h, by simp⟩
  · exact ⟨47, h, by simp⟩
theorem indexByte_calls (s : Txt) (c : Int) (k : UInt8) (hk : c.toNat.toUInt8 = k) (w : World) : Calls Tryd.prog 25 #[.string (B s), .int .u8 c] w fun e w' => e = .returned (.int .i64 (Lib.indexByte s k)) ∧ w' = w := by
  have := Tryd.strings_IndexByte (B s) c w
  rw [hk, show (B s).data.toList = s by simp [B]] at this
  exact this
set_option maxRecDepth 100000 in
set_option maxHeartbeats 1000000 in
theorem name_calls (s : Txt) (w : World) : Calls Tryd.prog 11 #[.string (B s)] w fun e w' => e = .returned (.bool (nameB s)) ∧ w' = w := by
  obtain ⟨r, hr⟩ : ∃ r, Hid (r = nameB s) := ⟨_, Lib.hid rfl⟩
  rw [← hr.out]
  have x0 := Lib.hid (indexByte_calls s 0 0 rfl w)
  have x47 := Lib.hid (indexByte_calls s 47 47 rfl w)
  by_cases hz : s = []
  · subst hz
    have hf : Hid (r = false) := hr
    clear x0 x47
    go_enter Tryd.func11, Tryd.ntmps11
    go_wp2
    go_ret
    exact ⟨by rw [hf.out]; rfl, rfl⟩
  · have hb0 : List.isEmpty s = false := by
      cases s with
      | nil => exact absurd rfl hz
      | cons _ _ => rfl
    have h1 : 1 ≤ s.length := List.length_pos_iff.2 hz
    by_cases h40 : s.length ≤ 40
    · have i40 : (s.length : Int) ≤ 40 := by omega
      rcases idx_mem 0 s with ⟨m0, e0⟩ | ⟨m0, e0⟩
      · rw [e0] at x0
        rcases idx_mem 47 s with ⟨m7, e7⟩ | ⟨m7, e7⟩
        · rw [e7] at x47
          have hf : Hid (r = true) := by show r = true; rw [hr.out]; unfold nameB; rw [name_all m0 m7]; simp [h1, h40]
          clear e0 e7 m0 m7 hr h1 h40
          go_enter Tryd.func11, Tryd.ntmps11
          go_wp2_with (first
            | ((with_reducible refine x0.out.mono ?_); rintro e w1 ⟨rfl, rfl⟩)
            | ((with_reducible refine x47.out.mono ?_); rintro e w1 ⟨rfl, rfl⟩))
          go_ret
          exact ⟨by rw [hf.out]; rfl, rfl⟩
        · have hf : Hid (r = false) := by show r = false; rw [hr.out]; exact name_no (.inr m7)
          have e7' : ¬ Lib.indexByte s 47 < 0 := by omega
          generalize Lib.indexByte s 47 = q at *
          clear e0 e7 m0 m7 hr h1 h40
          go_enter Tryd.func11, Tryd.ntmps11
          go_wp2_with (first
            | ((with_reducible refine x0.out.mono ?_); rintro e w1 ⟨rfl, rfl⟩)
            | ((with_reducible refine x47.out.mono ?_); rintro e w1 ⟨rfl, rfl⟩))
          go_ret
          exact ⟨by rw [hf.out]; simp [e7'], rfl⟩
      · have hf : Hid (r = false) := by show r = false; rw [hr.out]; exact name_no (.inl m0)
        have e0' : ¬ Lib.indexByte s 0 < 0 := by omega
        generalize Lib.indexByte s 0 = q at *
        clear e0 m0 hr h1 h40 x47
        go_enter Tryd.func11, Tryd.ntmps11
        go_wp2_with (first
          | ((with_reducible refine x0.out.mono ?_); rintro e w1 ⟨rfl, rfl⟩))
        go_ret
        exact ⟨by rw [hf.out]; rfl, rfl⟩
    · have i40 : ¬ (s.length : Int) ≤ 40 := by omega
      have hf : Hid (r = false) := by show r = false; rw [hr.out]; unfold nameB; simp [h40]
      clear x0 x47 hr h1 h40
      go_enter Tryd.func11, Tryd.ntmps11
      go_wp2
      go_ret
      exact ⟨by rw [hf.out]; rfl, rfl⟩
theorem all_take {s : Txt} {p : UInt8 → Bool} {k : Nat} {c : UInt8} (h : (s.take k).all p = true) (hc : s[k]? = some c) (hp : p c = true) : (s.take (k + 1)).all p = true := by
  rw [List.take_add_one, List.all_append, h, hc]
  simp [hp]
set_option maxRecDepth 100000 in
set_option maxHeartbeats 1000000 in
theorem refName_calls (s : Txt) (hs : s.length ≤ 9223372036854775807) (w : World) : Calls Tryd.prog 53 #[.string (B s)] w fun e w' => e = .returned (.bool (nameB s)) ∧ w' = w := by
  obtain ⟨b, hb⟩ : ∃ b, Hid (b = nameB s) := ⟨_, Lib.hid rfl⟩
  rw [← hb.out]
  go_enter Tryd.func53, Tryd.ntmps53
  go_wp2
  go_loop [3] (fun vi => ∃ k : Nat, vi = .int .i64 k ∧ k ≤ s.length ∧ Hid ((s.take k).all (fun c => !(c == 0) && !(c == 47)) = true)) (fun vi => s.length - (intOf vi).toNat)
  case atStart => exact ⟨0, rfl, by omega, Lib.hid rfl⟩
  case round =>
    obtain ⟨k, rfl, hk, hall⟩ := hrel
    by_cases hlt : k < s.length
    · have hki : (k : Int) < (s.length : Int) := by omega
      obtain ⟨c, hc⟩ : ∃ c, s[k] = c := ⟨_, rfl⟩
      have hck : s[k]? = some c := by rw [List.getElem?_eq_getElem hlt, hc]
      have hm := List.mem_of_getElem? hck
      obtain ⟨n, hn⟩ : ∃ n, c.toNat = n := ⟨_, rfl⟩
      by_cases g1 : n = 0
      · have e1 : c = 0 := UInt8.toNat_inj.1 (by rw [hn, g1]; rfl)
        have hf : Hid (b = false) := by show b = false; rw [hb.out]; exact name_no (.inl (e1 ▸ hm))
        subst g1
        clear hb hall hck hm e1
        go_wp2
        go_ret
        exact ⟨by rw [hf.out]; rfl, rfl⟩
      · have i1 : ((n : Int) == 0) = false := by rw [beq_eq_false_iff_ne]; omega
        have e1 : c ≠ 0 := fun e => g1 (by rw [← hn, e]; rfl)
        by_cases g2 : n = 47
        · have e2 : c = 47 := UInt8.toNat_inj.1 (by rw [hn, g2]; rfl)
          have hf : Hid (b = false) := by show b = false; rw [hb.out]; exact name_no (.inr (e2 ▸ hm))
          subst g2
          clear hb hall hck hm e2 e1
          go_wp2
          go_ret
          exact ⟨by rw [hf.out]; rfl, rfl⟩
        · have i2 : ((n : Int) == 47) = false := by rw [beq_eq_false_iff_ne]; omega
          have e2 : c ≠ 47 := fun e => g2 (by rw [← hn, e]; rfl)
          have hst := Lib.hid (all_take hall.out hck (by simp [e1, e2]))
          clear hall hck hm e1 e2 g1 g2
          go_wp2
          go_round
          case rel => exact ⟨k + 1, by go_num, by omega, hst⟩
          case measure => simp [intOf]; omega
    · have hki : ¬ (k : Int) < (s.length : Int) := by omega
      have hf : Hid (b = (decide (1 ≤ s.length) && decide (s.length ≤ 40))) := by
        show b = _
        have := hall.out
        rw [List.take_of_length_le (by omega)] at this
        rw [hb.out]
        unfold nameB
        rw [this, Bool.and_true]
      clear hb hall
      by_cases h1 : 1 ≤ s.length
      · have i1 : (1 : Int) ≤ (s.length : Int) := by omega
        by_cases h40 : s.length ≤ 40
        · have i40 : (s.length : Int) ≤ 40 := by omega
          go_wp2
          go_ret
          exact ⟨by rw [hf.out]; simp [h1, h40], rfl⟩
        · have i40 : ¬ (s.length : Int) ≤ 40 := by omega
          go_wp2
          go_ret
          exact ⟨by rw [hf.out]; simp [h1, h40], rfl⟩
      · have i1 : ¬ (1 : Int) ≤ (s.length : Int) := by omega
        go_wp2
        go_ret
        exact ⟨by rw [hf.out]; simp [h1], rfl⟩
end Go.Proofs.YtlanconcbpdneaaDoor
