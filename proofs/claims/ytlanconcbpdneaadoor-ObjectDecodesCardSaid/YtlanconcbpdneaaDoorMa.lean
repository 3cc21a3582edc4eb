/- Lemmas and walks of this seat, laid together: Base, Post, VarintP, Txt, LzP, TakeP, ObjP, RdP, LzBP, RdL, RdM, RdB, GsP. -/
import Derived.Test.YtlanconcbpdneaaDoorProg
import Derived.WalkKit
import Derived.WalkSpells
import Derived.WalkLawsBesides
import Derived.Lib.Hide
import Derived.Lib.AppendStr
import Derived.Deep.AppendLies
import Derived.Deep.Draws
import Derived.Deep.QuietTactic
import Derived.BigQuiet
import Derived.BigGuardPart
import Derived.Deep.DeepMust
import Derived.Test.YtlanconcbpdneaaDoorRows
import Derived.ProofKit
import Derived.ChangeSame
import Derived.Deep.Slices
import Derived.Deep.Fields
import Derived.Below
/- The words of this seat's walks: a string as a list of bytes, a byte slice that the call owns, and the laws of append, of conversion and of the string operations in these words. No condition; no program is named. -/
namespace Go.Proofs.YtlanconcbpdneaaDoor
open Go.RowKit

/-- The string of a list of bytes. -/
def B (l : List UInt8) : ByteArray := ⟨l.toArray⟩
theorem size_B (l : List UInt8) : (B l).size = l.length := rfl
theorem toList_B (l : List UInt8) : (B l).toList = l := ByteArray.toList_mk l
theorem data_B (l : List UInt8) : (B l).data = l.toArray := rfl
theorem getElem_B (l : List UInt8) (i : Nat) (h : i < (B l).size) : (B l)[i]'h = l[i]'(by rw [size_B] at h; exact h) := rfl
theorem append_B (a b : List UInt8) : B a ++ B b = B (a ++ b) := ByteArray.mk_append_mk a b
theorem extract_B (l : List UInt8) (a b : Nat) : (B l).extract a b = B ((l.drop a).take (b - a)) := ByteArray.extract_mk l a b
theorem extract_B_from (l : List UInt8) (a : Nat) : (B l).extract a l.length = B (l.drop a) := by
  rw [extract_B, List.take_of_length_le (by simp)]
theorem extract_B_to (l : List UInt8) (b : Nat) : (B l).extract 0 b = B (l.take b) := by
  rw [extract_B]; simp
theorem mk_B (l : List UInt8) : ByteArray.mk l.toArray = B l := rfl
theorem append_B_mk (a b : List UInt8) : B a ++ ByteArray.mk b.toArray = B (a ++ b) := append_B a b
theorem append_mk_B (a b : List UInt8) : ByteArray.mk a.toArray ++ B b = B (a ++ b) := append_B a b
theorem B_mk (s : ByteArray) : ∃ l, s = B l := ⟨s.data.toList, rfl⟩
theorem B_inj {a b : List UInt8} (h : B a = B b) : a = b := by
  have := congrArg ByteArray.toList h
  rwa [toList_B, toList_B] at this
theorem take_drop_all (l : List UInt8) (a : Nat) : (l.drop a).take (l.length - a) = l.drop a := List.take_of_length_le (by simp)
attribute [go_sem] size_B toList_B getElem_B append_B extract_B take_drop_all append_B_mk append_mk_B

/-- The bytes of a string value: for a loop's measure. -/
def strOf : Value → List UInt8 | .string s => s.data.toList | _ => []
theorem strOf_B (l : List UInt8) : strOf (.string (B l)) = l := rfl
/-- A byte as a value. -/
def u8v (c : UInt8) : Value := .int .u8 c.toNat
theorem u8v_eq (c : UInt8) : u8v c = .int .u8 c.toNat := rfl
theorem u8v_one (l : List UInt8) : ∀ u ∈ l.map u8v, u.oneCell' = true := by
  intro u hu
  simp only [List.mem_map] at hu
  obtain ⟨b, _, rfl⟩ := hu
  rfl
theorem strCells_B (l : List UInt8) : Lib.strCells (B l) = l.map u8v := by
  simp [Lib.strCells, B, u8v]

/-- What a slice type and its element's type are in the program's table. -/
structure SliceTy (P : Program) (t e : TypeId) (z : Value) (size bytes : Nat) : Prop where
  ht : P.underlying t = some (.slice e)
  hi : ∃ i, P.info? e = some i ∧ i.zero = some z ∧ i.size = size ∧ i.bytes = bytes
  hzs : z.cells.size = size
  hsz : 0 < size

/-- The slice value v reads as l, lies in memory of the call's own, and is at base or behind it. -/
def OwnB (w : World) (base : Nat) (e : TypeId) (v : Value) (l : List UInt8) : Prop := w.ownsRow base e 1 v l.length (l.map u8v)
theorem OwnB.nil (w : World) (base : Nat) (e : TypeId) : OwnB w base e (.slice none 0 0) [] := World.ownsRow_nil w base e 1
theorem OwnB.alloc {w : World} {base : Nat} {e : TypeId} {v : Value} {l : List UInt8} (h : OwnB w base e v l) (o : Obj) : OwnB (w.alloc o) base e v l := World.ownsRow.alloc h o
theorem OwnB.drew {w : World} {base : Nat} {e : TypeId} {v : Value} {l : List UInt8} (h : OwnB w base e v l) : OwnB w.drew base e v l := h
theorem OwnB.drewN {w : World} {base : Nat} {e : TypeId} {v : Value} {l : List UInt8} (h : OwnB w base e v l) (n : Nat) : OwnB (w.drewN n) base e v l := h
theorem OwnB.lt {w : World} {base : Nat} {e : TypeId} {v : Value} {l : List UInt8} (h : OwnB w base e v l) : ∀ k, v.ownBlock = some k → base ≤ k ∧ k < w.heap.size := World.ownsRow.lt h
theorem OwnB.kept {w w' : World} {base : Nat} {e : TypeId} {v : Value} {l : List UInt8} {row : Option Nat} (h : OwnB w base e v l) (hg : w.grownBy w' row) (hne : v.ownBlock = none ∨ v.ownBlock ≠ row) : OwnB w' base e v l := World.ownsRow.kept h hg hne
theorem OwnB.below {w w' : World} {base : Nat} {e : TypeId} {v : Value} {l : List UInt8} (h : OwnB w base e v l) (hb : Below w.heap.size w w') : OwnB w' base e v l :=
  h.kept (row := none) ⟨hb.os, hb.tape, hb.output, hb.size, fun k hk _ => hb.block k hk⟩ (by
    cases hv : v.ownBlock with
    | none => exact .inl rfl
    | some k => exact .inr (by simp))
/-- The value's form. -/
theorem OwnB.form {w : World} {base : Nat} {e : TypeId} {v : Value} {l : List UInt8} (h : OwnB w base e v l) : (v = .slice none 0 0 ∧ l = []) ∨ ∃ g cap, v = .slice (some ⟨g, 0, none⟩) l.length cap ∧ base ≤ g ∧ g < w.heap.size ∧ l.length ≤ cap := by
  rcases h.2 with ⟨h1, h2⟩ | ⟨g, cap, cur, h1, h2, h3, h4, _⟩
  · exact .inl ⟨h1, List.eq_nil_of_length_eq_zero h2⟩
  · refine .inr ⟨g, cap, h1, h2, ?_, h4⟩
    rcases Nat.lt_or_ge g w.heap.size with hlt | hge
    · exact hlt
    · rw [Array.getElem?_eq_none hge] at h3; cases h3
/-- ... as one line: some address, the length, some capacity. -/
theorem OwnB.form' {w : World} {base : Nat} {e : TypeId} {v : Value} {l : List UInt8} (h : OwnB w base e v l) : ∃ A cap, v = .slice A l.length cap := by
  rcases h.form with ⟨rfl, rfl⟩ | ⟨g, cap, rfl, _⟩
  · exact ⟨_, _, rfl⟩
  · exact ⟨_, _, rfl⟩
theorem OwnB.cell {w : World} {base : Nat} {e : TypeId} {A : Option Addr} {n cap : Nat} {l : List UInt8} (h : OwnB w base e (.slice A n cap) l) {j : Nat} (hj : j < l.length) :
    ∃ g, A = some ⟨g, 0, none⟩ ∧ n = l.length ∧ g < w.heap.size ∧ w.cell? ⟨g, j, none⟩ = some (.int .u8 (l[j]'hj).toNat) := by
  rcases h.form with ⟨_, rfl⟩ | ⟨g, cap', hv, _, hg, _⟩
  · simp at hj
  · injection hv with h1 h2 h3
    subst h1 h2 h3
    refine ⟨g, rfl, rfl, hg, ?_⟩
    have := World.ownsRow.cellAt (h : w.ownsRow base e 1 _ _ _) j (by simpa using hj)
    rw [this, List.getElem?_map, List.getElem?_eq_getElem hj]
    rfl
theorem OwnB.one {w : World} {base : Nat} {e : TypeId} (hb : base ≤ w.heap.size) (c : UInt8) : OwnB (w.alloc (.cells #[u8v c] e)) base e (.slice (some ⟨w.heap.size, 0, none⟩) 1 1) [c] :=
  World.ownsRow_lit (size := 1) w #[u8v c] 1 hb (by simp [maxLen]) rfl

theorem ofNat_toNat_u8 (n : Nat) (h : n < 256) : (UInt8.ofNat n).toNat = n := by
  simp [Nat.mod_eq_of_lt h]
theorem cell_new1 (w : World) (u : Value) (t : TypeId) : (w.alloc (.cells #[u] t)).cell? ⟨w.heap.size, 0, none⟩ = some u := by
  rw [World.cell?_alloc_new]; rfl
theorem ofNat_add_u8 (a b : Nat) : UInt8.ofNat (a + b) = UInt8.ofNat a + UInt8.ofNat b := by simp
theorem u8v_ofNat (n : Nat) (h : n < 256) : u8v (UInt8.ofNat n) = .int .u8 n := by rw [u8v, ofNat_toNat_u8 n h]

section
variable {P : Program}

/-- string(b), b a byte slice of the call's own. -/
theorem run_string_of_own (w : World) (t e d : TypeId) (ht : P.underlying t = some (.slice e)) (he : P.underlying e = some (.int .u8)) (hd : P.underlying d = some .string)
    {base : Nat} {v : Value} {l : List UInt8} (h : OwnB w base e v l) : (convert t d v).run P w = .ok (.string (B l)) w := by
  rcases h.form with ⟨rfl, rfl⟩ | ⟨g, cap, rfl, _, hg, _⟩
  · exact run_convert_bytes_nil w t e ht he 0 0 d hd
  · rw [run_convert_bytes_arg w t e ht he g 0 l.length cap (l.map fun c => (c.toNat : Int)) (by simp) (fun i hi => by
      obtain ⟨g', h1, _, _, h4⟩ := OwnB.cell h hi
      injection h1 with h1
      injection h1 with h1
      subst h1
      rw [Nat.zero_add, h4]
      simp [List.getD, List.getElem?_map, List.getElem?_eq_getElem hi]) d hd]
    have hl : (l.map fun c => (c.toNat : Int)).map (fun n => UInt8.ofNat n.toNat) = l := by
      rw [List.map_map]
      exact (List.map_congr_left (g := id) (fun c _ => by simp)).trans (List.map_id l)
    rw [strOfNums, hl]
    rfl

/-- append(b, c), b of the call's own, c one byte that was laid in a block of its own. -/
theorem wpList_append_byte {w : World} {ops : Array Oper} {rest : List Oper} {o : Oper} {a : Act} {Q : Exit → Act → World → Prop} (hgd : o.guard = none) (s x : Operand) (t : TypeId)
    (ho : o.op = .call { callee := .builtin .append, args := #[s, x], argTypes := #[t, t] })
    (e : TypeId) (hT : SliceTy P t e (.int .u8 0) 1 1) (base : Nat) (v : Value) (l : List UInt8) (hs : a.eval s = v) (hown : OwnB w base e v l)
    (k : Nat) (n : Int) (hx : a.eval x = .slice (some ⟨k, 0, none⟩) 1 1) (hcell : w.cell? ⟨k, 0, none⟩ = some (.int .u8 n)) (hn0 : 0 ≤ n) (hn1 : n < 256) (hlen : l.length ≤ 70368744177664)
    (w0 : World) (hb : Below base w0 w) (hbase : base ≤ w.heap.size)
    (h : ∀ v' w', OwnB w' base e v' (l ++ [UInt8.ofNat n.toNat]) → Below base w0 w' → w.grownBy w' v.ownBlock → wpList P ops Q rest (a.put o.dst v') w') : wpList P ops Q (o :: rest) a w := by
  have hc : ((UInt8.ofNat n.toNat).toNat : Int) = n := by rw [ofNat_toNat_u8 _ (by omega)]; omega
  generalize UInt8.ofNat n.toNat = c at hc h
  obtain ⟨i, h1, h2, h3, h4⟩ := hT.hi
  refine wpList_append_own w hgd s x t ho base e i (.int .u8 0) 1 1 hT.ht h1 h2 h3 h4 rfl (by omega) v l.length (l.map u8v) hs hown ⟨k, 0, none⟩ 1 1 [u8v c] hx rfl ?_ (by simp [u8v]; rfl)
    (by simp only [maxLen]; omega) (by omega) hbase ?_
  · intro j u hu
    match j, hu with
    | 0, hu =>
      injection hu with hu
      subst hu
      rw [u8v, hc]
      exact hcell
  · intro v' w' hown' hg _
    refine h v' w' ?_ (hb.grown hg hbase (fun k hk => (hown.lt k hk).1)) hg
    simpa [OwnB] using hown'

/-- append(b, s...), b of the call's own, s a string. -/
theorem wpList_append_bytes {w : World} {ops : Array Oper} {rest : List Oper} {o : Oper} {a : Act} {Q : Exit → Act → World → Prop} (hgd : o.guard = none) (s x : Operand) (t u : TypeId)
    (ho : o.op = .call { callee := .builtin .append, args := #[s, x], argTypes := #[t, u] })
    (e : TypeId) (hT : SliceTy P t e (.int .u8 0) 1 1) (hu : P.underlying u = some .string) (base : Nat) (v : Value) (l : List UInt8) (hs : a.eval s = v) (hown : OwnB w base e v l)
    (m : List UInt8) (hx : a.eval x = .string (B m)) (hlen : l.length + m.length ≤ 70368744177664)
    (w0 : World) (hb : Below base w0 w) (hbase : base ≤ w.heap.size)
    (h : ∀ v' w', OwnB w' base e v' (l ++ m) → Below base w0 w' → w.grownBy w' v.ownBlock → wpList P ops Q rest (a.put o.dst v') w') : wpList P ops Q (o :: rest) a w := by
  obtain ⟨i, h1, h2, h3, h4⟩ := hT.hi
  refine Lib.wpList_append_own_string w hgd s x t u ho base e i hT.ht hu h1 h2 h3 h4 v l.length (l.map u8v) hs hown (B m) hx
    (by rw [size_B]; simp only [maxLen]; omega) (by rw [size_B]; omega) hbase ?_
  intro v' w' hown' hg _
  refine h v' w' ?_ (hb.grown hg hbase (fun k hk => (hown.lt k hk).1)) hg
  rw [strCells_B, size_B] at hown'
  simpa [OwnB] using hown'
end

/-- Block g is just these cells of element type t, none frozen. -/
def Blk (w : World) (g : Nat) (t : TypeId) (cs : Array Value) : Prop := w.heap[g]? = some (.cells cs t (0, 0))
section
variable {w w' : World} {g : Nat} {t : TypeId} {cs : Array Value}
theorem Blk.lt (h : Blk w g t cs) : g < w.heap.size := by
  rcases Nat.lt_or_ge g w.heap.size with hlt | hge
  · exact hlt
  · unfold Blk at h; rw [Array.getElem?_eq_none hge] at h; cases h
theorem Blk.cell (h : Blk w g t cs) (i : Nat) : w.cell? ⟨g, i, none⟩ = cs[i]? := cell_of_row w g i cs t (0, 0) h
theorem Blk.frozen (h : Blk w g t cs) (i : Nat) : w.frozen? ⟨g, i, none⟩ = false := by
  unfold Blk at h
  simp [World.frozen?, h]
theorem Blk.new (w : World) (t : TypeId) (cs : Array Value) : Blk (w.alloc (.cells cs t)) w.heap.size t cs := heap_alloc_new w _
theorem Blk.drew (h : Blk w g t cs) : Blk w.drew g t cs := h
theorem Blk.drewN (h : Blk w g t cs) (n : Nat) : Blk (w.drewN n) g t cs := h
theorem Blk.alloc (h : Blk w g t cs) (o : Obj) : Blk (w.alloc o) g t cs := (Below.heap_alloc w o g h.lt).trans h
theorem Blk.set_ (h : Blk w g t cs) (i : Nat) (u : Value) : Blk (w.setCell ⟨g, i, none⟩ u) g t (cs.setIfInBounds i u) := by
  unfold Blk at h ⊢
  simp [World.setCell, Array.getElem?_modify, h]
theorem Blk.far (h : Blk w g t cs) {p : Addr} (hp : g ≠ p.block) (u : Value) : Blk (w.setCell p u) g t cs := (Below.heap_setCell w p u g hp).trans h
theorem Blk.below {B0 : Nat} (h : Blk w g t cs) (hb : Below B0 w w') (hg : g < B0) : Blk w' g t cs := (hb.block g hg).trans h
theorem Blk.grown {row : Option Nat} (h : Blk w g t cs) (hb : w.grownBy w' row) (hg : some g ≠ row) : Blk w' g t cs := (hb.block g h.lt hg).trans h
theorem Blk.ne_ {g' : Nat} {t' : TypeId} {cs' : Array Value} (h : Blk w g t cs) (h' : Blk w g' t' cs') (hne : t ≠ t') : g ≠ g' := by
  rintro rfl
  unfold Blk at h h'
  rw [h] at h'
  injection h' with h'
  injection h' with _ ht
  exact hne ht
theorem own_blk_ne {base : Nat} {e : TypeId} {size n : Nat} {v : Value} {xs : List Value} (h : w.ownsRow base e size v n xs) (hg : Blk w g t cs) (hne : e ≠ t) : some g ≠ v.ownBlock := by
  rcases h.2 with ⟨rfl, _⟩ | ⟨g', cap, cur, rfl, _, hh, _⟩
  · simp [Value.ownBlock]
  · intro he
    have : g' = g := by simpa [Value.ownBlock] using he.symm
    subst this
    exact Blk.ne_ (t := e) hh hg hne rfl
end

/-- A block of another type stays as it was while the byte slice grows. -/
theorem blk_own_step {w w' : World} {g : Nat} {t e : TypeId} {cs : Array Value} {base : Nat} {v : Value} {l : List UInt8} (h : Blk w g t cs) (ho : OwnB w base e v l) (hg : w.grownBy w' v.ownBlock) (hne : e ≠ t) : Blk w' g t cs :=
  h.grown hg (own_blk_ne ho h hne)

/-- Below, for a walk's end. -/
theorem bdrewN {B0 : Nat} {a w : World} (h : Below B0 a w) (n : Nat) : Below B0 a (w.drewN n) := ⟨h.os, h.tape, h.output, h.size, h.block⟩
theorem bthen {a b c : World} {B0 : Nat} (h : Below B0 a b) (hB : B0 ≤ b.heap.size) (k : Below b.heap.size b c) : Below B0 a c := h.trans (k.mono hB)

theorem Tryd.bytesTy : SliceTy Tryd.prog 56 5 (.int .u8 0) 1 1 := ⟨Tryd.underlying56, info_parts (by kernel_rfl), rfl, by omega⟩
theorem Tryd.str_of_own (w : World) {base : Nat} {v : Value} {l : List UInt8} (h : OwnB w base 5 v l) : (convert 56 9 v).run Tryd.prog w = .ok (.string (B l)) w :=
  run_string_of_own w 56 5 9 Tryd.underlying56 Tryd.underlying5 Tryd.underlying9 h
/-- string([]byte{c}) -/
theorem Tryd.str_of_one (w : World) (x : Int) : (convert 56 9 (.slice (some ⟨w.heap.size, 0, none⟩) 1 1)).run Tryd.prog (w.alloc (.cells #[.int .u8 x] 5)) =
    .ok (.string (B [UInt8.ofNat x.toNat])) (w.alloc (.cells #[.int .u8 x] 5)) := by
  rw [run_convert_bytes_arg _ 56 5 Tryd.underlying56 Tryd.underlying5 w.heap.size 0 1 1 [x] rfl (fun i hi => by
    have : i = 0 := by omega
    subst this
    rw [World.cell?_alloc_new]; rfl) 9 Tryd.underlying9]
  rfl
/-- ... the block's number spelt otherwise. -/
theorem Tryd.str_of_oneAt (w : World) (k : Nat) (x : Int) (h : k = w.heap.size) : (convert 56 9 (.slice (some ⟨k, 0, none⟩) 1 1)).run Tryd.prog (w.alloc (.cells #[.int .u8 x] 5)) =
    .ok (.string (B [UInt8.ofNat x.toNat])) (w.alloc (.cells #[.int .u8 x] 5)) := by
  subst h
  exact Tryd.str_of_one w x
end Go.Proofs.YtlanconcbpdneaaDoor
/- The last step of a statement's proof where the call makes memory of its own and leaves all older memory alone. No condition. -/
namespace Go.Proofs.YtlanconcbpdneaaDoor
open Go.RowKit Go.WideShapes Go.ChangeShapes Go.ChangeAt
section
variable {H : Type} {enc : TypeId × Value → H} {P : Program}
theorem post_of_below {f : Func} {s : ChangeSpec} {apart fresh handsOn again : Bool} {W W' : World} {args : Array Value} {v : Value} {ds gs : List (DataW H)} {before pa pv : List MemPlace}
    (hW : DataW.Whole enc P f.params.toList s.vars apart W args.toList ds gs before)
    (hres : ∀ (b : Nat) (sp : Nat → Bool) (hd : Bool), DataW.TrodAll enc P W' b sp hd f.resultTypes.toList (v.resultList f.resultTypes.size) (s.fn H (ds ++ gs)).results [])
    (hargs : ∀ sp : Nat → Bool, (∀ p ∈ before, sp p.block = true) → DataW.TrodAll enc P W' 0 sp true f.params.toList args.toList (s.fn H (ds ++ gs)).args pa)
    (hvars : ∀ sp : Nat → Bool, (∀ p ∈ before, sp p.block = true) → DataW.TrodVars enc P W' sp s.vars (s.fn H (ds ++ gs)).vars pv)
    (hps : before = pa ++ pv) (hb : Below W.heap.size W W')
    (hok : ∀ (j : Nat) (t : TypeId) (r : Value), f.resultTypes[j]? = some t → (v.resultList f.resultTypes.size)[j]? = some r → Value.okWide P W' .any 0 t r) :
    s.post enc P f apart fresh handsOn again W args v W' := by
  have hlt : ∀ p ∈ before, p.block < W.heap.size := fun p hp => hW.lt p hp
  have hold : ∀ p ∈ before, (fun b => decide (b < W.heap.size)) p.block = true := fun p hp => by simpa using hlt p hp
  refine ⟨ds, gs, before, [], pa, pv, hW, hres _ _ _, hargs _ hold, hvars _ hold, World.keptBut_mono (fun p hp => ⟨hp, ?_⟩) (hb.frame (· ∈ before)), fun _ => ?_⟩
  · rw [hps, List.mem_append] at hp
    exact Or.inr hp
  · obtain ⟨_, _, _, _, _, hz, hn⟩ := hW
    refine ⟨hok, _, _, ([] ++ pa) ++ pv, ⟨[] ++ pa, pv, trodAll_append (hargs _ (fun _ _ => rfl)) (hres _ _ _), hvars _ (fun _ _ => rfl), rfl, ?_, ?_⟩, ?_⟩
    · intro b off hp
      have hin : MemPlace.cell b off ∈ before := by rw [hps]; simpa using hp
      rw [hb.frozen (hlt _ hin)]
      exact hz b off hin
    · intro ha
      have := hn ha
      rw [hps] at this
      simpa using this
    · intro p hp _
      rw [hps]
      simpa using hp
end
section
variable {H : Type} {enc : TypeId × Value → H} {P : Program}
/-- All arguments read as they did where nothing older has turned. -/
theorem trodAll_stays (hl : laidOutB P = true) {W W' : World} {sp' : Nat → Bool} (hb : Below W.heap.size W W') :
    ∀ (ts : List TypeId) (vs : List Value) (ds : List (DataW H)) (ps : List MemPlace), (ts.all fun t => P.readableRec t && decide (t < P.types.size)) = true →
      DataW.TrodAll enc P W 0 (fun _ => true) true ts vs ds ps → (∀ p ∈ ps, p.block < W.heap.size) → (∀ p ∈ ps, sp' p.block = true) → DataW.TrodAll enc P W' 0 sp' true ts vs ds ps
  | [], [], [], _, _, h, _, _ => h
  | t :: ts, v :: vs, d :: ds, ps, hr, h, hlt, hs => by
    obtain ⟨p, q, h1, h2, rfl⟩ := h
    simp only [List.all_cons, Bool.and_eq_true, decide_eq_true_eq] at hr
    exact ⟨p, q, WideElems.Trod_stays hl hr.1.1 hr.1.2 h1 (fun x hx => hb.same (hlt x (List.mem_append_left _ hx))) (fun x hx => hs x (List.mem_append_left _ hx)),
      trodAll_stays hl hb ts vs ds q hr.2 h2 (fun x hx => hlt x (List.mem_append_right _ hx)) (fun x hx => hs x (List.mem_append_right _ hx)), rfl⟩
  | [], [], _ :: _, _, _, h, _, _ => h
  | [], _ :: _, [], _, _, h, _, _ => h
  | [], _ :: _, _ :: _, _, _, h, _, _ => h
  | _ :: _, [], [], _, _, h, _, _ => h
  | _ :: _, [], _ :: _, _, _, h, _, _ => h
  | _ :: _, _ :: _, [], _, _, h, _, _ => h
/-- A statement's last step: it returned true, and nothing older has turned. -/
theorem post_law {f : Func} {s : ChangeSpec} {T : TypeId} {apart fresh handsOn again : Bool} {W W' : World} {args : Array Value} {ds : List (DataW H)} {before : List MemPlace}
    (hl : laidOutB P = true) (hR : (f.params.toList.all fun t => P.readableRec t && decide (t < P.types.size)) = true) (hres : f.resultTypes = #[T]) (hT : P.underlying T = some .bool) (hvars : s.vars = [])
    (hfn : (s.fn H (ds ++ [])).results = [.lit (.bool true)] ∧ (s.fn H (ds ++ [])).args = ds ∧ (s.fn H (ds ++ [])).vars = []) (hW : DataW.Whole enc P f.params.toList s.vars apart W args.toList ds [] before) (hb : Below W.heap.size W W') :
    s.post enc P f apart fresh handsOn again W args (.bool true) W' := by
  have hW' := hW
  obtain ⟨p, q, hA, hV, hpq, hfz, hnd⟩ := hW
  rw [hvars] at hV
  have hq : q = [] := hV
  subst hq
  rw [List.append_nil] at hpq
  subst hpq
  have hlt : ∀ x ∈ before, x.block < W.heap.size := fun x hx => hW'.lt x hx
  refine post_of_below (pa := before) (pv := []) hW' ?_ ?_ ?_ (by simp) hb ?_
  · intro b sp hd
    rw [hfn.1, hres]
    exact trodAll_mk1 (shut_bool hT _)
  · intro sp hsp
    rw [hfn.2.1]
    exact trodAll_stays hl hb _ _ _ _ hR hA hlt hsp
  · intro sp hsp
    rw [hfn.2.2, hvars]
    rfl
  · exact ok_one hres rfl (okWide_bool_mk hT _)
end
/- An argument that is a slice of structs. -/
section
variable {H : Type} {enc : TypeId × Value → H} {P : Program} {w : World} {base : Nat} {spare : Nat → Bool} {held : Bool}
open Go.Deep in
theorem open_slice_fields {t e : TypeId} {fs : Array Field} {fuel : Nat} {cs : List Value} {x : DataW H × List MemPlace} (ht : P.underlying t = some (.slice e)) (he : P.underlying e = some (.struct fs))
    (hone : oneCellFields P fs = true) (hC : P.cellsOf e = fs.size) (h : DataW.trod enc P w base spare held fuel t cs = some x) :
    (cs = [.slice none 0 0] ∧ x = (.nil, [])) ∨
    ∃ (a : Addr) (len cap m : Nat) (D : Nat → DataW H) (Pl : Nat → List MemPlace), cs = [.slice (some a) len cap] ∧ base ≤ a.block ∧ len ≤ cap ∧ cap ≤ maxLen ∧ m = (if spare a.block then cap else len) ∧
      x = (.slice ((List.range len).map D) ((List.range (m - len)).map fun j => D (len + j)), MemPlace.row a (m * fs.size) ++ (List.range m).flatMap Pl) ∧
      ∀ i, i < m → ∃ (ys : List (DataW H × List MemPlace)) (n : Nat), D i = .agg (ys.map (·.1)) ∧ Pl i = ys.flatMap (·.2) ∧ ys.length = fs.size ∧
        ∀ (j : Nat) (f : Field), fs[j]? = some f → ∃ (v : Value) (y : DataW H × List MemPlace), w.cell? (a.add (i * fs.size + j)) = some v ∧ ys[j]? = some y ∧ DataW.trod enc P w base spare held n f.type [v] = some y := by
  rcases open_slice ht h with h0 | ⟨a, len, cap, m, n, D, Pl, hcs, hb, hl, hm, hmm, hx, hi⟩
  · exact .inl h0
  · refine .inr ⟨a, len, cap, m, D, Pl, hcs, hb, hl, hm, hmm, by rw [hC] at hx; exact hx, fun i him => ?_⟩
    obtain ⟨cs', hc, ht'⟩ := hi i him
    rw [hC] at hc
    obtain ⟨ys, n', hn', hy, hlen, hyl, hf⟩ := DataW.trod_struct he ht'
    obtain ⟨_, hcl, hat⟩ := World.cells?_some hc
    simp only [Prod.mk.injEq] at hy
    refine ⟨ys, n', hy.1, hy.2, hyl, fun j f hj => ?_⟩
    obtain ⟨ho, hk⟩ := hone_of hone j f hj
    have hjl : j < fs.size := (Array.getElem?_eq_some_iff.1 hj).1
    have hcell := hat j hjl
    have hv : cs'[j]? = some (cs'[j]'(by omega)) := List.getElem?_eq_getElem (by omega)
    have h1 := hf j f hj
    rw [ho, hk] at h1
    have hone' : (cs'.drop j).take 1 = [cs'[j]'(by omega)] := by
      rw [List.drop_eq_getElem_cons (by omega)]
      rfl
    rw [hone'] at h1
    have hys : ys[j]? = some (ys[j]'(by omega)) := List.getElem?_eq_getElem (by omega)
    refine ⟨_, _, ?_, hys, h1.trans hys⟩
    rw [← Go.Deep.add_add, hcell, hv]
end
/-- An address that holds something is the start of a cell in a block that there is. -/
theorem addr_form {w : World} {a : Addr} {v : Value} (h : w.cell? a = some v) : a = ⟨a.block, a.off, none⟩ ∧ a.block < w.heap.size := by
  refine ⟨?_, World.block_lt_of_cell? w a h⟩
  obtain ⟨b, o, s⟩ := a
  cases s with
  | none => rfl
  | some k =>
    unfold World.cell? at h
    simp only [Option.isSome_some, if_true] at h
    split at h <;> cases h
theorem addr_add (b o k : Nat) : (⟨b, o, none⟩ : Addr).add k = ⟨b, o + k, none⟩ := by
  unfold Addr.add
  split <;> simp_all
/-- A list out of what each place has. -/
theorem list_of {α : Type} (n : Nat) (p : Nat → α → Prop) (h : ∀ i, i < n → ∃ x, p i x) : ∃ l : List α, l.length = n ∧ ∀ (i : Nat) (hi : i < l.length), p i l[i] := by
  induction n with
  | zero => exact ⟨[], rfl, fun i hi => absurd hi (by simp)⟩
  | succ n ih =>
    obtain ⟨l, h1, h2⟩ := ih fun i hi => h i (by omega)
    obtain ⟨x, hx⟩ := h n (by omega)
    refine ⟨l ++ [x], by simp [h1], fun i hi => ?_⟩
    rcases Nat.lt_or_ge i l.length with hl | hl
    · rw [List.getElem_append_left hl]; exact h2 i hl
    · have hi' : i < l.length + 1 := by simpa using hi
      obtain rfl : i = l.length := by omega
      rw [List.getElem_concat_length]
      · rw [h1]; exact hx
      · rfl
theorem bounds_i64 {n : Int} (h : (Lit.int .i64 n).wf = true) : -9223372036854775808 ≤ n ∧ n ≤ 9223372036854775807 := by
  simp [Lit.wf, IntKind.min, IntKind.max, IntKind.signed, IntKind.bits] at h; omega
theorem bounds_u8 {n : Int} (h : (Lit.int .u8 n).wf = true) : 0 ≤ n ∧ n < 256 := by
  simp [Lit.wf, IntKind.min, IntKind.max, IntKind.signed, IntKind.bits] at h; omega
theorem bounds_u16 {n : Int} (h : (Lit.int .u16 n).wf = true) : 0 ≤ n ∧ n < 65536 := by
  simp [Lit.wf, IntKind.min, IntKind.max, IntKind.signed, IntKind.bits] at h; omega
theorem bounds_u32 {n : Int} (h : (Lit.int .u32 n).wf = true) : 0 ≤ n ∧ n < 4294967296 := by
  simp [Lit.wf, IntKind.min, IntKind.max, IntKind.signed, IntKind.bits] at h; omega
theorem bounds_u64 {n : Int} (h : (Lit.int .u64 n).wf = true) : 0 ≤ n ∧ n ≤ 18446744073709551615 := by
  simp [Lit.wf, IntKind.min, IntKind.max, IntKind.signed, IntKind.bits] at h; omega
theorem Tryd.laidOut : laidOutB Tryd.prog = true := by kernel_rfl
theorem Tryd.own : ownKnob Tryd.prog.godebug = none := by kernel_rfl
end Go.Proofs.YtlanconcbpdneaaDoor
/- The plain law of numbers as bytes (layer 1): what Put writes and what Get reads. No condition; no program. -/
namespace Go.Proofs.YtlanconcbpdneaaDoor
open Go.RowKit

/-- The bytes of a number, with so many steps at most. -/
def putF : Nat → Nat → List UInt8
  | 0, n => [UInt8.ofNat n]
  | f + 1, n => if n < 128 then [UInt8.ofNat n] else UInt8.ofNat (128 + n % 128) :: putF f (n / 128)
/-- The bytes of a number of 64 bits. -/
def put (n : Nat) : List UInt8 := putF 9 n

theorem putF_small (f n : Nat) (h : n < 128) : putF f n = [UInt8.ofNat n] := by cases f <;> simp [putF, h]
theorem putF_big (f n : Nat) (h : 128 ≤ n) : putF (f + 1) n = UInt8.ofNat (128 + n % 128) :: putF f (n / 128) := by rw [putF, if_neg (by omega)]
theorem putF_length (f n : Nat) : (putF f n).length ≤ f + 1 := by
  induction f generalizing n with
  | zero => simp [putF]
  | succ f ih =>
    rw [putF]
    split
    · simp
    · simp only [List.length_cons]; have := ih (n / 128); omega
theorem put_length (n : Nat) : (put n).length ≤ 10 := putF_length 9 n
theorem putF_pos (f n : Nat) : 0 < (putF f n).length := by
  cases f with
  | zero => simp [putF]
  | succ f => rw [putF]; split <;> simp

/-- What a round of Put keeps: so many steps may still be wanted. -/
def Fits (f k : Nat) : Prop := k < 2 ^ (7 * f + 1)
theorem Fits.of64 {n : Nat} (h : n ≤ 18446744073709551615) : Fits 9 n := by unfold Fits; omega
theorem Fits.le {f n : Nat} (h : Fits f n) (hf : f ≤ 9) : n ≤ 18446744073709551615 := by
  have h1 : n < 2 ^ (7 * f + 1) := h
  have h2 : 2 ^ (7 * f + 1) ≤ 2 ^ 64 := Nat.pow_le_pow_right (by omega) (by omega)
  omega
theorem Fits.zero {k : Nat} (h : Fits 0 k) : k < 128 := by unfold Fits at h; omega
theorem Fits.next {f k : Nat} (h : Fits (f + 1) k) : Fits f (k / 128) := by
  unfold Fits at h ⊢
  rw [show 7 * (f + 1) + 1 = (7 * f + 1) + 7 from by omega, Nat.pow_add] at h
  exact Nat.div_lt_of_lt_mul (by rw [Nat.mul_comm]; exact h)
theorem Fits.pos {f k : Nat} (h : Fits f k) (hk : 128 ≤ k) : ∃ g, f = g + 1 := by
  cases f with
  | zero => have := h.zero; omega
  | succ g => exact ⟨g, rfl⟩

/-- How many bytes of 128 and more a text begins with. -/
def lead : List UInt8 → Nat
  | [] => 0
  | c :: r => if 128 ≤ c.toNat then lead r + 1 else 0
/-- The number whose bytes these are, seven bits each, the least first. -/
def val7 : List UInt8 → Nat
  | [] => 0
  | c :: r => c.toNat % 128 + 128 * val7 r
/-- The number that a text begins with, and how many bytes it has. -/
def get (l : List UInt8) : Option (Nat × Nat) :=
  if lead l < l.length ∧ lead l < 10 ∧ ¬ (lead l = 9 ∧ 1 < (l.getD 9 0).toNat) ∧ ¬ (0 < lead l ∧ l.getD (lead l) 0 = 0) then some (val7 (l.take (lead l + 1)), lead l + 1) else none

theorem lead_le : ∀ l : List UInt8, lead l ≤ l.length
  | [] => Nat.le_refl _
  | c :: r => by
    rw [lead]
    split
    · have := lead_le r; simp only [List.length_cons]; omega
    · omega
theorem lead_big : ∀ (l : List UInt8) (i : Nat) (h : i < l.length), i < lead l → 128 ≤ (l[i]).toNat
  | [], i, h, _ => by simp at h
  | c :: r, 0, _, hi => by
    rw [lead] at hi
    split at hi
    · simpa
    · omega
  | c :: r, i + 1, h, hi => by
    rw [lead] at hi
    split at hi
    · have := lead_big r i (by simpa using h) (by omega)
      simpa
    · omega
theorem lead_small : ∀ (l : List UInt8) (h : lead l < l.length), (l[lead l]).toNat < 128
  | [], h => by simp at h
  | c :: r, h => by
    by_cases hc : 128 ≤ c.toNat
    · have e : lead (c :: r) = lead r + 1 := by rw [lead, if_pos hc]
      have := lead_small r (by rw [e] at h; simpa using h)
      simp only [e, List.getElem_cons_succ]
      exact this
    · have e : lead (c :: r) = 0 := by rw [lead, if_neg hc]
      simp only [e, List.getElem_cons_zero]
      omega
theorem lead_next {l : List UInt8} {e : Nat} (he : e ≤ lead l) (h : e < l.length) (hc : 128 ≤ (l[e]).toNat) : e + 1 ≤ lead l := by
  rcases Nat.lt_or_ge e (lead l) with hlt | hge
  · exact hlt
  · have : e = lead l := by omega
    subst this
    have := lead_small l h
    omega
theorem lead_here {l : List UInt8} {e : Nat} (he : e ≤ lead l) (h : e < l.length) (hc : (l[e]).toNat < 128) : lead l = e := by
  rcases Nat.lt_or_ge e (lead l) with hlt | hge
  · have := lead_big l e h hlt
    omega
  · omega

theorem val7_append (a b : List UInt8) : val7 (a ++ b) = val7 a + 128 ^ a.length * val7 b := by
  induction a with
  | nil => simp [val7]
  | cons c r ih =>
    simp only [List.cons_append, val7, ih, List.length_cons, Nat.pow_succ]
    rw [Nat.mul_add, Nat.mul_comm (128 ^ r.length) 128, Nat.mul_assoc]
    omega
theorem val7_take_succ (l : List UInt8) (i : Nat) (h : i < l.length) : val7 (l.take (i + 1)) = val7 (l.take i) + 128 ^ i * ((l[i]).toNat % 128) := by
  rw [List.take_succ_eq_append_getElem h, val7_append, List.length_take, Nat.min_eq_left (by omega)]
  simp [val7]
theorem val7_drop (l : List UInt8) (i : Nat) (h : i < l.length) : val7 (l.drop i) = (l[i]).toNat % 128 + 128 * val7 (l.drop (i + 1)) := by
  rw [List.drop_eq_getElem_cons h, val7]
theorem val7_lt (l : List UInt8) : val7 l < 128 ^ l.length := by
  induction l with
  | nil => simp [val7]
  | cons c r ih =>
    simp only [val7, List.length_cons, Nat.pow_succ]
    omega

theorem val7_drop_le (l : List UInt8) (i : Nat) : val7 (l.drop i) ≤ val7 l := by
  induction i generalizing l with
  | zero => simp
  | succ i ih =>
    cases l with
    | nil => simp
    | cons c r =>
      simp only [List.drop_succ_cons, val7]
      have := ih r
      omega

theorem getD_lt {l : List UInt8} {i : Nat} (h : i < l.length) : l.getD i 0 = l[i] := by simp [List.getD, List.getElem?_eq_getElem h]
theorem get_end {l : List UInt8} (h : l.length ≤ lead l) : get l = none := by
  rw [get, if_neg]; omega
theorem get_ten {l : List UInt8} (h : 10 ≤ lead l) : get l = none := by
  rw [get, if_neg]; omega
theorem get_nine {l : List UInt8} (h9 : 9 < l.length) (h : lead l = 9) (hc : 1 < (l[9]).toNat) : get l = none := by
  rw [get, if_neg]
  intro hh
  refine hh.2.2.1 ⟨h, ?_⟩
  rw [getD_lt h9]
  exact hc
theorem get_zero {l : List UInt8} {e : Nat} (he : e < l.length) (h : lead l = e) (h0 : 0 < e) (hc : (l[e]).toNat = 0) : get l = none := by
  rw [get, if_neg]
  subst h
  intro hh
  refine hh.2.2.2 ⟨h0, ?_⟩
  rw [getD_lt he]
  exact UInt8.toNat_inj.1 (by simpa using hc)
theorem get_yes {l : List UInt8} {e : Nat} (he : e < l.length) (h : lead l = e) (ht : e < 10) (h9 : e = 9 → (l[e]).toNat ≤ 1) (h0 : 0 < e → (l[e]).toNat ≠ 0) : get l = some (val7 (l.take (e + 1)), e + 1) := by
  subst h
  rw [get, if_pos]
  refine ⟨he, ht, ?_, ?_⟩
  · rintro ⟨h1, h2⟩
    rw [getD_lt (by omega)] at h2
    have := h9 h1
    simp only [h1] at this
    omega
  · rintro ⟨h1, h2⟩
    rw [getD_lt he] at h2
    exact h0 h1 (by rw [h2]; rfl)
theorem get_fits {l : List UInt8} {e : Nat} (he : e < l.length) (h : lead l = e) (ht : e < 10) (h9 : e = 9 → (l[e]).toNat ≤ 1) : val7 (l.take (e + 1)) ≤ 18446744073709551615 := by
  rcases Nat.lt_or_ge e 9 with h8 | h8
  · have h1 := val7_lt (l.take (e + 1))
    have h2 : 128 ^ (l.take (e + 1)).length ≤ 128 ^ 9 := Nat.pow_le_pow_right (by omega) (by rw [List.length_take]; omega)
    omega
  · obtain rfl : e = 9 := by omega
    rw [val7_take_succ l 9 he]
    have h1 := val7_lt (l.take 9)
    have h2 : 128 ^ (l.take 9).length ≤ 128 ^ 9 := Nat.pow_le_pow_right (by omega) (by rw [List.length_take]; omega)
    have h3 := h9 rfl
    have h4 : (l[9]).toNat % 128 ≤ 1 := by omega
    have h5 : 128 ^ 9 * ((l[9]).toNat % 128) ≤ 128 ^ 9 * 1 := Nat.mul_le_mul_left _ h4
    omega
/-- What the reference's second loop reckons, step by step. -/
theorem get_seq {l : List UInt8} {e : Nat} (he : e < l.length) (h : lead l = e) (ht : e < 10) (h9 : e = 9 → (l[e]).toNat ≤ 1) (h0 : 0 < e → (l[e]).toNat ≠ 0) :
    ∃ V : Nat → Nat, get l = some (V 0, e + 1) ∧ V (e + 1) = 0 ∧ (∀ m (hm : m < l.length), m ≤ e → V m = (l[m]).toNat % 128 + 128 * V (m + 1)) ∧ ∀ m, V m ≤ 18446744073709551615 := by
  have hlt : (l.take (e + 1)).length = e + 1 := by rw [List.length_take]; omega
  refine ⟨fun m => val7 ((l.take (e + 1)).drop m), by simpa using get_yes he h ht h9 h0, ?_, ?_, ?_⟩
  · simp only
    rw [List.drop_of_length_le (by omega)]
    rfl
  · intro m hm hme
    simp only
    rw [val7_drop _ m (by omega)]
    simp
  · intro m
    exact Nat.le_trans (val7_drop_le _ m) (get_fits he h ht h9)
end Go.Proofs.YtlanconcbpdneaaDoor
/- Texts. No condition; no program. -/
namespace Go.Proofs.YtlanconcbpdneaaDoor
abbrev Txt := List UInt8
end Go.Proofs.YtlanconcbpdneaaDoor
/- The plain law of layer 5 (lz): what a packed text is unpacked to, step by step. No condition; no program. -/
namespace Go.Proofs.YtlanconcbpdneaaDoor
open Go.RowKit

theorem get_bounds {l : List UInt8} {n k : Nat} (h : get l = some (n, k)) : n ≤ 18446744073709551615 ∧ 0 < k ∧ k ≤ l.length := by
  unfold get at h
  split at h
  · rename_i hc
    simp only [Option.some.injEq, Prod.mk.injEq] at h
    obtain ⟨rfl, rfl⟩ := h
    refine ⟨get_fits hc.1 rfl hc.2.1 ?_, by omega, by omega⟩
    intro h9
    have := hc.2.2.1
    have h1 : ¬ 1 < (l.getD 9 0).toNat := fun hh => this ⟨h9, hh⟩
    rw [← h9, getD_lt hc.1] at h1
    omega
  · cases h

/-- One step: how many bytes, from how far back (0: as they stand), and what stands behind its numbers. -/
def rd (l : List UInt8) (hv : Nat) : Option (Nat × Nat × List UInt8) :=
  match get l with
  | none => none
  | some (n, k) =>
    if n % 2 = 0 then (if n = 0 ∨ (l.drop k).length < n / 2 then none else some (n / 2, 0, l.drop k))
    else match get (l.drop k) with
      | none => none
      | some (f, m) => if n / 2 < 4 ∨ f < 1 ∨ 65535 < f ∨ hv < f then none else some (n / 2, f, (l.drop k).drop m)

section
variable {l : List UInt8} {hv n k f m : Nat}
theorem rd_none (h : get l = none) : rd l hv = none := by simp [rd, h]
theorem rd_plain_bad (h : get l = some (n, k)) (h2 : n % 2 = 0) (h3 : n = 0 ∨ (l.drop k).length < n / 2) : rd l hv = none := by
  simp only [rd, h]; rw [if_pos h2, if_pos h3]
theorem rd_plain (h : get l = some (n, k)) (h2 : n % 2 = 0) (h3 : n ≠ 0) (h4 : n / 2 ≤ (l.drop k).length) : rd l hv = some (n / 2, 0, l.drop k) := by
  simp only [rd, h]; rw [if_pos h2, if_neg (by omega)]
theorem rd_far_none (h : get l = some (n, k)) (h2 : n % 2 = 1) (h3 : get (l.drop k) = none) : rd l hv = none := by
  simp only [rd, h, h3]; rw [if_neg (by omega)]
theorem rd_far_bad (h : get l = some (n, k)) (h2 : n % 2 = 1) (h3 : get (l.drop k) = some (f, m)) (h4 : n / 2 < 4 ∨ f < 1 ∨ 65535 < f ∨ hv < f) : rd l hv = none := by
  simp only [rd, h, h3]; rw [if_neg (by omega), if_pos h4]
theorem rd_far (h : get l = some (n, k)) (h2 : n % 2 = 1) (h3 : get (l.drop k) = some (f, m)) (h4 : 4 ≤ n / 2) (h5 : 1 ≤ f) (h6 : f ≤ 65535) (h7 : f ≤ hv) : rd l hv = some (n / 2, f, (l.drop k).drop m) := by
  simp only [rd, h, h3]; rw [if_neg (by omega), if_neg (by omega)]
end

theorem take_drop_succ {l : List UInt8} {a j : Nat} (h : a + j < l.length) : (l.drop a).take (j + 1) = (l.drop a).take j ++ [l[a + j]] := by
  rw [List.take_succ_eq_append_getElem (by rw [List.length_drop]; omega), List.getElem_drop]
/-- So many bytes, each the one so far back. -/
def back : Nat → Nat → List UInt8 → List UInt8
  | 0, _, out => out
  | n + 1, f, out => back n f (out ++ [out.getD (out.length - f) 0])
theorem back_length (n f : Nat) (out : List UInt8) : (back n f out).length = out.length + n := by
  induction n generalizing out with
  | zero => rfl
  | succ n ih => rw [back, ih, List.length_append, List.length_singleton]; omega

theorem back_step {j n f : Nat} {o : List UInt8} {x : UInt8} (h : j < n) (hi : o.length - f < o.length) (hx : o[o.length - f] = x) : back (n - j) f o = back (n - (j + 1)) f (o ++ [x]) := by
  rw [show n - j = (n - (j + 1)) + 1 from by omega, back, getD_lt hi, hx]

/-- The steps, behind what is unpacked already. -/
def unF : Nat → List UInt8 → List UInt8 → Nat → List UInt8 × Nat
  | 0, _, out, _ => (out, 0)
  | fu + 1, s, out, most =>
    if s = [] then (out, 0) else
    match rd s out.length with
    | none => ([], 2)
    | some (n, f, r) => if most - out.length < n then ([], 3) else if f = 0 then unF fu (r.drop n) (out ++ r.take n) most else unF fu r (back n f out) most
/-- What a text is unpacked to, and the error's number. -/
def unp (l : List UInt8) (most : Int) : List UInt8 × Nat :=
  if most < 0 then ([], 1) else
  match l with
  | [] => ([], 2)
  | c :: r => if 1 < c.toNat then ([], 2) else if c.toNat = 0 then (if most < r.length then ([], 3) else (r, 0)) else unF r.length r [] most.toNat

theorem unF_nil (fu : Nat) (out : List UInt8) (most : Nat) : unF fu [] out most = (out, 0) := by cases fu <;> simp [unF]
section
variable {fu most n f : Nat} {s out r : List UInt8}
theorem unF_bad (hs : s ≠ []) (h : rd s out.length = none) : unF (fu + 1) s out most = ([], 2) := by
  rw [unF, if_neg hs]; simp only [h]
theorem unF_big (hs : s ≠ []) (h : rd s out.length = some (n, f, r)) (hb : most - out.length < n) : unF (fu + 1) s out most = ([], 3) := by
  rw [unF, if_neg hs]; simp only [h]; rw [if_pos hb]
theorem unF_plain (hs : s ≠ []) (h : rd s out.length = some (n, 0, r)) (hb : n ≤ most - out.length) : unF (fu + 1) s out most = unF fu (r.drop n) (out ++ r.take n) most := by
  rw [unF, if_neg hs]; simp only [h]; rw [if_neg (by omega), if_pos trivial]
theorem unF_far (hs : s ≠ []) (h : rd s out.length = some (n, f, r)) (hf : f ≠ 0) (hb : n ≤ most - out.length) : unF (fu + 1) s out most = unF fu r (back n f out) most := by
  rw [unF, if_neg hs]; simp only [h]; rw [if_neg (by omega), if_neg hf]
end
/-- What a step has. -/
theorem rd_bounds {l : List UInt8} {hv n f : Nat} {r : List UInt8} (h : rd l hv = some (n, f, r)) : n ≤ 9223372036854775807 ∧ r.length < l.length ∧ 0 < n ∧ f ≤ 65535 ∧ (f = 0 → n ≤ r.length) ∧ (f ≠ 0 → f ≤ hv) := by
  unfold rd at h
  split at h
  · cases h
  · rename_i n0 k hg
    obtain ⟨h1, h2, h3⟩ := get_bounds hg
    have hd : (l.drop k).length = l.length - k := List.length_drop
    split at h
    · split at h
      · cases h
      · simp only [Option.some.injEq, Prod.mk.injEq] at h
        obtain ⟨rfl, rfl, rfl⟩ := h
        exact ⟨by omega, by omega, by omega, by omega, fun _ => by omega, fun h => by omega⟩
    · split at h
      · cases h
      · rename_i f0 m hg2
        obtain ⟨h4, h5, h6⟩ := get_bounds hg2
        have hd2 : ((l.drop k).drop m).length = (l.drop k).length - m := List.length_drop
        split at h
        · cases h
        · simp only [Option.some.injEq, Prod.mk.injEq] at h
          obtain ⟨rfl, rfl, rfl⟩ := h
          exact ⟨by omega, by omega, by omega, by omega, fun h => by omega, fun _ => by omega⟩
theorem unp_neg {l : List UInt8} {most : Int} (h : most < 0) : unp l most = ([], 1) := by rw [unp.eq_def, if_pos h]
theorem unp_nil {most : Int} (h : 0 ≤ most) : unp [] most = ([], 2) := by rw [unp.eq_def, if_neg (by omega)]
section
variable {c : UInt8} {r : List UInt8} {most : Int}
theorem unp_way (h : 0 ≤ most) (hc : 1 < c.toNat) : unp (c :: r) most = ([], 2) := by rw [unp.eq_def, if_neg (by omega)]; simp only; rw [if_pos hc]
theorem unp_stored_big (h : 0 ≤ most) (hc : c.toNat = 0) (hb : most < r.length) : unp (c :: r) most = ([], 3) := by rw [unp.eq_def, if_neg (by omega)]; simp only; rw [if_neg (by omega), if_pos hc, if_pos hb]
theorem unp_stored (h : 0 ≤ most) (hc : c.toNat = 0) (hb : (r.length : Int) ≤ most) : unp (c :: r) most = (r, 0) := by rw [unp.eq_def, if_neg (by omega)]; simp only; rw [if_neg (by omega), if_pos hc, if_neg (by omega)]
theorem unp_steps (h : 0 ≤ most) (hc : c.toNat = 1) : unp (c :: r) most = unF r.length r [] most.toNat := by rw [unp.eq_def, if_neg (by omega)]; simp only; rw [if_neg (by omega), if_neg (by omega)]
end
end Go.Proofs.YtlanconcbpdneaaDoor
/- A text that bytes begin with: the plain law. No condition; no program. -/
namespace Go.Proofs.YtlanconcbpdneaaDoor
open Go.RowKit

def textE (s : Txt) : Txt := put s.length ++ s
/-- The text that bytes begin with, and what is behind. -/
def takeP (s : Txt) : Option (Txt × Txt) := match get s with | none => none | some (n, k) => if n ≤ (s.drop k).length then some ((s.drop k).take n, (s.drop k).drop n) else none
theorem takeP_none {s : Txt} (h : get s = none) : takeP s = none := by unfold takeP; rw [h]
theorem takeP_short {s : Txt} {n k : Nat} (h : get s = some (n, k)) (hl : (s.drop k).length < n) : takeP s = none := by unfold takeP; rw [h]; simp only; rw [if_neg (by omega)]
theorem takeP_yes {s : Txt} {n k : Nat} (h : get s = some (n, k)) (hl : n ≤ (s.drop k).length) : takeP s = some ((s.drop k).take n, (s.drop k).drop n) := by unfold takeP; rw [h]; simp only; rw [if_pos hl]
/-- A number, and how many bytes; 0, 0: there is none. -/
def getN (s : Txt) : Nat × Nat := (get s).getD (0, 0)
/-- A text, and how many bytes there are in all; 0: there is none. -/
def takeN (s : Txt) : Txt × Nat := if (getN s).2 = 0 ∨ s.length - (getN s).2 < (getN s).1 then ([], 0) else ((s.drop (getN s).2).take (getN s).1, (getN s).2 + (getN s).1)
theorem takeN_zero {s : Txt} (h : (getN s).2 = 0) : takeN s = ([], 0) := by unfold takeN; rw [if_pos (.inl h)]
theorem takeN_short {s : Txt} (_ : ¬ (getN s).2 = 0) (h2 : s.length - (getN s).2 < (getN s).1) : takeN s = ([], 0) := by unfold takeN; rw [if_pos (.inr h2)]
theorem takeN_yes {s : Txt} (h : ¬ (getN s).2 = 0) (h2 : (getN s).1 ≤ s.length - (getN s).2) : takeN s = ((s.drop (getN s).2).take (getN s).1, (getN s).2 + (getN s).1) := by
  unfold takeN
  rw [if_neg]
  rintro (h3 | h3)
  · exact h h3
  · omega
theorem getN_le (s : Txt) : (getN s).2 ≤ s.length := by
  unfold getN
  cases h : get s with
  | none => simp
  | some p => obtain ⟨n, k⟩ := p; exact (get_bounds h).2.2
theorem getN_num (s : Txt) : (getN s).1 ≤ 18446744073709551615 := by
  unfold getN
  cases h : get s with
  | none => simp
  | some p => obtain ⟨n, k⟩ := p; exact (get_bounds h).1
end Go.Proofs.YtlanconcbpdneaaDoor
/- Layer 4 (object): the plain law. No condition; no program. -/
namespace Go.Proofs.YtlanconcbpdneaaDoor
open Go.RowKit
structure EntL where
  name : Txt
  kind : Int
  id : Txt
structure ObjL where
  kind : Int
  data : Txt
  ents : List EntL
  tree : Txt
  pars : List Txt
  time : Nat
  text : Txt
  target : Txt
  of_ : Int
  name : Txt
structure LinkL where
  id : Txt
  kind : Int
def noId : Txt := List.replicate 32 0
def nameB (s : Txt) : Bool := decide (1 ≤ s.length) && decide (s.length ≤ 40) && s.all (fun c => !(c == 0) && !(c == 47))
def kindB (n : Int) : Bool := decide (1 ≤ n) && decide (n ≤ 4)
def entB (e : EntL) : Bool := nameB e.name && (e.kind == 1 || e.kind == 2)
def entAt (l : List EntL) (i : Nat) : Bool := match l[i]? with | none => true | some e => entB e && (match i with | 0 => true | k + 1 => match l[k]? with | none => true | some p => Op.bytesLess p.name e.name)
def entsB (l : List EntL) : Bool := (List.range l.length).all (entAt l) && decide (l.length ≤ 64)
def blobN (o : ObjL) : Bool := o.data.isEmpty
def treeN (o : ObjL) : Bool := o.ents.length == 0
def commitN (o : ObjL) : Bool := decide (o.tree = noId) && o.pars.length == 0 && o.time == 0 && o.text.isEmpty
def tagN (o : ObjL) : Bool := decide (o.target = noId) && o.of_ == 0 && o.name.isEmpty
def aloneB (o : ObjL) : Bool := if o.kind = 1 then treeN o && commitN o && tagN o else if o.kind = 2 then blobN o && commitN o && tagN o else if o.kind = 3 then blobN o && treeN o && tagN o else blobN o && treeN o && commitN o
def mayB (o : ObjL) : Bool := if o.kind = 2 then aloneB o && entsB o.ents else if o.kind = 3 then aloneB o && decide (o.pars.length ≤ 8) else if o.kind = 4 then aloneB o && kindB o.of_ && nameB o.name else o.kind == 1 && aloneB o
def byteK (n : Int) : UInt8 := UInt8.ofNat (n % 256).toNat
def entE (e : EntL) : Txt := byteK e.kind :: (textE e.name ++ e.id)
def entsE (l : List EntL) : Txt := (l.map entE).flatten
def commitE (o : ObjL) : Txt := o.tree ++ put o.pars.length ++ o.pars.flatten ++ put o.time ++ textE o.text
def tagE (o : ObjL) : Txt := byteK o.of_ :: (o.target ++ textE o.name)
/-- Ours. -/
def bodyO (o : ObjL) : Txt := if o.kind = 1 then o.data else if o.kind = 2 then entsE o.ents else if o.kind = 3 then commitE o else if o.kind = 4 then tagE o else []
/-- The document's. -/
def bodyR (o : ObjL) : Txt := o.data ++ entsE o.ents ++ (if o.kind = 3 then commitE o else if o.kind = 4 then tagE o else [])
def wholeO (o : ObjL) : Txt := byteK o.kind :: textE (bodyO o)
def encO (o : ObjL) : Option Txt := if mayB o = true ∧ (wholeO o).length ≤ 4096 then some (wholeO o) else none
theorem may_kind {o : ObjL} (h : mayB o = true) : o.kind = 1 ∨ o.kind = 2 ∨ o.kind = 3 ∨ o.kind = 4 := by
  unfold mayB at h
  split at h
  · exact .inr (.inl ‹_›)
  · split at h
    · exact .inr (.inr (.inl ‹_›))
    · split at h
      · exact .inr (.inr (.inr ‹_›))
      · simp at h; exact .inl h.1
theorem may_alone {o : ObjL} (h : mayB o = true) : aloneB o = true := by
  unfold mayB at h
  split at h
  · simp at h; exact h.1
  · split at h
    · simp at h; exact h.1
    · split at h
      · simp at h; exact h.1.1
      · simp at h; exact h.2
theorem blob_nil {o : ObjL} (h : blobN o = true) : o.data = [] := by unfold blobN at h; exact List.isEmpty_iff.1 h
theorem tree_nil {o : ObjL} (h : treeN o = true) : o.ents = [] := by unfold treeN at h; simpa using h
theorem commit_nil {o : ObjL} (h : commitN o = true) : o.text = [] := by unfold commitN at h; simp at h; exact h.2
theorem entsE_nil : entsE [] = [] := rfl
theorem body_same {o : ObjL} (h : mayB o = true) : bodyR o = bodyO o := by
  have ha := may_alone h
  unfold aloneB at ha
  unfold bodyR bodyO
  rcases may_kind h with hk | hk | hk | hk
  · rw [hk] at ha ⊢
    simp at ha
    rw [tree_nil ha.1.1]
    simp [entsE_nil]
  · rw [hk] at ha ⊢
    simp at ha
    rw [blob_nil ha.1.1]
    simp
  · rw [hk] at ha ⊢
    simp at ha
    rw [blob_nil ha.1.1, tree_nil ha.1.2]
    simp [entsE_nil]
  · rw [hk] at ha ⊢
    simp at ha
    rw [blob_nil ha.1.1, tree_nil ha.1.2]
    simp [entsE_nil]
theorem enc_data {o : ObjL} (h : 4096 < o.data.length) : encO o = none := by
  unfold encO
  rw [if_neg]
  rintro ⟨hm, hl⟩
  have hb := body_same hm
  have hw : (wholeO o).length ≥ (bodyO o).length := by unfold wholeO textE; simp; omega
  have : o.data.length ≤ (bodyR o).length := by unfold bodyR; simp only [List.length_append]; omega
  rw [hb] at this
  omega
theorem enc_text {o : ObjL} (h : 4096 < o.text.length) : encO o = none := by
  unfold encO
  rw [if_neg]
  rintro ⟨hm, hl⟩
  have hw : (wholeO o).length ≥ (bodyO o).length := by unfold wholeO textE; simp; omega
  have ha := may_alone hm
  unfold aloneB at ha
  have hn : commitN o = true → False := fun hc => by rw [commit_nil hc] at h; simp at h
  rcases may_kind hm with hk | hk | hk | hk
  · rw [hk] at ha; simp at ha; exact hn ha.1.2
  · rw [hk] at ha; simp at ha; exact hn ha.1.2
  · have : o.text.length ≤ (bodyO o).length := by unfold bodyO; rw [hk]; simp [commitE, textE]; omega
    omega
  · rw [hk] at ha; simp at ha; exact hn ha.2
def linksL (o : ObjL) : List LinkL := if o.kind = 2 then o.ents.map (fun e => ⟨e.id, e.kind⟩) else if o.kind = 3 then ⟨o.tree, 2⟩ :: o.pars.map (fun p => ⟨p, 3⟩) else if o.kind = 4 then [⟨o.target, o.of_⟩] else []
theorem entsE_snoc (l : List EntL) (e : EntL) : entsE (l ++ [e]) = entsE l ++ entE e := by simp [entsE]
theorem take_snoc {α : Type} {l : List α} {k : Nat} {x : α} (h : l[k]? = some x) : l.take (k + 1) = l.take k ++ [x] := by rw [List.take_add_one, h]; rfl
theorem entsE_take {l : List EntL} {k : Nat} {e : EntL} (h : l[k]? = some e) : entsE (l.take (k + 1)) = entsE (l.take k) ++ entE e := by rw [take_snoc h, entsE_snoc]
theorem flat_take {l : List Txt} {k : Nat} {x : Txt} (h : l[k]? = some x) : (l.take (k + 1)).flatten = (l.take k).flatten ++ x := by rw [take_snoc h]; simp
theorem name_len {s : Txt} (h : nameB s = true) : s.length ≤ 40 := by unfold nameB at h; simp at h; exact h.1.2
theorem ents_fine {l : List EntL} (h : entsB l = true) : l.length ≤ 64 ∧ ∀ e ∈ l, nameB e.name = true ∧ (e.kind = 1 ∨ e.kind = 2) := by
  unfold entsB at h
  rw [Bool.and_eq_true, List.all_eq_true] at h
  refine ⟨of_decide_eq_true h.2, fun e he => ?_⟩
  obtain ⟨i, hi, rfl⟩ := List.getElem_of_mem he
  have h1 := h.1 i (by simpa using hi)
  unfold entAt at h1
  rw [List.getElem?_eq_getElem hi] at h1
  simp only [Bool.and_eq_true] at h1
  have h2 := h1.1
  unfold entB at h2
  simp at h2
  exact h2
theorem entE_len {e : EntL} (h : e.name.length ≤ 40) (hi : e.id.length = 32) : (entE e).length ≤ 90 := by
  have := put_length e.name.length
  unfold entE textE
  simp only [List.length_cons, List.length_append]
  omega
theorem entsE_len {l : List EntL} (h : ∀ e ∈ l, e.name.length ≤ 40 ∧ e.id.length = 32) : (entsE l).length ≤ 90 * l.length := by
  induction l with
  | nil => simp [entsE]
  | cons e l ih =>
    have h1 := entE_len (h e (by simp)).1 (h e (by simp)).2
    have h2 := ih fun e he => h e (by simp [he])
    have : entsE (e :: l) = entE e ++ entsE l := by simp [entsE]
    rw [this]
    simp only [List.length_append, List.length_cons]
    omega
theorem flat_len {l : List Txt} (h : ∀ x ∈ l, x.length = 32) : l.flatten.length = 32 * l.length := by
  induction l with
  | nil => rfl
  | cons x l ih =>
    have h1 := h x (by simp)
    have h2 := ih fun x hx => h x (by simp [hx])
    simp only [List.flatten_cons, List.length_append, List.length_cons]
    omega
end Go.Proofs.YtlanconcbpdneaaDoor
/- Layer 4: what a reader reads: the plain law. No condition; no program. -/
namespace Go.Proofs.YtlanconcbpdneaaDoor
open Go.RowKit
/-- A reader: what is left, and whether something lacked. -/
abbrev Rd := Txt × Bool
def rBytes (n : Nat) (r : Rd) : Txt × Rd := if r.2 = true ∨ r.1.length < n then ([], (r.1, true)) else (r.1.take n, (r.1.drop n, false))
def rNum (r : Rd) : Nat × Rd := if r.2 = true then (0, (r.1, true)) else match get r.1 with | none => (0, (r.1, true)) | some (n, k) => (n, (r.1.drop k, false))
def rText (r : Rd) : Txt × Rd := if r.2 = true then ([], (r.1, true)) else match takeP r.1 with | none => ([], (r.1, true)) | some (t, q) => (t, (q, false))
def idOr (b : Txt) : Txt := if b = [] then noId else b
def rId (r : Rd) : Txt × Rd := (idOr (rBytes 32 r).1, (rBytes 32 r).2)
def rKind (r : Rd) : Nat × Rd := (if (rBytes 1 r).2.2 = true then 0 else ((rBytes 1 r).1.headD 0).toNat, (rBytes 1 r).2)
def rEnt (r : Rd) : EntL × Rd := (⟨(rText (rKind r).2).1, (rKind r).1, (rId (rText (rKind r).2).2).1⟩, (rId (rText (rKind r).2).2).2)
def rTree : Nat → Rd → List EntL → List EntL × Rd
  | 0, r, acc => (acc, r)
  | f + 1, r, acc => if r.2 = true ∨ r.1 = [] then (acc, r) else rTree f (rEnt r).2 (acc ++ [(rEnt r).1])
def rPars : Nat → Rd → List Txt → List Txt × Rd
  | 0, r, acc => (acc, r)
  | n + 1, r, acc => if r.2 = true then (acc, r) else rPars n (rId r).2 (acc ++ [(rId r).1])
def nObj (k : Nat) : ObjL := ⟨k, [], [], noId, [], 0, [], noId, 0, []⟩
def badIf (b : Bool) (r : Rd) : Rd := if b = true then (r.1, true) else r
def rCommit (k : Nat) (r : Rd) : ObjL × Rd :=
  let i := rId r
  let n := rNum i.2
  let p := rPars n.1 (badIf (decide (8 < n.1)) n.2) []
  let t := rNum p.2
  let x := rText (badIf (decide (4294967295 < t.1)) t.2)
  (⟨k, [], [], i.1, p.1, t.1 % 4294967296, x.1, noId, 0, []⟩, x.2)
def rTag (k : Nat) (r : Rd) : ObjL × Rd :=
  let f := rKind r
  let i := rId f.2
  let x := rText i.2
  (⟨k, [], [], noId, [], 0, [], i.1, f.1, x.1⟩, x.2)
def rBlob (k : Nat) (r : Rd) : ObjL × Rd := (⟨k, (rBytes r.1.length r).1, [], noId, [], 0, [], noId, 0, []⟩, (rBytes r.1.length r).2)
def rTr (k : Nat) (r : Rd) : ObjL × Rd := (⟨k, [], (rTree r.1.length r []).1, noId, [], 0, [], noId, 0, []⟩, (rTree r.1.length r []).2)
def readO (k : Nat) (r : Rd) : ObjL × Rd := if k = 2 then rTr k r else if k = 3 then rCommit k r else if k = 4 then rTag k r else rBlob k r
/-- The object of an encoding. -/
def decO (s : Txt) : Option ObjL := match s with
  | [] => none
  | c :: q => if 4096 < (c :: q).length then none else match takeP q with
    | none => none
    | some (t, b) => if b ≠ [] then none else if (readO c.toNat (t, false)).2.2 = true ∨ (readO c.toNat (t, false)).2.1 ≠ [] ∨ mayB (readO c.toNat (t, false)).1 = false then none else some (readO c.toNat (t, false)).1
end Go.Proofs.YtlanconcbpdneaaDoor
/- The plain law of packing (layer 5): numbers are read as they were written; a text of steps is unpacked to what its steps say. No condition; no program. -/
namespace Go.Proofs.YtlanconcbpdneaaDoor
open Go.RowKit

theorem ofNat_toNat (n : Nat) (h : n < 256) : (UInt8.ofNat n).toNat = n := by simp [Nat.mod_eq_of_lt h]
theorem lead_split : ∀ (i : List UInt8) (c : UInt8) (r : List UInt8), (∀ x ∈ i, 128 ≤ x.toNat) → c.toNat < 128 → lead (i ++ c :: r) = i.length
  | [], c, r, _, hc => by rw [List.nil_append, lead, if_neg (by omega)]; rfl
  | x :: i, c, r, hi, hc => by
    rw [List.cons_append, lead, if_pos (hi x (by simp)), lead_split i c r (fun y hy => hi y (by simp [hy])) hc]
    rfl
theorem putF_split (f : Nat) : ∀ n, Fits f n → ∃ (i : List UInt8) (c : UInt8), putF f n = i ++ [c] ∧ (∀ x ∈ i, 128 ≤ x.toNat) ∧ c.toNat < 128 ∧ i.length ≤ f ∧ val7 (putF f n) = n ∧ (i ≠ [] → c.toNat ≠ 0) ∧ (i.length = f → c.toNat < 2) := by
  induction f with
  | zero =>
    intro n h
    have h0 : n < 2 := by unfold Fits at h; omega
    refine ⟨[], UInt8.ofNat n, rfl, by simp, ?_, by simp, ?_, by simp, ?_⟩
    · simp; omega
    · simp [putF, val7]; omega
    · intro _; simp; omega
  | succ f ih =>
    intro n h
    by_cases hn : n < 128
    · rw [putF_small _ _ hn]
      refine ⟨[], UInt8.ofNat n, rfl, by simp, ?_, by simp, ?_, by simp, by simp⟩
      · simp; omega
      · simp [val7]; omega
    · obtain ⟨i, c, h1, h2, h3, h4, h5, h6, h7⟩ := ih (n / 128) h.next
      rw [putF_big f n (by omega)]
      refine ⟨UInt8.ofNat (128 + n % 128) :: i, c, by rw [h1]; rfl, ?_, h3, by simpa using h4, ?_, ?_, ?_⟩
      · intro x hx
        rcases List.mem_cons.1 hx with rfl | hx
        · rw [ofNat_toNat _ (by omega)]; omega
        · exact h2 x hx
      · rw [val7, h5, ofNat_toNat _ (by omega)]; omega
      · intro _
        by_cases hi : i = []
        · subst hi
          intro hc
          rw [h1] at h5
          simp [val7] at h5
          omega
        · exact h6 hi
      · intro hl
        exact h7 (by simpa using hl)
/-- A number is read as it was written, whatever stands behind it. -/
theorem get_put (n : Nat) (h : n ≤ 18446744073709551615) (r : List UInt8) : get (put n ++ r) = some (n, (put n).length) := by
  obtain ⟨i, c, h1, h2, h3, h4, h5, h6, h7⟩ := putF_split 9 n (Fits.of64 h)
  have hp : put n = i ++ [c] := h1
  have hl : lead (put n ++ r) = i.length := by rw [hp, List.append_assoc]; exact lead_split i c r h2 h3
  have hlen : (put n).length = i.length + 1 := by rw [hp]; simp
  have hat : (put n ++ r)[i.length]'(by rw [List.length_append]; omega) = c := by simp [hp]
  have ht : (put n ++ r).take (i.length + 1) = put n := by rw [← hlen, List.take_left]
  rw [get_yes (e := i.length) (by rw [List.length_append]; omega) hl (by omega) (fun h9 => by rw [hat]; have := h7 h9; omega) (fun h0 => by rw [hat]; exact h6 (by intro hi; rw [hi] at h0; simp at h0)), ht, hlen]
  exact congrArg (fun v => some (v, i.length + 1)) h5
theorem put_small (n : Nat) (h : n < 128) : (put n).length = 1 := by unfold put; rw [putF_small _ _ h]; rfl
theorem put_two (n : Nat) (h : n < 16384) : (put n).length ≤ 2 := by
  unfold put
  by_cases h1 : n < 128
  · rw [putF_small _ _ h1]; simp
  · rw [putF_big 8 n (by omega), putF_small _ _ (by omega)]; simp

/-- How a text of steps is unpacked behind some bytes. -/
def un (s out : List UInt8) (most : Nat) : List UInt8 × Nat := unF s.length s out most
theorem unF_fuel : ∀ (fu : Nat) (s out : List UInt8) (most : Nat), s.length ≤ fu → unF fu s out most = un s out most := by
  intro fu
  induction fu using Nat.strongRecOn with
  | _ fu ih =>
    intro s out most hs
    cases s with
    | nil => rw [unF_nil, un, unF_nil]
    | cons c r =>
      obtain ⟨g, rfl⟩ : ∃ g, fu = g + 1 := ⟨fu - 1, by simp at hs; omega⟩
      unfold un
      rw [List.length_cons]
      have hne : c :: r ≠ [] := by simp
      rw [List.length_cons] at hs
      rcases hrd : rd (c :: r) out.length with _ | ⟨n, f, t⟩
      · rw [unF_bad hne hrd, unF_bad hne hrd]
      · obtain ⟨_, q2, _⟩ := rd_bounds hrd
        rw [List.length_cons] at q2
        by_cases hb : most - out.length < n
        · rw [unF_big hne hrd hb, unF_big hne hrd hb]
        · by_cases hf : f = 0
          · subst hf
            have hd : (t.drop n).length ≤ t.length := by rw [List.length_drop]; omega
            rw [unF_plain hne hrd (by omega), unF_plain hne hrd (by omega), ih g (by omega) _ _ _ (by omega)]
            by_cases hg : r.length = g
            · rw [hg, ih g (by omega) _ _ _ (by omega)]
            · rw [ih r.length (by omega) _ _ _ (by omega)]
          · rw [unF_far hne hrd hf (by omega), unF_far hne hrd hf (by omega), ih g (by omega) _ _ _ (by omega)]
            by_cases hg : r.length = g
            · rw [hg, ih g (by omega) _ _ _ (by omega)]
            · rw [ih r.length (by omega) _ _ _ (by omega)]
theorem un_nil (out : List UInt8) (most : Nat) : un [] out most = (out, 0) := unF_nil _ _ _
section
variable {most n f : Nat} {s out r : List UInt8}
theorem un_big (hs : s ≠ []) (h : rd s out.length = some (n, f, r)) (hb : most - out.length < n) : un s out most = ([], 3) := by
  obtain ⟨c, t, rfl⟩ : ∃ c t, s = c :: t := by cases s with
    | nil => exact absurd rfl hs
    | cons c t => exact ⟨c, t, rfl⟩
  exact unF_big hs h hb
theorem un_plain (hs : s ≠ []) (h : rd s out.length = some (n, 0, r)) (hb : n ≤ most - out.length) : un s out most = un (r.drop n) (out ++ r.take n) most := by
  obtain ⟨c, t, rfl⟩ : ∃ c t, s = c :: t := by cases s with
    | nil => exact absurd rfl hs
    | cons c t => exact ⟨c, t, rfl⟩
  obtain ⟨_, q2, _⟩ := rd_bounds h
  rw [List.length_cons] at q2
  unfold un
  rw [List.length_cons, unF_plain hs h hb]
  exact unF_fuel _ _ _ _ (by rw [List.length_drop]; omega)
theorem un_far (hs : s ≠ []) (h : rd s out.length = some (n, f, r)) (hf : f ≠ 0) (hb : n ≤ most - out.length) : un s out most = un r (back n f out) most := by
  obtain ⟨c, t, rfl⟩ : ∃ c t, s = c :: t := by cases s with
    | nil => exact absurd rfl hs
    | cons c t => exact ⟨c, t, rfl⟩
  obtain ⟨_, q2, _⟩ := rd_bounds h
  rw [List.length_cons] at q2
  unfold un
  rw [List.length_cons, unF_far hs h hf hb]
  exact unF_fuel _ _ _ _ (by omega)
end

/-- The text e leads from the bytes o to the bytes t; with fewer bytes let, it is told. -/
def Leads (e o t : List UInt8) : Prop :=
  o.length ≤ t.length ∧ (∀ r most, t.length ≤ most → un (e ++ r) o most = un r t most) ∧ ∀ r most, o.length ≤ most → most < t.length → un (e ++ r) o most = ([], 3)
theorem Leads.refl (o : List UInt8) : Leads [] o o := ⟨Nat.le_refl _, fun r most _ => rfl, fun r most h1 h2 => absurd h2 (by omega)⟩
theorem Leads.trans {e e' o t t' : List UInt8} (h : Leads e o t) (h' : Leads e' t t') : Leads (e ++ e') o t' := by
  refine ⟨Nat.le_trans h.1 h'.1, fun r most hm => ?_, fun r most h1 h2 => ?_⟩
  · rw [List.append_assoc, h.2.1 _ _ (Nat.le_trans h'.1 hm), h'.2.1 _ _ hm]
  · rw [List.append_assoc]
    rcases Nat.lt_or_ge most t.length with hlt | hge
    · exact h.2.2 _ _ h1 hlt
    · rw [h.2.1 _ _ hge, h'.2.2 _ _ hge h2]
theorem put_ne (n : Nat) (r : List UInt8) : put n ++ r ≠ [] := by
  intro h
  have h1 := congrArg List.length h
  have h2 : 0 < (put n).length := putF_pos 9 n
  rw [List.length_append, List.length_nil] at h1
  omega
/-- A step that copies bytes as they stand. -/
theorem Leads.plain (t o : List UInt8) (h0 : t ≠ []) (h1 : 2 * t.length ≤ 18446744073709551615) : Leads (put (2 * t.length) ++ t) o (o ++ t) := by
  have hpos : 0 < t.length := by
    cases t with
    | nil => exact absurd rfl h0
    | cons c r => simp
  have hrd : ∀ r, rd (put (2 * t.length) ++ t ++ r) o.length = some (t.length, 0, t ++ r) := by
    intro r
    have hg := get_put (2 * t.length) h1 (t ++ r)
    rw [← List.append_assoc] at hg
    have hd : (put (2 * t.length) ++ t ++ r).drop (put (2 * t.length)).length = t ++ r := by rw [List.append_assoc, List.drop_left]
    rw [rd_plain hg (by omega) (by omega) (by rw [hd, List.length_append]; omega), hd]
    congr 2
    omega
  have hne : ∀ r, put (2 * t.length) ++ t ++ r ≠ [] := fun r => by rw [List.append_assoc]; exact put_ne _ _
  refine ⟨by rw [List.length_append]; omega, fun r most hm => ?_, fun r most hm h2 => ?_⟩
  · rw [List.length_append] at hm
    rw [un_plain (hne r) (hrd r) (by omega), List.drop_left, List.take_left]
  · rw [List.length_append] at h2
    exact un_big (hne r) (hrd r) (by omega)
/-- A step that copies from back. -/
theorem Leads.far (n f : Nat) (o : List UInt8) (h0 : 4 ≤ n) (h1 : 2 * n + 1 ≤ 18446744073709551615) (h2 : 1 ≤ f) (h3 : f ≤ 65535) (h4 : f ≤ o.length) : Leads (put (2 * n + 1) ++ put f) o (back n f o) := by
  have hrd : ∀ r, rd (put (2 * n + 1) ++ put f ++ r) o.length = some (n, f, r) := by
    intro r
    have hg := get_put (2 * n + 1) h1 (put f ++ r)
    rw [← List.append_assoc] at hg
    have hd : (put (2 * n + 1) ++ put f ++ r).drop (put (2 * n + 1)).length = put f ++ r := by rw [List.append_assoc, List.drop_left]
    have hg2 := get_put f (by omega) r
    rw [rd_far hg (by omega) (by rw [hd]; exact hg2) (by omega) h2 h3 h4, hd, List.drop_left]
    congr 2
    omega
  have hne : ∀ r, put (2 * n + 1) ++ put f ++ r ≠ [] := fun r => by rw [List.append_assoc]; exact put_ne _ _
  have hlen := back_length n f o
  refine ⟨by omega, fun r most hm => ?_, fun r most hm h5 => ?_⟩
  · rw [un_far (hne r) (hrd r) (by omega) (by omega)]
  · exact un_big (hne r) (hrd r) (by omega)
/-- Bytes that are alike at two places are copied from the first. -/
theorem back_alike (s : List UInt8) (a i : Nat) (ha : a < i) : ∀ n, i + n ≤ s.length → (∀ j (h : i + j < s.length), j < n → s[a + j]'(by omega) = s[i + j]) → back n (i - a) (s.take i) = s.take (i + n) := by
  have key : ∀ n k, i + k + n ≤ s.length → (∀ j (h : i + j < s.length), j < k + n → s[a + j]'(by omega) = s[i + j]) → back n (i - a) (s.take (i + k)) = s.take (i + k + n) := by
    intro n
    induction n with
    | zero => intro k _ _; rfl
    | succ n ih =>
      intro k hk hj
      have hl : (s.take (i + k)).length = i + k := by rw [List.length_take]; omega
      have hx : (s.take (i + k)).getD ((s.take (i + k)).length - (i - a)) 0 = s[i + k] := by
        rw [hl, show i + k - (i - a) = a + k from by omega, getD_lt (by omega), List.getElem_take]
        exact hj k (by omega) (by omega)
      rw [back, hx, ← List.take_succ_eq_append_getElem (by omega)]
      have := ih (k + 1) (by omega) (fun j h hjn => hj j h (by omega))
      rw [show i + k + (n + 1) = i + (k + 1) + n from by omega]
      exact this
  intro n hn hj
  have := key n 0 (by omega) (fun j h hjn => hj j h (by omega))
  simpa using this
end Go.Proofs.YtlanconcbpdneaaDoor
/- Layer 4: a reader reads what was written, and only that: the plain law. No condition; no program. -/
namespace Go.Proofs.YtlanconcbpdneaaDoor
open Go.RowKit
theorem val7_pos : ∀ (i : List UInt8) (c : UInt8), c ≠ 0 → c.toNat < 128 → 1 ≤ val7 (i ++ [c])
  | [], c, h, h1 => by
    have : c.toNat ≠ 0 := fun e => h (UInt8.toNat_inj.1 e)
    show 1 ≤ c.toNat % 128 + 128 * val7 []
    have e : val7 [] = 0 := rfl
    omega
  | x :: i, c, h, h1 => by
    have := val7_pos i c h h1
    show 1 ≤ x.toNat % 128 + 128 * val7 (i ++ [c])
    omega
theorem putF_of : ∀ (i : List UInt8) (f : Nat) (c : UInt8), (∀ x ∈ i, 128 ≤ x.toNat) → c.toNat < 128 → (i ≠ [] → c ≠ 0) → i.length ≤ f → putF f (val7 (i ++ [c])) = i ++ [c]
  | [], f, c, _, h2, _, _ => by
    have e : val7 ([] ++ [c]) = c.toNat := by
      show c.toNat % 128 + 128 * val7 [] = _
      have e : val7 [] = 0 := rfl
      omega
    rw [e, putF_small _ _ h2]
    simp
  | x :: i, 0, c, _, _, _, h4 => by simp at h4
  | x :: i, f + 1, c, h1, h2, h3, h4 => by
    have hx := h1 x (by simp)
    have hx2 : x.toNat < 256 := x.toNat_lt
    have hp := val7_pos i c (h3 (by simp)) h2
    have e : val7 (x :: i ++ [c]) = x.toNat % 128 + 128 * val7 (i ++ [c]) := rfl
    have ih := putF_of i f c (fun y hy => h1 y (by simp [hy])) h2 (fun _ => h3 (by simp)) (by simp at h4; omega)
    rw [e, putF_big _ _ (by omega), show (x.toNat % 128 + 128 * val7 (i ++ [c])) / 128 = val7 (i ++ [c]) from by omega, ih, show 128 + (x.toNat % 128 + 128 * val7 (i ++ [c])) % 128 = x.toNat from by omega]
    simp
/-- A number's bytes are those that it is written with. -/
theorem put_get {l : List UInt8} {n k : Nat} (h : get l = some (n, k)) : l.take k = put n ∧ l = put n ++ l.drop k := by
  have key : l.take k = put n := by
    unfold get at h
    split at h
    · rename_i hc
      simp only [Option.some.injEq, Prod.mk.injEq] at h
      obtain ⟨rfl, rfl⟩ := h
      obtain ⟨h1, h2, h3, h4⟩ := hc
      have e : l.take (lead l + 1) = l.take (lead l) ++ [l[lead l]] := by
        rw [List.take_add_one, List.getElem?_eq_getElem h1]; rfl
      rw [e]
      unfold put
      refine (putF_of _ 9 _ ?_ (lead_small l h1) ?_ (by rw [List.length_take]; omega)).symm
      · intro x hx
        obtain ⟨i, hi, rfl⟩ := List.getElem_of_mem hx
        rw [List.length_take] at hi
        rw [List.getElem_take]
        exact lead_big l i (by omega) (by omega)
      · intro hne h0
        apply h4
        refine ⟨?_, ?_⟩
        · rcases Nat.eq_zero_or_pos (lead l) with h | h
          · rw [h] at hne; simp at hne
          · exact h
        · rw [getD_lt h1]; exact h0
    · cases h
  exact ⟨key, by rw [← key]; exact (List.take_append_drop k l).symm⟩
theorem takeP_text (t r : Txt) (ht : t.length ≤ 18446744073709551615) : takeP (textE t ++ r) = some (t, r) := by
  unfold takeP textE
  rw [List.append_assoc, get_put _ ht]
  simp
theorem takeP_back {s t r : Txt} (h : takeP s = some (t, r)) : s = textE t ++ r := by
  unfold takeP at h
  cases hg : get s with
  | none => rw [hg] at h; cases h
  | some p =>
    obtain ⟨n, k⟩ := p
    rw [hg] at h
    simp only at h
    split at h
    · rename_i hn
      injection h with h
      injection h with h1 h2
      have h3 := (put_get hg).2
      subst h1; subst h2
      unfold textE
      rw [List.length_take, Nat.min_eq_left hn, List.append_assoc, List.take_append_drop]
      exact h3
    · cases h
section
variable {r : Rd}
theorem rBytes_stuck (n : Nat) (h : r.2 = true) : (rBytes n r).2.2 = true := by unfold rBytes; rw [if_pos (.inl h)]
theorem rNum_stuck (h : r.2 = true) : (rNum r).2.2 = true := by unfold rNum; rw [if_pos h]
theorem rText_stuck (h : r.2 = true) : (rText r).2.2 = true := by unfold rText; rw [if_pos h]
theorem rId_stuck (h : r.2 = true) : (rId r).2.2 = true := rBytes_stuck 32 h
theorem rKind_stuck (h : r.2 = true) : (rKind r).2.2 = true := rBytes_stuck 1 h
theorem rEnt_stuck (h : r.2 = true) : (rEnt r).2.2 = true := rId_stuck (rText_stuck (rKind_stuck h))
theorem rTree_stuck : ∀ (f : Nat) (acc : List EntL), r.2 = true → rTree f r acc = (acc, r)
  | 0, acc, _ => rfl
  | f + 1, acc, h => by unfold rTree; rw [if_pos (.inl h)]
theorem rPars_stuck : ∀ (f : Nat) (acc : List Txt), r.2 = true → rPars f r acc = (acc, r)
  | 0, acc, _ => rfl
  | f + 1, acc, h => by unfold rPars; rw [if_pos h]
theorem badIf_stuck (b : Bool) (h : r.2 = true) : (badIf b r).2 = true := by unfold badIf; split; rfl; exact h
end
theorem not_stuck {a b : Bool} (h : b = true → a = true) (ha : a = false) : b = false := by cases b <;> simp_all
/-! forth -/
theorem rBytes_app (a b : Txt) (n : Nat) (hn : a.length = n) : rBytes n (a ++ b, false) = (a, (b, false)) := by
  unfold rBytes
  rw [if_neg (by simp; omega)]
  subst hn
  simp
theorem rNum_app (n : Nat) (hn : n ≤ 18446744073709551615) (b : Txt) : rNum (put n ++ b, false) = (n, (b, false)) := by
  unfold rNum
  rw [if_neg (by simp)]
  simp only [get_put n hn b]
  simp
theorem rText_app (t b : Txt) (ht : t.length ≤ 18446744073709551615) : rText (textE t ++ b, false) = (t, (b, false)) := by
  unfold rText
  rw [if_neg (by simp)]
  simp only [takeP_text t b ht]
theorem rId_app (i b : Txt) (hi : i.length = 32) : rId (i ++ b, false) = (i, (b, false)) := by
  unfold rId
  rw [rBytes_app i b 32 hi]
  have : i ≠ [] := by intro e; rw [e] at hi; simp at hi
  simp [idOr, this]
theorem rKind_app (c : UInt8) (b : Txt) : rKind (c :: b, false) = (c.toNat, (b, false)) := by
  unfold rKind
  rw [show (c :: b : Txt) = [c] ++ b from rfl, rBytes_app [c] b 1 rfl]
  rfl
theorem byteK_nat {k : Int} (h1 : 0 ≤ k) (h2 : k < 256) : ((byteK k).toNat : Int) = k := by
  unfold byteK
  rw [ofNat_toNat_u8 _ (by omega)]
  omega
theorem byteK_back (c : UInt8) : byteK (c.toNat : Int) = c := by
  unfold byteK
  have := c.toNat_lt
  rw [show ((c.toNat : Int) % 256).toNat = c.toNat from by omega]
  simp
theorem rEnt_app (e : EntL) (b : Txt) (hk : e.kind = 1 ∨ e.kind = 2) (hi : e.id.length = 32) (hn : e.name.length ≤ 18446744073709551615) : rEnt (entE e ++ b, false) = (e, (b, false)) := by
  unfold rEnt entE
  rw [List.cons_append, List.append_assoc, rKind_app]
  simp only [rText_app e.name (e.id ++ b) hn, rId_app e.id b hi]
  have := byteK_nat (k := e.kind) (by omega) (by omega)
  rw [this]
theorem rTree_app : ∀ (l : List EntL) (f : Nat) (acc : List EntL), (∀ e ∈ l, (e.kind = 1 ∨ e.kind = 2) ∧ e.id.length = 32 ∧ e.name.length ≤ 18446744073709551615) → l.length ≤ f → rTree f (entsE l, false) acc = (acc ++ l, ([], false))
  | [], 0, acc, _, _ => by simp [rTree, entsE]
  | [], f + 1, acc, _, _ => by simp [rTree, entsE]
  | e :: l, 0, acc, _, hf => by simp at hf
  | e :: l, f + 1, acc, h, hf => by
    have h1 := h e (by simp)
    have he : entsE (e :: l) = entE e ++ entsE l := by simp [entsE]
    have hne : entE e ++ entsE l ≠ [] := by unfold entE; simp
    rw [rTree, he, if_neg (by simp [hne]), rEnt_app e _ h1.1 h1.2.1 h1.2.2]
    simp only
    rw [rTree_app l f _ (fun x hx => h x (by simp [hx])) (by simp at hf; omega)]
    simp
theorem rPars_app (b : Txt) : ∀ (l : List Txt) (acc : List Txt), (∀ p ∈ l, p.length = 32) → rPars l.length (l.flatten ++ b, false) acc = (acc ++ l, (b, false))
  | [], acc, _ => by simp [rPars]
  | p :: l, acc, h => by
    rw [List.length_cons, rPars, if_neg (by simp), List.flatten_cons, List.append_assoc, rId_app p _ (h p (by simp))]
    simp only
    rw [rPars_app b l _ (fun x hx => h x (by simp [hx]))]
    simp
end Go.Proofs.YtlanconcbpdneaaDoor
/- Layer 4: what was encoded is decoded as it was, and what is decoded has that encoding: the plain law. No condition; no program. -/
namespace Go.Proofs.YtlanconcbpdneaaDoor
open Go.RowKit
theorem commit_all {o : ObjL} (h : commitN o = true) : o.tree = noId ∧ o.pars = [] ∧ o.time = 0 ∧ o.text = [] := by
  unfold commitN at h; simp at h; exact ⟨h.1.1.1, h.1.1.2, h.1.2, h.2⟩
theorem tag_all {o : ObjL} (h : tagN o = true) : o.target = noId ∧ o.of_ = 0 ∧ o.name = [] := by
  unfold tagN at h; simp at h; exact ⟨h.1.1, h.1.2, h.2⟩
theorem entE_pos (e : EntL) : 1 ≤ (entE e).length := by unfold entE; simp
theorem entsE_count (l : List EntL) : l.length ≤ (entsE l).length := by
  induction l with
  | nil => simp
  | cons e l ih =>
    have : entsE (e :: l) = entE e ++ entsE l := by simp [entsE]
    have h := entE_pos e
    rw [this, List.length_append, List.length_cons]
    omega
theorem read_enc (o : ObjL) (hm : mayB o = true) (htr : o.tree.length = 32) (hta : o.target.length = 32) (he : ∀ e ∈ o.ents, e.id.length = 32) (hp : ∀ p ∈ o.pars, p.length = 32) (htm : o.time < 4294967296) (hl : (bodyO o).length ≤ 4096) :
    readO (byteK o.kind).toNat (bodyO o, false) = (o, ([], false)) := by
  have ha := may_alone hm
  unfold aloneB at ha
  rcases may_kind hm with hk | hk | hk | hk
  · rw [hk] at ha
    simp at ha
    obtain ⟨c1, c2, c3, c4⟩ := commit_all ha.1.2
    obtain ⟨t1, t2, t3⟩ := tag_all ha.2
    have e1 := tree_nil ha.1.1
    have hb : bodyO o = o.data := by unfold bodyO; rw [if_pos hk]
    rw [hb, hk]
    show readO 1 _ = _
    unfold readO rBlob
    rw [if_neg (by omega), if_neg (by omega), if_neg (by omega)]
    have := rBytes_app o.data [] o.data.length rfl
    rw [List.append_nil] at this
    simp only [this]
    obtain ⟨kind, data, ents, tree, pars, time, text, target, of_, name⟩ := o
    simp only at *
    subst hk c1 c2 c3 c4 t1 t2 t3 e1
    rfl
  · have hf : entsB o.ents = true := by
      unfold mayB at hm
      rw [if_pos hk] at hm
      simp at hm
      exact hm.2
    rw [hk] at ha
    simp at ha
    obtain ⟨c1, c2, c3, c4⟩ := commit_all ha.1.2
    obtain ⟨t1, t2, t3⟩ := tag_all ha.2
    have e1 := blob_nil ha.1.1
    have hb : bodyO o = entsE o.ents := by unfold bodyO; rw [if_neg (by omega), if_pos hk]
    rw [hb, hk]
    show readO 2 _ = _
    unfold readO rTr
    rw [if_pos rfl]
    have hfine := (ents_fine hf).2
    have := rTree_app o.ents (entsE o.ents).length [] (fun e hx => ⟨(hfine e hx).2, he e hx, by have := name_len (hfine e hx).1; omega⟩) (entsE_count _)
    simp only [this, List.nil_append]
    obtain ⟨kind, data, ents, tree, pars, time, text, target, of_, name⟩ := o
    simp only at *
    subst hk c1 c2 c3 c4 t1 t2 t3 e1
    rfl
  · have hp8 : o.pars.length ≤ 8 := by
      unfold mayB at hm
      rw [if_neg (by omega), if_pos hk] at hm
      simp at hm
      exact hm.2
    rw [hk] at ha
    simp at ha
    obtain ⟨t1, t2, t3⟩ := tag_all ha.2
    have e1 := blob_nil ha.1.1
    have e2 := tree_nil ha.1.2
    have hb : bodyO o = commitE o := by unfold bodyO; rw [if_neg (by omega), if_neg (by omega), if_pos hk]
    rw [hb] at hl ⊢
    rw [hk]
    show readO 3 _ = _
    unfold readO
    rw [if_neg (by omega), if_pos rfl]
    have htx : o.text.length ≤ 18446744073709551615 := by
      unfold commitE textE at hl
      simp only [List.length_append] at hl
      omega
    have hc : commitE o = o.tree ++ (put o.pars.length ++ (o.pars.flatten ++ (put o.time ++ (textE o.text ++ [])))) := by unfold commitE; simp
    rw [hc]
    unfold rCommit
    have b1 : badIf (decide (8 < o.pars.length)) (o.pars.flatten ++ (put o.time ++ (textE o.text ++ [])), false) = (o.pars.flatten ++ (put o.time ++ (textE o.text ++ [])), false) := by
      unfold badIf; rw [decide_eq_false (by omega)]; rfl
    have b2 : badIf (decide (4294967295 < o.time)) (textE o.text ++ [], false) = (textE o.text ++ [], false) := by
      unfold badIf; rw [decide_eq_false (by omega)]; rfl
    simp only [rId_app o.tree _ htr, rNum_app o.pars.length (by omega), b1, rPars_app _ o.pars [] hp, rNum_app o.time (by omega), b2, rText_app o.text [] htx, List.nil_append]
    rw [Nat.mod_eq_of_lt htm]
    obtain ⟨kind, data, ents, tree, pars, time, text, target, of_, name⟩ := o
    simp only at *
    subst hk t1 t2 t3 e1 e2
    rfl
  · have hfn : kindB o.of_ = true ∧ nameB o.name = true := by
      unfold mayB at hm
      rw [if_neg (by omega), if_neg (by omega), if_pos hk] at hm
      simp at hm
      exact ⟨hm.1.2, hm.2⟩
    rw [hk] at ha
    simp at ha
    obtain ⟨c1, c2, c3, c4⟩ := commit_all ha.2
    have e1 := blob_nil ha.1.1
    have e2 := tree_nil ha.1.2
    have hb : bodyO o = tagE o := by unfold bodyO; rw [if_neg (by omega), if_neg (by omega), if_neg (by omega), if_pos hk]
    rw [hb, hk]
    show readO 4 _ = _
    unfold readO
    rw [if_neg (by omega), if_neg (by omega), if_pos rfl]
    have hnl := name_len hfn.2
    have hof : 1 ≤ o.of_ ∧ o.of_ ≤ 4 := by
      have := hfn.1
      unfold kindB at this
      simp at this
      exact this
    have hc : tagE o = byteK o.of_ :: (o.target ++ (textE o.name ++ [])) := by unfold tagE; simp
    rw [hc]
    unfold rTag
    have hbk := byteK_nat (k := o.of_) (by omega) (by omega)
    simp only [rKind_app, rId_app o.target _ hta, rText_app o.name [] (by omega), hbk]
    obtain ⟨kind, data, ents, tree, pars, time, text, target, of_, name⟩ := o
    simp only at *
    subst hk c1 c2 c3 c4 e1 e2
    rfl
theorem dec_enc {o : ObjL} {t : Txt} (h : encO o = some t) (htr : o.tree.length = 32) (hta : o.target.length = 32) (he : ∀ e ∈ o.ents, e.id.length = 32) (hp : ∀ p ∈ o.pars, p.length = 32) (htm : o.time < 4294967296) : decO t = some o ∧ t.length ≤ 4096 := by
  unfold encO at h
  split at h
  · rename_i hc
    obtain ⟨hm, hl⟩ := hc
    injection h with h
    subst h
    refine ⟨?_, hl⟩
    have hbl : (bodyO o).length ≤ 4096 := by unfold wholeO textE at hl; simp at hl; omega
    unfold wholeO at hl ⊢
    unfold decO
    have ht := takeP_text (bodyO o) [] (by omega)
    rw [List.append_nil] at ht
    have hr := read_enc o hm htr hta he hp htm hbl
    simp only [ht]
    rw [if_neg (by omega)]
    simp only [hr, hm]
    simp
  · cases h
end Go.Proofs.YtlanconcbpdneaaDoor
/- Layer 4: what is decoded has that encoding: the plain law. No condition; no program. -/
namespace Go.Proofs.YtlanconcbpdneaaDoor
open Go.RowKit
section
variable {r : Rd}
theorem rBytes_back {n : Nat} (h : (rBytes n r).2.2 = false) : r.2 = false ∧ r.1 = (rBytes n r).1 ++ (rBytes n r).2.1 ∧ (rBytes n r).1.length = n := by
  unfold rBytes at *
  split at h
  · cases h
  · rename_i hc
    rw [if_neg hc]
    have h1 : ¬ r.2 = true := fun h => hc (.inl h)
    have h2 : ¬ r.1.length < n := fun h => hc (.inr h)
    refine ⟨by simpa using h1, (List.take_append_drop n r.1).symm, ?_⟩
    show (r.1.take n).length = n
    rw [List.length_take]; omega
theorem rNum_back (h : (rNum r).2.2 = false) : r.2 = false ∧ r.1 = put (rNum r).1 ++ (rNum r).2.1 := by
  unfold rNum at *
  split at h
  · cases h
  · rename_i hc
    rw [if_neg hc]
    cases hg : get r.1 with
    | none => rw [hg] at h; cases h
    | some p => exact ⟨by simpa using hc, (put_get hg).2⟩
theorem rText_back (h : (rText r).2.2 = false) : r.2 = false ∧ r.1 = textE (rText r).1 ++ (rText r).2.1 := by
  unfold rText at *
  split at h
  · cases h
  · rename_i hc
    rw [if_neg hc]
    cases hg : takeP r.1 with
    | none => rw [hg] at h; cases h
    | some p => exact ⟨by simpa using hc, takeP_back hg⟩
theorem rId_back (h : (rId r).2.2 = false) : r.2 = false ∧ r.1 = (rId r).1 ++ (rId r).2.1 ∧ (rId r).1.length = 32 := by
  have h1 : (rBytes 32 r).2.2 = false := h
  obtain ⟨a, b, c⟩ := rBytes_back h1
  have e : (rId r).1 = (rBytes 32 r).1 := by
    unfold rId idOr
    rw [if_neg]
    intro e
    rw [e] at c
    simp at c
  exact ⟨a, by rw [e]; exact b, by rw [e]; exact c⟩
theorem rKind_back (h : (rKind r).2.2 = false) : r.2 = false ∧ r.1 = byteK ((rKind r).1 : Int) :: (rKind r).2.1 ∧ (rKind r).1 < 256 := by
  have h1 : (rBytes 1 r).2.2 = false := h
  obtain ⟨a, b, c⟩ := rBytes_back h1
  have e : (rKind r).1 = ((rBytes 1 r).1.headD 0).toNat := by
    unfold rKind
    rw [if_neg (by rw [h1]; simp)]
  have e2 : (rKind r).2.1 = (rBytes 1 r).2.1 := rfl
  rw [e, e2]
  generalize hb : (rBytes 1 r).1 = l at *
  match l, c with
  | [x], _ =>
    refine ⟨a, ?_, x.toNat_lt⟩
    show _ = byteK ((x.toNat : Nat) : Int) :: _
    rw [byteK_back]
    exact b
theorem rEnt_back (h : (rEnt r).2.2 = false) : r.2 = false ∧ r.1 = entE (rEnt r).1 ++ (rEnt r).2.1 ∧ (rEnt r).1.id.length = 32 := by
  have h1 : (rId (rText (rKind r).2).2).2.2 = false := h
  obtain ⟨a1, b1, c1⟩ := rId_back h1
  obtain ⟨a2, b2⟩ := rText_back a1
  obtain ⟨a3, b3, c3⟩ := rKind_back a2
  refine ⟨a3, ?_, c1⟩
  have e : (rEnt r).2.1 = (rId (rText (rKind r).2).2).2.1 := rfl
  rw [e]
  show _ = byteK ((rKind r).1 : Int) :: (textE (rText (rKind r).2).1 ++ (rId (rText (rKind r).2).2).1) ++ _
  rw [List.cons_append, List.append_assoc, ← b1, ← b2, ← b3]
theorem badIf_back {b : Bool} (h : (badIf b r).2 = false) : b = false ∧ r.2 = false ∧ badIf b r = r := by
  cases b with
  | true => cases h
  | false => exact ⟨rfl, h, rfl⟩
end
theorem rTree_back : ∀ (f : Nat) (r : Rd) (acc : List EntL), (rTree f r acc).2.2 = false → (rTree f r acc).2.1 = [] → r.2 = false ∧ ∃ l, (rTree f r acc).1 = acc ++ l ∧ r.1 = entsE l ∧ ∀ e ∈ l, e.id.length = 32
  | 0, r, acc, h1, h2 => ⟨h1, [], by simp [rTree], h2, fun e he => by cases he⟩
  | f + 1, r, acc, h1, h2 => by
    by_cases hc : r.2 = true ∨ r.1 = []
    · have e : rTree (f + 1) r acc = (acc, r) := by rw [rTree, if_pos hc]
      rw [e] at h1 h2 ⊢
      exact ⟨h1, [], by simp, h2, fun e he => by cases he⟩
    · have e : rTree (f + 1) r acc = rTree f (rEnt r).2 (acc ++ [(rEnt r).1]) := by rw [rTree, if_neg hc]
      rw [e] at h1 h2 ⊢
      obtain ⟨a, l, b1, b2, b3⟩ := rTree_back f _ _ h1 h2
      obtain ⟨c1, c2, c3⟩ := rEnt_back a
      refine ⟨c1, (rEnt r).1 :: l, by rw [b1]; simp, ?_, ?_⟩
      · rw [c2, b2]; simp [entsE]
      · intro x hx
        rcases List.mem_cons.1 hx with rfl | hx
        · exact c3
        · exact b3 x hx
theorem rPars_back : ∀ (n : Nat) (r : Rd) (acc : List Txt), (rPars n r acc).2.2 = false → r.2 = false ∧ ∃ l, (rPars n r acc).1 = acc ++ l ∧ r.1 = l.flatten ++ (rPars n r acc).2.1 ∧ l.length = n ∧ ∀ e ∈ l, e.length = 32
  | 0, r, acc, h1 => ⟨h1, [], by simp [rPars], rfl, rfl, fun e he => by cases he⟩
  | n + 1, r, acc, h1 => by
    by_cases hc : r.2 = true
    · have e : rPars (n + 1) r acc = (acc, r) := by rw [rPars, if_pos hc]
      rw [e] at h1
      rw [h1] at hc
      cases hc
    · have e : rPars (n + 1) r acc = rPars n (rId r).2 (acc ++ [(rId r).1]) := by rw [rPars, if_neg hc]
      rw [e] at h1 ⊢
      obtain ⟨a, l, b1, b2, b3, b4⟩ := rPars_back n _ _ h1
      obtain ⟨c1, c2, c3⟩ := rId_back a
      refine ⟨c1, (rId r).1 :: l, by rw [b1]; simp, ?_, by simp [b3], ?_⟩
      · rw [c2, b2]; simp
      · intro x hx
        rcases List.mem_cons.1 hx with rfl | hx
        · exact c3
        · exact b4 x hx
theorem commit_back {r : Rd} {i : Txt × Rd} {n : Nat × Rd} {p : List Txt × Rd} {t : Nat × Rd} {x : Txt × Rd} (hi : i = rId r) (hn : n = rNum i.2) (hp : p = rPars n.1 (badIf (decide (8 < n.1)) n.2) []) (ht : t = rNum p.2) (hx : x = rText (badIf (decide (4294967295 < t.1)) t.2))
    (h1 : x.2.2 = false) (h2 : x.2.1 = []) : r.1 = i.1 ++ put p.1.length ++ p.1.flatten ++ put t.1 ++ textE x.1 ∧ t.1 ≤ 4294967295 := by
  obtain ⟨t1, t2⟩ := rText_back (r := badIf (decide (4294967295 < t.1)) t.2) (by rw [← hx]; exact h1)
  obtain ⟨t3, t4, t5⟩ := badIf_back t1
  have t3 := of_decide_eq_false t3
  rw [← hx, t5, h2, List.append_nil] at t2
  obtain ⟨n1, n2⟩ := rNum_back (r := p.2) (by rw [← ht]; exact t4)
  rw [← ht, t2] at n2
  obtain ⟨p1, l, p2, p3, p4, _⟩ := rPars_back n.1 (badIf (decide (8 < n.1)) n.2) [] (by rw [← hp]; exact n1)
  obtain ⟨q1, q2, q3⟩ := badIf_back p1
  rw [← hp, q3, n2] at p3
  rw [← hp] at p2
  obtain ⟨m1, m2⟩ := rNum_back (r := i.2) (by rw [← hn]; exact q2)
  rw [← hn, p3] at m2
  obtain ⟨i1, i2, i3⟩ := rId_back (r := r) (by rw [← hi]; exact m1)
  rw [← hi, m2] at i2
  refine ⟨?_, by omega⟩
  rw [i2, p2, List.nil_append, p4]
  simp only [List.append_assoc]
theorem readO_kind (k : Nat) (r : Rd) : (readO k r).1.kind = k := by
  unfold readO
  split
  · rfl
  · split
    · rfl
    · split <;> rfl
theorem readO_back (k : Nat) (r : Rd) (h1 : (readO k r).2.2 = false) (h2 : (readO k r).2.1 = []) (hm : mayB (readO k r).1 = true) : r.1 = bodyO (readO k r).1 := by
  have hk := readO_kind k r
  unfold readO at *
  split at h1
  · rename_i h
    subst h
    simp only [if_true] at *
    obtain ⟨_, l, b1, b2, _⟩ := rTree_back _ _ _ h1 h2
    rw [b2]
    have e : (rTr 2 r).1.ents = l := by show (rTree r.1.length r []).1 = l; rw [b1]; rfl
    unfold bodyO
    rw [if_neg (by omega), if_pos (by omega), e]
  · rename_i hn2
    rw [if_neg hn2] at *
    split at h1
    · rename_i h
      subst h
      simp only [if_true] at *
      have hcb := commit_back (r := r) rfl rfl rfl rfl rfl h1 h2
      have e3 : (rCommit 3 r).1.time = (rNum (rPars (rNum (rId r).2).1 (badIf (decide (8 < (rNum (rId r).2).1)) (rNum (rId r).2).2) []).2).1 := Nat.mod_eq_of_lt (by have := hcb.2; omega)
      unfold bodyO
      rw [if_neg (by omega), if_neg (by omega), if_pos (by omega)]
      unfold commitE
      rw [e3]
      exact hcb.1
    · rename_i hn3
      rw [if_neg hn3] at *
      split at h1
      · rename_i h
        subst h
        simp only [if_true] at *
        obtain ⟨t1, t2⟩ := rText_back (r := (rId (rKind r).2).2) h1
        obtain ⟨i1, i2, i3⟩ := rId_back t1
        obtain ⟨k1, k2, k3⟩ := rKind_back i1
        have hfin : (rText (rId (rKind r).2).2).2.1 = [] := h2
        rw [hfin, List.append_nil] at t2
        rw [t2] at i2
        rw [i2] at k2
        unfold bodyO
        rw [if_neg (by omega), if_neg (by omega), if_neg (by omega), if_pos (by omega)]
        exact k2
      · rename_i hn4
        rw [if_neg hn4] at *
        obtain ⟨b1, b2, b3⟩ := rBytes_back (n := r.1.length) (r := r) h1
        have hfin : (rBytes r.1.length r).2.1 = [] := h2
        rw [hfin, List.append_nil] at b2
        have hk1 := may_kind hm
        rw [hk] at hk1
        have hk2 : k = 1 := by omega
        unfold bodyO
        rw [if_pos (by rw [hk, hk2]; rfl)]
        exact b2
theorem rBytes_le (n : Nat) (r : Rd) : (rBytes n r).2.1.length ≤ r.1.length := by
  unfold rBytes
  split
  · exact Nat.le_refl _
  · show (r.1.drop n).length ≤ _
    rw [List.length_drop]; omega
theorem rKind_le (r : Rd) : (rKind r).2.1.length ≤ r.1.length := rBytes_le 1 r
theorem rId_le (r : Rd) : (rId r).2.1.length ≤ r.1.length := rBytes_le 32 r
theorem rNum_le (r : Rd) : (rNum r).2.1.length ≤ r.1.length := by
  unfold rNum
  split
  · exact Nat.le_refl _
  · split
    · exact Nat.le_refl _
    · show (r.1.drop _).length ≤ _
      rw [List.length_drop]; omega
theorem rNum_num (r : Rd) : (rNum r).1 ≤ 18446744073709551615 := by
  unfold rNum
  split
  · simp
  · split
    · simp
    · rename_i n k h
      exact (get_bounds h).1
theorem takeP_le {s t q : Txt} (h : takeP s = some (t, q)) : q.length ≤ s.length := by
  have := takeP_back h
  rw [this]
  simp
theorem rText_le (r : Rd) : (rText r).2.1.length ≤ r.1.length := by
  unfold rText
  split
  · exact Nat.le_refl _
  · split
    · exact Nat.le_refl _
    · exact takeP_le (by assumption)
theorem badIf_le (b : Bool) (r : Rd) : (badIf b r).1 = r.1 := by unfold badIf; split <;> rfl
/-- What was read is in order. -/
structure Sound (o : ObjL) : Prop where
  tree : o.tree.length = 32
  target : o.target.length = 32
  ents : ∀ e ∈ o.ents, e.id.length = 32
  pars : ∀ p ∈ o.pars, p.length = 32
  time : o.time < 4294967296
theorem noId_len : noId.length = 32 := by simp [noId]
theorem idOr_len {n : Nat} {r : Rd} (hn : n = 32) : (idOr (rBytes n r).1).length = 32 := by
  unfold idOr
  split
  · exact noId_len
  · rename_i h
    unfold rBytes at *
    split at h
    · exact absurd rfl h
    · rename_i hc
      rw [if_neg hc]
      have : ¬ r.1.length < n := fun h => hc (.inr h)
      show (r.1.take n).length = 32
      rw [List.length_take]; omega
theorem rId_len (r : Rd) : (rId r).1.length = 32 := idOr_len rfl
theorem rTree_sound : ∀ (f : Nat) (r : Rd) (acc : List EntL), (∀ e ∈ acc, e.id.length = 32) → ∀ e ∈ (rTree f r acc).1, e.id.length = 32
  | 0, r, acc, h => h
  | f + 1, r, acc, h => by
    rw [rTree]
    split
    · exact h
    · refine rTree_sound f _ _ ?_
      intro e he
      rcases List.mem_append.1 he with he | he
      · exact h e he
      · obtain rfl := List.mem_singleton.1 he
        exact rId_len _
theorem rPars_sound : ∀ (n : Nat) (r : Rd) (acc : List Txt), (∀ e ∈ acc, e.length = 32) → ∀ e ∈ (rPars n r acc).1, e.length = 32
  | 0, r, acc, h => h
  | f + 1, r, acc, h => by
    rw [rPars]
    split
    · exact h
    · refine rPars_sound f _ _ ?_
      intro e he
      rcases List.mem_append.1 he with he | he
      · exact h e he
      · obtain rfl := List.mem_singleton.1 he
        exact rId_len _
theorem readO_sound (k : Nat) (r : Rd) : Sound (readO k r).1 := by
  unfold readO
  split
  · exact ⟨noId_len, noId_len, rTree_sound _ _ _ (by simp), (by intro p hp; cases hp), by show 0 < _; omega⟩
  · split
    · exact ⟨rId_len _, noId_len, (by intro p hp; cases hp), rPars_sound _ _ _ (by simp), Nat.mod_lt _ (by omega)⟩
    · split
      · exact ⟨noId_len, rId_len _, (by intro p hp; cases hp), (by intro p hp; cases hp), by show 0 < _; omega⟩
      · exact ⟨noId_len, noId_len, (by intro p hp; cases hp), (by intro p hp; cases hp), by show 0 < _; omega⟩
theorem dec_back {s : Txt} {o : ObjL} (h : decO s = some o) : encO o = some s ∧ Sound o := by
  unfold decO at h
  match s, h with
  | c :: q, h =>
    simp only at h
    split at h
    · cases h
    · rename_i hl
      cases ht : takeP q with
      | none => rw [ht] at h; cases h
      | some p =>
        obtain ⟨t, b⟩ := p
        rw [ht] at h
        simp only at h
        split at h
        · cases h
        · rename_i hb
          have hb : b = [] := by simpa using hb
          subst hb
          split at h
          · cases h
          · rename_i hc
            injection h with h
            subst h
            have h1 : (readO c.toNat (t, false)).2.2 = false := by
              cases hx : (readO c.toNat (t, false)).2.2
              · rfl
              · exact absurd (.inl hx) hc
            have h2 : (readO c.toNat (t, false)).2.1 = [] := by
              by_cases hx : (readO c.toNat (t, false)).2.1 = []
              · exact hx
              · exact absurd (.inr (.inl hx)) hc
            have h3 : mayB (readO c.toNat (t, false)).1 = true := by
              cases hx : mayB (readO c.toNat (t, false)).1
              · exact absurd (.inr (.inr hx)) hc
              · rfl
            have hb := readO_back _ _ h1 h2 h3
            refine ⟨?_, readO_sound _ _⟩
            have hw : wholeO (readO c.toNat (t, false)).1 = c :: q := by
              unfold wholeO
              rw [← hb, readO_kind, byteK_back, takeP_back ht]
              simp
            unfold encO
            rw [hw, if_pos ⟨h3, by omega⟩]
theorem dec_len {s : Txt} {o : ObjL} (h : decO s = some o) : s.length ≤ 4096 ∧ mayB o = true := by
  have h1 := (dec_back h).1
  unfold encO at h1
  split at h1
  · rename_i hc
    injection h1 with h1
    rw [← h1]
    exact ⟨hc.2, hc.1⟩
  · cases h1
end Go.Proofs.YtlanconcbpdneaaDoor
/- Layer 4: the document's guess: the plain law. No condition; no program. -/
namespace Go.Proofs.YtlanconcbpdneaaDoor
open Go.RowKit
def idG (s : Txt) : Txt := s.take 32 ++ List.replicate (32 - s.length) 0
theorem idG_len (s : Txt) : (idG s).length = 32 := by unfold idG; simp; omega
def gEnt (d : UInt8) (t : Txt) : EntL := ⟨(takeN t).1, d.toNat, idG (t.drop (takeN t).2)⟩
def gTree : Nat → Txt → List EntL → List EntL
  | f + 1, d :: t, acc => gTree f ((t.drop (takeN t).2).drop 32) (acc ++ [gEnt d t])
  | _, _, acc => acc
def gPars : Nat → Txt → List Txt → List Txt × Txt
  | 0, t, acc => (acc, t)
  | n + 1, t, acc => gPars n (t.drop 32) (acc ++ [idG t])
def gCommit (t : Txt) : ObjL :=
  let a := t.drop 32
  let b := a.drop (getN a).2
  let p := gPars (min (getN a).1 9) b []
  ⟨3, [], [], idG t, p.1, (getN p.2).1 % 4294967296, (takeN (p.2.drop (getN p.2).2)).1, noId, 0, []⟩
def gTag (t : Txt) : ObjL := ⟨4, [], [], noId, [], 0, [], idG (t.drop 1), (t.headD 0).toNat, (takeN ((t.drop 1).drop 32)).1⟩
def zeroO : ObjL := ⟨0, [], [], noId, [], 0, [], noId, 0, []⟩
def guessB (k : Nat) (t : Txt) : ObjL := if k = 1 then ⟨1, t, [], noId, [], 0, [], noId, 0, []⟩ else if k = 2 then ⟨2, [], gTree 65 t [], noId, [], 0, [], noId, 0, []⟩ else if k = 3 then gCommit t else if k = 4 then gTag t else nObj k
/-- The object that bytes may be the encoding of. -/
def guessL (c : UInt8) (q : Txt) : ObjL := if (takeN q).2 = 0 then zeroO else guessB c.toNat (takeN q).1
theorem put_pos (n : Nat) : 0 < (put n).length := putF_pos 9 n
theorem getN_app (n : Nat) (hn : n ≤ 18446744073709551615) (b : Txt) : getN (put n ++ b) = (n, (put n).length) := by unfold getN; rw [get_put n hn b]; rfl
theorem takeN_app (t b : Txt) (ht : t.length ≤ 18446744073709551615) : takeN (textE t ++ b) = (t, (textE t).length) := by
  have hg : getN (textE t ++ b) = (t.length, (put t.length).length) := by
    unfold textE
    rw [List.append_assoc, getN_app _ ht]
  have hp := put_pos t.length
  unfold takeN
  rw [hg]
  simp only
  rw [if_neg]
  · unfold textE
    rw [List.append_assoc, List.drop_left, List.take_left, List.length_append]
  · unfold textE
    simp only [List.length_append]
    omega
theorem idG_app (i b : Txt) (hi : i.length = 32) : idG (i ++ b) = i := by
  unfold idG
  rw [show 32 - (i ++ b).length = 0 from by simp; omega, ← hi, List.take_left]
  simp
theorem drop32 (i b : Txt) (hi : i.length = 32) : (i ++ b).drop 32 = b := by rw [← hi, List.drop_left]
theorem gTree_app : ∀ (l : List EntL) (f : Nat) (acc : List EntL), (∀ e ∈ l, (e.kind = 1 ∨ e.kind = 2) ∧ e.id.length = 32 ∧ e.name.length ≤ 18446744073709551615) → l.length ≤ f → gTree f (entsE l) acc = acc ++ l
  | [], 0, acc, _, _ => by simp [gTree]
  | [], f + 1, acc, _, _ => by simp [gTree, entsE]
  | e :: l, 0, acc, _, hf => by simp at hf
  | e :: l, f + 1, acc, h, hf => by
    obtain ⟨h1, h2, h3⟩ := h e (by simp)
    have he : entsE (e :: l) = byteK e.kind :: (textE e.name ++ (e.id ++ entsE l)) := by simp [entsE, entE]
    have ht := takeN_app e.name (e.id ++ entsE l) h3
    rw [he, gTree, gEnt, ht]
    simp only [List.drop_left]
    rw [drop32 e.id _ h2, idG_app e.id _ h2, gTree_app l f _ (fun x hx => h x (by simp [hx])) (by simp at hf; omega)]
    have := byteK_nat (k := e.kind) (by omega) (by omega)
    rw [this]
    simp
theorem gPars_app (b : Txt) : ∀ (l : List Txt) (acc : List Txt), (∀ p ∈ l, p.length = 32) → gPars l.length (l.flatten ++ b) acc = (acc ++ l, b)
  | [], acc, _ => by simp [gPars]
  | p :: l, acc, h => by
    have hp := h p (by simp)
    rw [List.length_cons, gPars, List.flatten_cons, List.append_assoc, idG_app p _ hp, drop32 p _ hp, gPars_app b l _ (fun x hx => h x (by simp [hx]))]
    simp
theorem guess_enc (o : ObjL) (hm : mayB o = true) (hs : Sound o) (hl : (bodyO o).length ≤ 4096) : guessB (byteK o.kind).toNat (bodyO o) = o := by
  obtain ⟨htr, hta, he, hp, htm⟩ := hs
  have ha := may_alone hm
  unfold aloneB at ha
  rcases may_kind hm with hk | hk | hk | hk
  · rw [hk] at ha
    simp at ha
    obtain ⟨c1, c2, c3, c4⟩ := commit_all ha.1.2
    obtain ⟨t1, t2, t3⟩ := tag_all ha.2
    have e1 := tree_nil ha.1.1
    have hb : bodyO o = o.data := by unfold bodyO; rw [if_pos hk]
    rw [hb, hk]
    show guessB 1 _ = _
    unfold guessB
    rw [if_pos rfl]
    obtain ⟨kind, data, ents, tree, pars, time, text, target, of_, name⟩ := o
    simp only at *
    subst hk c1 c2 c3 c4 t1 t2 t3 e1
    rfl
  · have hf : entsB o.ents = true := by
      unfold mayB at hm
      rw [if_pos hk] at hm
      simp at hm
      exact hm.2
    rw [hk] at ha
    simp at ha
    obtain ⟨c1, c2, c3, c4⟩ := commit_all ha.1.2
    obtain ⟨t1, t2, t3⟩ := tag_all ha.2
    have e1 := blob_nil ha.1.1
    have hb : bodyO o = entsE o.ents := by unfold bodyO; rw [if_neg (by omega), if_pos hk]
    rw [hb, hk]
    show guessB 2 _ = _
    unfold guessB
    rw [if_neg (by omega), if_pos rfl]
    have hfine := (ents_fine hf).2
    have := gTree_app o.ents 65 [] (fun e hx => ⟨(hfine e hx).2, he e hx, by have := name_len (hfine e hx).1; omega⟩) (by have := (ents_fine hf).1; omega)
    simp only [this, List.nil_append]
    obtain ⟨kind, data, ents, tree, pars, time, text, target, of_, name⟩ := o
    simp only at *
    subst hk c1 c2 c3 c4 t1 t2 t3 e1
    rfl
  · have hp8 : o.pars.length ≤ 8 := by
      unfold mayB at hm
      rw [if_neg (by omega), if_pos hk] at hm
      simp at hm
      exact hm.2
    rw [hk] at ha
    simp at ha
    obtain ⟨t1, t2, t3⟩ := tag_all ha.2
    have e1 := blob_nil ha.1.1
    have e2 := tree_nil ha.1.2
    have hb : bodyO o = commitE o := by unfold bodyO; rw [if_neg (by omega), if_neg (by omega), if_pos hk]
    rw [hb] at hl ⊢
    rw [hk]
    show guessB 3 _ = _
    unfold guessB
    rw [if_neg (by omega), if_neg (by omega), if_pos rfl]
    have htx : o.text.length ≤ 18446744073709551615 := by
      unfold commitE textE at hl
      simp only [List.length_append] at hl
      omega
    have hc : commitE o = o.tree ++ (put o.pars.length ++ (o.pars.flatten ++ (put o.time ++ (textE o.text ++ [])))) := by unfold commitE; simp
    rw [hc]
    unfold gCommit
    simp only [idG_app o.tree _ htr, drop32 o.tree _ htr, getN_app o.pars.length (by omega), List.drop_left, show min o.pars.length 9 = o.pars.length from by omega, gPars_app _ o.pars [] hp, getN_app o.time (by omega), takeN_app o.text [] htx, List.nil_append]
    rw [Nat.mod_eq_of_lt htm]
    obtain ⟨kind, data, ents, tree, pars, time, text, target, of_, name⟩ := o
    simp only at *
    subst hk t1 t2 t3 e1 e2
    rfl
  · have hfn : kindB o.of_ = true ∧ nameB o.name = true := by
      unfold mayB at hm
      rw [if_neg (by omega), if_neg (by omega), if_pos hk] at hm
      simp at hm
      exact ⟨hm.1.2, hm.2⟩
    rw [hk] at ha
    simp at ha
    obtain ⟨c1, c2, c3, c4⟩ := commit_all ha.2
    have e1 := blob_nil ha.1.1
    have e2 := tree_nil ha.1.2
    have hb : bodyO o = tagE o := by unfold bodyO; rw [if_neg (by omega), if_neg (by omega), if_neg (by omega), if_pos hk]
    rw [hb, hk]
    show guessB 4 _ = _
    unfold guessB
    rw [if_neg (by omega), if_neg (by omega), if_neg (by omega), if_pos rfl]
    have hnl := name_len hfn.2
    have hof : 1 ≤ o.of_ ∧ o.of_ ≤ 4 := by
      have := hfn.1
      unfold kindB at this
      simp at this
      exact this
    have hc : tagE o = byteK o.of_ :: (o.target ++ (textE o.name ++ [])) := by unfold tagE; simp
    rw [hc]
    unfold gTag
    have hbk := byteK_nat (k := o.of_) (by omega) (by omega)
    simp only [List.drop_succ_cons, List.drop_zero, List.headD_cons, idG_app o.target _ hta, drop32 o.target _ hta, takeN_app o.name [] (by omega), hbk]
    obtain ⟨kind, data, ents, tree, pars, time, text, target, of_, name⟩ := o
    simp only at *
    subst hk c1 c2 c3 c4 e1 e2
    rfl
theorem guess_whole (o : ObjL) (hm : mayB o = true) (hs : Sound o) (hl : (bodyO o).length ≤ 4096) : guessL (byteK o.kind) (textE (bodyO o)) = o := by
  have ht := takeN_app (bodyO o) [] (by omega)
  rw [List.append_nil] at ht
  unfold guessL
  rw [ht, if_neg (show ¬ (textE (bodyO o)).length = 0 from by unfold textE; have := put_pos (bodyO o).length; rw [List.length_append]; omega)]
  exact guess_enc o hm hs hl
theorem gTree_sound : ∀ (f : Nat) (t : Txt) (acc : List EntL), (∀ e ∈ acc, e.id.length = 32) → ∀ e ∈ gTree f t acc, e.id.length = 32
  | 0, t, acc, h => by rw [gTree]; exact h; intro a b c hc; cases hc
  | f + 1, [], acc, h => by rw [gTree]; exact h; intro a b c hc hd; cases hd
  | f + 1, d :: t, acc, h => by
    rw [gTree]
    refine gTree_sound f _ _ ?_
    intro e he
    rcases List.mem_append.1 he with he | he
    · exact h e he
    · obtain rfl := List.mem_singleton.1 he
      exact idG_len _
theorem gPars_sound : ∀ (n : Nat) (t : Txt) (acc : List Txt), (∀ e ∈ acc, e.length = 32) → ∀ e ∈ (gPars n t acc).1, e.length = 32
  | 0, t, acc, h => h
  | n + 1, t, acc, h => by
    rw [gPars]
    refine gPars_sound n _ _ ?_
    intro e he
    rcases List.mem_append.1 he with he | he
    · exact h e he
    · obtain rfl := List.mem_singleton.1 he
      exact idG_len _
theorem guess_sound (c : UInt8) (q : Txt) : Sound (guessL c q) := by
  unfold guessL guessB
  repeat' split
  · exact ⟨noId_len, noId_len, (by intro p hp; cases hp), (by intro p hp; cases hp), by show 0 < _; omega⟩
  · exact ⟨noId_len, noId_len, (by intro p hp; cases hp), (by intro p hp; cases hp), by show 0 < _; omega⟩
  · exact ⟨noId_len, noId_len, gTree_sound _ _ _ (by simp), (by intro p hp; cases hp), by show 0 < _; omega⟩
  · exact ⟨idG_len _, noId_len, (by intro p hp; cases hp), gPars_sound _ _ _ (by simp), Nat.mod_lt _ (by omega)⟩
  · exact ⟨noId_len, idG_len _, (by intro p hp; cases hp), (by intro p hp; cases hp), by show 0 < _; omega⟩
  · exact ⟨noId_len, noId_len, (by intro p hp; cases hp), (by intro p hp; cases hp), by show 0 < _; omega⟩
/-- The document's decoding is ours. -/
theorem dec_same (c : UInt8) (q : Txt) : decO (c :: q) = if encO (guessL c q) = some (c :: q) then some (guessL c q) else none := by
  split
  · rename_i h
    have hs := guess_sound c q
    exact (dec_enc h hs.tree hs.target hs.ents hs.pars hs.time).1
  · rename_i h
    cases hd : decO (c :: q) with
    | none => rfl
    | some o =>
      exfalso
      apply h
      obtain ⟨h1, hs⟩ := dec_back hd
      have hm := (dec_len hd).2
      have h2 := h1
      unfold encO at h2
      split at h2
      · rename_i hc
        injection h2 with h2
        have hw : wholeO o = byteK o.kind :: textE (bodyO o) := rfl
        rw [hw] at h2 hc
        have hbl : (bodyO o).length ≤ 4096 := by have := hc.2; unfold textE at this; simp at this; omega
        injection h2 with h3 h4
        have hg := guess_whole o hm hs hbl
        rw [h3, h4] at hg
        rw [hg]
        exact h1
      · cases h2
end Go.Proofs.YtlanconcbpdneaaDoor
