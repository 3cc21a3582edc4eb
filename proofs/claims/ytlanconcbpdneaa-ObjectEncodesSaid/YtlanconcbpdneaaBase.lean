/- The words of this seat's walks: a string as a list of bytes, a byte slice that the call owns, and the laws of append, of conversion and of the string operations in these words. No condition; no program is named. -/
import Derived.Test.YtlanconcbpdneaaProg
import Derived.WalkKit
import Derived.WalkSpells
import Derived.WalkLawsBesides
import Derived.Lib.Hide
import Derived.Lib.AppendStr
import Derived.Deep.AppendLies
import Derived.Deep.Draws
import Derived.Deep.QuietTactic
import Derived.BigQuiet
import Derived.BigGuardPart
import Derived.Deep.DeepMust
namespace Go.Proofs.Ytlanconcbpdneaa
open Go.RowKit

/-- The string of a list of bytes. -/
def B (l : List UInt8) : ByteArray := ⟨l.toArray⟩
theorem size_B (l : List UInt8) : (B l).size = l.length := rfl
theorem toList_B (l : List UInt8) : (B l).toList = l := ByteArray.toList_mk l
theorem data_B (l : List UInt8) : (B l).data = l.toArray := rfl
theorem getElem_B (l : List UInt8) (i : Nat) (h : i < (B l).size) : (B l)[i]'h = l[i]'(by rw [size_B] at h; exact h) := rfl
theorem append_B (a b : List UInt8) : B a ++ B b = B (a ++ b) := ByteArray.mk_append_mk a b
theorem extract_B (l : List UInt8) (a b : Nat) : (B l).extract a b = B ((l.drop a).take (b - a)) := ByteArray.extract_mk l a b
theorem extract_B_from (l : List UInt8) (a : Nat) : (B l).extract a l.length = B (l.drop a) := by
  rw [extract_B, List.take_of_length_le (by simp)]
theorem extract_B_to (l : List UInt8) (b : Nat) : (B l).extract 0 b = B (l.take b) := by
  rw [extract_B]; simp
theorem mk_B (l : List UInt8) : ByteArray.mk l.toArray = B l := rfl
theorem append_B_mk (a b : List UInt8) : B a ++ ByteArray.mk b.toArray = B (a ++ b) := append_B a b
theorem append_mk_B (a b : List UInt8) : ByteArray.mk a.toArray ++ B b = B (a ++ b) := append_B a b
theorem B_mk (s : ByteArray) : ∃ l, s = B l := ⟨s.data.toList, rfl⟩
theorem B_inj {a b : List UInt8} (h : B a = B b) : a = b := by
  have := congrArg ByteArray.toList h
  rwa [toList_B, toList_B] at this
theorem take_drop_all (l : List UInt8) (a : Nat) : (l.drop a).take (l.length - a) = l.drop a := List.take_of_length_le (by simp)
attribute [go_sem] size_B toList_B getElem_B append_B extract_B take_drop_all append_B_mk append_mk_B

/-- The bytes of a string value: for a loop's measure. -/
def strOf : Value → List UInt8 | .string s => s.data.toList | _ => []
theorem strOf_B (l : List UInt8) : strOf (.string (B l)) = l := rfl
/-- A byte as a value. -/
def u8v (c : UInt8) : Value := .int .u8 c.toNat
theorem u8v_eq (c : UInt8) : u8v c = .int .u8 c.toNat := rfl
theorem u8v_one (l : List UInt8) : ∀ u ∈ l.map u8v, u.oneCell' = true := by
  intro u hu
  simp only [List.mem_map] at hu
  obtain ⟨b, _, rfl⟩ := hu
  rfl
theorem strCells_B (l : List UInt8) : Lib.strCells (B l) = l.map u8v := by
  simp [Lib.strCells, B, u8v]

/-- What a slice type and its element's type are in the program's table. -/
structure SliceTy (P : Program) (t e : TypeId) (z : Value) (size bytes : Nat) : Prop where
  ht : P.underlying t = some (.slice e)
  hi : ∃ i, P.info? e = some i ∧ i.zero = some z ∧ i.size = size ∧ i.bytes = bytes
  hzs : z.cells.size = size
  hsz : 0 < size

/-- The slice value v reads as l, lies in memory of the call's own, and is at base or behind it. -/
def OwnB (w : World) (base : Nat) (e : TypeId) (v : Value) (l : List UInt8) : Prop := w.ownsRow base e 1 v l.length (l.map u8v)
theorem OwnB.nil (w : World) (base : Nat) (e : TypeId) : OwnB w base e (.slice none 0 0) [] := World.ownsRow_nil w base e 1
theorem OwnB.alloc {w : World} {base : Nat} {e : TypeId} {v : Value} {l : List UInt8} (h : OwnB w base e v l) (o : Obj) : OwnB (w.alloc o) base e v l := World.ownsRow.alloc h o
theorem OwnB.drew {w : World} {base : Nat} {e : TypeId} {v : Value} {l : List UInt8} (h : OwnB w base e v l) : OwnB w.drew base e v l := h
theorem OwnB.drewN {w : World} {base : Nat} {e : TypeId} {v : Value} {l : List UInt8} (h : OwnB w base e v l) (n : Nat) : OwnB (w.drewN n) base e v l := h
theorem OwnB.lt {w : World} {base : Nat} {e : TypeId} {v : Value} {l : List UInt8} (h : OwnB w base e v l) : ∀ k, v.ownBlock = some k → base ≤ k ∧ k < w.heap.size := World.ownsRow.lt h
theorem OwnB.kept {w w' : World} {base : Nat} {e : TypeId} {v : Value} {l : List UInt8} {row : Option Nat} (h : OwnB w base e v l) (hg : w.grownBy w' row) (hne : v.ownBlock = none ∨ v.ownBlock ≠ row) : OwnB w' base e v l := World.ownsRow.kept h hg hne
theorem OwnB.below {w w' : World} {base : Nat} {e : TypeId} {v : Value} {l : List UInt8} (h : OwnB w base e v l) (hb : Below w.heap.size w w') : OwnB w' base e v l :=
  h.kept (row := none) ⟨hb.os, hb.tape, hb.output, hb.size, fun k hk _ => hb.block k hk⟩ (by
    cases hv : v.ownBlock with
    | none => exact .inl rfl
    | some k => exact .inr (by simp))
/-- The value's form. -/
theorem OwnB.form {w : World} {base : Nat} {e : TypeId} {v : Value} {l : List UInt8} (h : OwnB w base e v l) : (v = .slice none 0 0 ∧ l = []) ∨ ∃ g cap, v = .slice (some ⟨g, 0, none⟩) l.length cap ∧ base ≤ g ∧ g < w.heap.size ∧ l.length ≤ cap := by
  rcases h.2 with ⟨h1, h2⟩ | ⟨g, cap, cur, h1, h2, h3, h4, _⟩
  · exact .inl ⟨h1, List.eq_nil_of_length_eq_zero h2⟩
  · refine .inr ⟨g, cap, h1, h2, ?_, h4⟩
    rcases Nat.lt_or_ge g w.heap.size with hlt | hge
    · exact hlt
    · rw [Array.getElem?_eq_none hge] at h3; cases h3
/-- ... as one line: some address, the length, some capacity. -/
theorem OwnB.form' {w : World} {base : Nat} {e : TypeId} {v : Value} {l : List UInt8} (h : OwnB w base e v l) : ∃ A cap, v = .slice A l.length cap := by
  rcases h.form with ⟨rfl, rfl⟩ | ⟨g, cap, rfl, _⟩
  · exact ⟨_, _, rfl⟩
  · exact ⟨_, _, rfl⟩
theorem OwnB.cell {w : World} {base : Nat} {e : TypeId} {A : Option Addr} {n cap : Nat} {l : List UInt8} (h : OwnB w base e (.slice A n cap) l) {j : Nat} (hj : j < l.length) :
    ∃ g, A = some ⟨g, 0, none⟩ ∧ n = l.length ∧ g < w.heap.size ∧ w.cell? ⟨g, j, none⟩ = some (.int .u8 (l[j]'hj).toNat) := by
  rcases h.form with ⟨_, rfl⟩ | ⟨g, cap', hv, _, hg, _⟩
  · simp at hj
  · injection hv with h1 h2 h3
    subst h1 h2 h3
    refine ⟨g, rfl, rfl, hg, ?_⟩
    have := World.ownsRow.cellAt (h : w.ownsRow base e 1 _ _ _) j (by simpa using hj)
    rw [this, List.getElem?_map, List.getElem?_eq_getElem hj]
    rfl
theorem OwnB.one {w : World} {base : Nat} {e : TypeId} (hb : base ≤ w.heap.size) (c : UInt8) : OwnB (w.alloc (.cells #[u8v c] e)) base e (.slice (some ⟨w.heap.size, 0, none⟩) 1 1) [c] :=
  World.ownsRow_lit (size := 1) w #[u8v c] 1 hb (by simp [maxLen]) rfl

theorem ofNat_toNat_u8 (n : Nat) (h : n < 256) : (UInt8.ofNat n).toNat = n := by
  simp [Nat.mod_eq_of_lt h]
theorem cell_new1 (w : World) (u : Value) (t : TypeId) : (w.alloc (.cells #[u] t)).cell? ⟨w.heap.size, 0, none⟩ = some u := by
  rw [World.cell?_alloc_new]; rfl
theorem ofNat_add_u8 (a b : Nat) : UInt8.ofNat (a + b) = UInt8.ofNat a + UInt8.ofNat b := by simp
theorem u8v_ofNat (n : Nat) (h : n < 256) : u8v (UInt8.ofNat n) = .int .u8 n := by rw [u8v, ofNat_toNat_u8 n h]

section
variable {P : Program}

/-- string(b), b a byte slice of the call's own. -/
theorem run_string_of_own (w : World) (t e d : TypeId) (ht : P.underlying t = some (.slice e)) (he : P.underlying e = some (.int .u8)) (hd : P.underlying d = some .string)
    {base : Nat} {v : Value} {l : List UInt8} (h : OwnB w base e v l) : (convert t d v).run P w = .ok (.string (B l)) w := by
  rcases h.form with ⟨rfl, rfl⟩ | ⟨g, cap, rfl, _, hg, _⟩
  · exact run_convert_bytes_nil w t e ht he 0 0 d hd
  · rw [run_convert_bytes_arg w t e ht he g 0 l.length cap (l.map fun c => (c.toNat : Int)) (by simp) (fun i hi => by
      obtain ⟨g', h1, _, _, h4⟩ := OwnB.cell h hi
      injection h1 with h1
      injection h1 with h1
      subst h1
      rw [Nat.zero_add, h4]
      simp [List.getD, List.getElem?_map, List.getElem?_eq_getElem hi]) d hd]
    have hl : (l.map fun c => (c.toNat : Int)).map (fun n => UInt8.ofNat n.toNat) = l := by
      rw [List.map_map]
      exact (List.map_congr_left (g := id) (fun c _ => by simp)).trans (List.map_id l)
    rw [strOfNums, hl]
    rfl

/-- append(b, c), b of the call's own, c one byte that was laid in a block of its own. -/
theorem wpList_append_byte {w : World} {ops : Array Oper} {rest : List Oper} {o : Oper} {a : Act} {Q : Exit → Act → World → Prop} (hgd : o.guard = none) (s x : Operand) (t : TypeId)
    (ho : o.op = .call { callee := .builtin .append, args := #[s, x], argTypes := #[t, t] })
    (e : TypeId) (hT : SliceTy P t e (.int .u8 0) 1 1) (base : Nat) (v : Value) (l : List UInt8) (hs : a.eval s = v) (hown : OwnB w base e v l)
    (k : Nat) (n : Int) (hx : a.eval x = .slice (some ⟨k, 0, none⟩) 1 1) (hcell : w.cell? ⟨k, 0, none⟩ = some (.int .u8 n)) (hn0 : 0 ≤ n) (hn1 : n < 256) (hlen : l.length ≤ 70368744177664)
    (w0 : World) (hb : Below base w0 w) (hbase : base ≤ w.heap.size)
    (h : ∀ v' w', OwnB w' base e v' (l ++ [UInt8.ofNat n.toNat]) → Below base w0 w' → w.grownBy w' v.ownBlock → wpList P ops Q rest (a.put o.dst v') w') : wpList P ops Q (o :: rest) a w := by
  have hc : ((UInt8.ofNat n.toNat).toNat : Int) = n := by rw [ofNat_toNat_u8 _ (by omega)]; omega
  generalize UInt8.ofNat n.toNat = c at hc h
  obtain ⟨i, h1, h2, h3, h4⟩ := hT.hi
  refine wpList_append_own w hgd s x t ho base e i (.int .u8 0) 1 1 hT.ht h1 h2 h3 h4 rfl (by omega) v l.length (l.map u8v) hs hown ⟨k, 0, none⟩ 1 1 [u8v c] hx rfl ?_ (by simp [u8v]; rfl)
    (by simp only [maxLen]; omega) (by omega) hbase ?_
  · intro j u hu
    match j, hu with
    | 0, hu =>
      injection hu with hu
      subst hu
      rw [u8v, hc]
      exact hcell
  · intro v' w' hown' hg _
    refine h v' w' ?_ (hb.grown hg hbase (fun k hk => (hown.lt k hk).1)) hg
    simpa [OwnB] using hown'

/-- append(b, s...), b of the call's own, s a string. -/
theorem wpList_append_bytes {w : World} {ops : Array Oper} {rest : List Oper} {o : Oper} {a : Act} {Q : Exit → Act → World → Prop} (hgd : o.guard = none) (s x : Operand) (t u : TypeId)
    (ho : o.op = .call { callee := .builtin .append, args := #[s, x], argTypes := #[t, u] })
    (e : TypeId) (hT : SliceTy P t e (.int .u8 0) 1 1) (hu : P.underlying u = some .string) (base : Nat) (v : Value) (l : List UInt8) (hs : a.eval s = v) (hown : OwnB w base e v l)
    (m : List UInt8) (hx : a.eval x = .string (B m)) (hlen : l.length + m.length ≤ 70368744177664)
    (w0 : World) (hb : Below base w0 w) (hbase : base ≤ w.heap.size)
    (h : ∀ v' w', OwnB w' base e v' (l ++ m) → Below base w0 w' → w.grownBy w' v.ownBlock → wpList P ops Q rest (a.put o.dst v') w') : wpList P ops Q (o :: rest) a w := by
  obtain ⟨i, h1, h2, h3, h4⟩ := hT.hi
  refine Lib.wpList_append_own_string w hgd s x t u ho base e i hT.ht hu h1 h2 h3 h4 v l.length (l.map u8v) hs hown (B m) hx
    (by rw [size_B]; simp only [maxLen]; omega) (by rw [size_B]; omega) hbase ?_
  intro v' w' hown' hg _
  refine h v' w' ?_ (hb.grown hg hbase (fun k hk => (hown.lt k hk).1)) hg
  rw [strCells_B, size_B] at hown'
  simpa [OwnB] using hown'
end

/-- Block g is just these cells of element type t, none frozen. -/
def Blk (w : World) (g : Nat) (t : TypeId) (cs : Array Value) : Prop := w.heap[g]? = some (.cells cs t (0, 0))
section
variable {w w' : World} {g : Nat} {t : TypeId} {cs : Array Value}
theorem Blk.lt (h : Blk w g t cs) : g < w.heap.size := by
  rcases Nat.lt_or_ge g w.heap.size with hlt | hge
  · exact hlt
  · unfold Blk at h; rw [Array.getElem?_eq_none hge] at h; cases h
theorem Blk.cell (h : Blk w g t cs) (i : Nat) : w.cell? ⟨g, i, none⟩ = cs[i]? := cell_of_row w g i cs t (0, 0) h
theorem Blk.frozen (h : Blk w g t cs) (i : Nat) : w.frozen? ⟨g, i, none⟩ = false := by
  unfold Blk at h
  simp [World.frozen?, h]
theorem Blk.new (w : World) (t : TypeId) (cs : Array Value) : Blk (w.alloc (.cells cs t)) w.heap.size t cs := heap_alloc_new w _
theorem Blk.drew (h : Blk w g t cs) : Blk w.drew g t cs := h
theorem Blk.drewN (h : Blk w g t cs) (n : Nat) : Blk (w.drewN n) g t cs := h
theorem Blk.alloc (h : Blk w g t cs) (o : Obj) : Blk (w.alloc o) g t cs := (Below.heap_alloc w o g h.lt).trans h
theorem Blk.set_ (h : Blk w g t cs) (i : Nat) (u : Value) : Blk (w.setCell ⟨g, i, none⟩ u) g t (cs.setIfInBounds i u) := by
  unfold Blk at h ⊢
  simp [World.setCell, Array.getElem?_modify, h]
theorem Blk.far (h : Blk w g t cs) {p : Addr} (hp : g ≠ p.block) (u : Value) : Blk (w.setCell p u) g t cs := (Below.heap_setCell w p u g hp).trans h
theorem Blk.below {B0 : Nat} (h : Blk w g t cs) (hb : Below B0 w w') (hg : g < B0) : Blk w' g t cs := (hb.block g hg).trans h
theorem Blk.grown {row : Option Nat} (h : Blk w g t cs) (hb : w.grownBy w' row) (hg : some g ≠ row) : Blk w' g t cs := (hb.block g h.lt hg).trans h
theorem Blk.ne_ {g' : Nat} {t' : TypeId} {cs' : Array Value} (h : Blk w g t cs) (h' : Blk w g' t' cs') (hne : t ≠ t') : g ≠ g' := by
  rintro rfl
  unfold Blk at h h'
  rw [h] at h'
  injection h' with h'
  injection h' with _ ht
  exact hne ht
theorem own_blk_ne {base : Nat} {e : TypeId} {size n : Nat} {v : Value} {xs : List Value} (h : w.ownsRow base e size v n xs) (hg : Blk w g t cs) (hne : e ≠ t) : some g ≠ v.ownBlock := by
  rcases h.2 with ⟨rfl, _⟩ | ⟨g', cap, cur, rfl, _, hh, _⟩
  · simp [Value.ownBlock]
  · intro he
    have : g' = g := by simpa [Value.ownBlock] using he.symm
    subst this
    exact Blk.ne_ (t := e) hh hg hne rfl
end

/-- A block of another type stays as it was while the byte slice grows. -/
theorem blk_own_step {w w' : World} {g : Nat} {t e : TypeId} {cs : Array Value} {base : Nat} {v : Value} {l : List UInt8} (h : Blk w g t cs) (ho : OwnB w base e v l) (hg : w.grownBy w' v.ownBlock) (hne : e ≠ t) : Blk w' g t cs :=
  h.grown hg (own_blk_ne ho h hne)

/-- Below, for a walk's end. -/
theorem bdrewN {B0 : Nat} {a w : World} (h : Below B0 a w) (n : Nat) : Below B0 a (w.drewN n) := ⟨h.os, h.tape, h.output, h.size, h.block⟩
theorem bthen {a b c : World} {B0 : Nat} (h : Below B0 a b) (hB : B0 ≤ b.heap.size) (k : Below b.heap.size b c) : Below B0 a c := h.trans (k.mono hB)

theorem Try.bytesTy : SliceTy Try.prog 46 5 (.int .u8 0) 1 1 := ⟨Try.underlying46, info_parts (by kernel_rfl), rfl, by omega⟩
theorem Try.str_of_own (w : World) {base : Nat} {v : Value} {l : List UInt8} (h : OwnB w base 5 v l) : (convert 46 9 v).run Try.prog w = .ok (.string (B l)) w :=
  run_string_of_own w 46 5 9 Try.underlying46 Try.underlying5 Try.underlying9 h
/-- string([]byte{c}) -/
theorem Try.str_of_one (w : World) (x : Int) : (convert 46 9 (.slice (some ⟨w.heap.size, 0, none⟩) 1 1)).run Try.prog (w.alloc (.cells #[.int .u8 x] 5)) =
    .ok (.string (B [UInt8.ofNat x.toNat])) (w.alloc (.cells #[.int .u8 x] 5)) := by
  rw [run_convert_bytes_arg _ 46 5 Try.underlying46 Try.underlying5 w.heap.size 0 1 1 [x] rfl (fun i hi => by
    have : i = 0 := by omega
    subst this
    rw [World.cell?_alloc_new]; rfl) 9 Try.underlying9]
  rfl
/-- ... the block's number spelt otherwise. -/
theorem Try.str_of_oneAt (w : World) (k : Nat) (x : Int) (h : k = w.heap.size) : (convert 46 9 (.slice (some ⟨k, 0, none⟩) 1 1)).run Try.prog (w.alloc (.cells #[.int .u8 x] 5)) =
    .ok (.string (B [UInt8.ofNat x.toNat])) (w.alloc (.cells #[.int .u8 x] 5)) := by
  subst h
  exact Try.str_of_one w x
end Go.Proofs.Ytlanconcbpdneaa
