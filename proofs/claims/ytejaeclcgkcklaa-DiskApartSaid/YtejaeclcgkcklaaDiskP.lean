/- What a disk comes to, plain. No condition; no program. -/
import Derived.Test.YtejaeclcgkcklaaFileE
namespace Go.Proofs.Ytejaeclcgkcklaa
/-- A disk: its files, its fuse, the part of a write that is cut off, whether it is down. -/
structure DiskL where
  l : List FileL
  fuse : Int
  part : Int
  down : Bool
def I64 (x : Int) : Prop := -9223372036854775808 ≤ x ∧ x ≤ 9223372036854775807
/-- A disk that may be: no file twice, few files. -/
structure DiskOk (s : DiskL) : Prop where
  ok : ∀ r ∈ s.l, FileOk r
  sorted : SortedK FileL.name s.l
  fuse : -1 ≤ s.fuse ∧ s.fuse ≤ 9223372036854775807
  part : I64 s.part
  few : s.l.length ≤ 500000
def editL (l : List FileL) (n d : List UInt8) (gone : Bool) : List FileL := if gone then dropK FileL.name l n else putK FileL.name l ⟨n, d⟩
def cutS (s : DiskL) : DiskL := if s.fuse = 0 then { s with down := true } else if 0 < s.fuse then { s with fuse := s.fuse - 1 } else s
def cutD (s : DiskL) (d : List UInt8) : List UInt8 := d.take (min s.part.toNat d.length)
/-- What a write comes to. -/
def writeS (s : DiskL) (n d : List UInt8) (gone : Bool) : DiskL :=
  if s.down then s else if s.fuse = 0 then (if 0 < s.part then { s with down := true, l := editL s.l n (cutD s d) gone } else { s with down := true })
  else if 0 < s.fuse then { s with fuse := s.fuse - 1, l := editL s.l n d gone } else { s with l := editL s.l n d gone }
def writeC (s : DiskL) : Int := if s.down then 11 else if s.fuse = 0 then 11 else 0
def failS (s : DiskL) (n part : Int) : DiskL := { s with fuse := if n < -1 then -1 else n, part := part }
def upS (s : DiskL) : DiskL := { s with fuse := -1, down := false }
def newS : DiskL := ⟨[], -1, 0, false⟩
def getL (l : List FileL) (n : List UInt8) : Option FileL := l.find? (fun r => r.name == n)
theorem editL_len (l : List FileL) (n d : List UInt8) (g : Bool) : (editL l n d g).length ≤ l.length + 1 := by
  unfold editL
  split
  · have := dropK_len (key := FileL.name) (l := l) (n := n); omega
  · exact putK_len
theorem editL_ok {l : List FileL} {n d : List UInt8} (g : Bool) (h : ∀ r ∈ l, FileOk r) (hn : n.length ≤ 9223372036854775807) (hd : d.length ≤ 9223372036854775807) : ∀ r ∈ editL l n d g, FileOk r := by
  intro r hr
  unfold editL at hr
  split at hr
  · exact h r (dropK_mem hr).1
  · rcases putK_mem hr with hr | rfl
    · exact h r hr
    · exact ⟨hn, hd⟩
theorem editL_sorted {l : List FileL} {n d : List UInt8} (g : Bool) (h : SortedK FileL.name l) : SortedK FileL.name (editL l n d g) := by
  unfold editL
  split
  · exact sorted_drop h
  · exact sorted_put h
theorem DiskOk.edit {s : DiskL} (h : DiskOk s) {n d : List UInt8} (g : Bool) (hn : n.length ≤ 9223372036854775807) (hd : d.length ≤ 9223372036854775807) (hf : s.l.length < 500000) : DiskOk { s with l := editL s.l n d g } :=
  ⟨editL_ok g h.ok hn hd, editL_sorted g h.sorted, h.fuse, h.part, by have := editL_len s.l n d g; show (editL s.l n d g).length ≤ _; omega⟩
theorem cutD_len (s : DiskL) (d : List UInt8) : (cutD s d).length ≤ d.length := by unfold cutD; simp; omega
theorem writeS_len (s : DiskL) (n d : List UInt8) (g : Bool) : (writeS s n d g).l.length ≤ s.l.length + 1 := by
  have h1 := editL_len s.l n d g
  have h2 := editL_len s.l n (cutD s d) g
  unfold writeS
  (repeat' split) <;> first | exact h1 | exact h2 | exact Nat.le_succ _
theorem DiskOk.write {s : DiskL} (h : DiskOk s) {n d : List UInt8} (g : Bool) (hn : n.length ≤ 9223372036854775807) (hd : d.length ≤ 9223372036854775807) (hf : s.l.length < 500000) : DiskOk (writeS s n d g) := by
  have h1 := h.edit (n := n) (d := d) g hn hd hf
  have h2 := h.edit (n := n) (d := cutD s d) g hn (Nat.le_trans (cutD_len s d) hd) hf
  have := h.fuse
  unfold writeS
  split
  · exact h
  split
  · split
    · exact ⟨h2.ok, h2.sorted, h.fuse, h.part, h2.few⟩
    · exact ⟨h.ok, h.sorted, h.fuse, h.part, h.few⟩
  split
  · exact ⟨h1.ok, h1.sorted, ⟨by show _ ≤ s.fuse - 1; omega, by show s.fuse - 1 ≤ _; omega⟩, h.part, h1.few⟩
  · exact ⟨h1.ok, h1.sorted, h.fuse, h.part, h1.few⟩
theorem DiskOk.fail {s : DiskL} (h : DiskOk s) {n p : Int} (hn : I64 n) (hp : I64 p) : DiskOk (failS s n p) :=
  ⟨h.ok, h.sorted, by have := hn.2; unfold failS; dsimp only; split <;> omega, hp, h.few⟩
theorem DiskOk.up {s : DiskL} (h : DiskOk s) : DiskOk (upS s) := ⟨h.ok, h.sorted, by unfold upS; dsimp only; omega, h.part, h.few⟩
theorem newOk : DiskOk newS := ⟨fun r hr => by simp [newS] at hr, List.Pairwise.nil, by simp [newS], by simp [newS, I64], by simp [newS]⟩
/-- A file of one's own name is found. -/
theorem getL_self {l : List FileL} (hs : SortedK FileL.name l) {i : Nat} {x : FileL} (hx : l[i]? = some x) : getL l x.name = some x := by
  induction l generalizing i with
  | nil => simp at hx
  | cons y l ih =>
    cases i with
    | zero => simp at hx; subst hx; simp [getL]
    | succ i =>
      have hx' : l[i]? = some x := by simpa using hx
      have h1 := less_ne (sorted_head hs x (List.mem_of_getElem? hx'))
      have := ih (sorted_cons hs) hx'
      unfold getL at this ⊢
      rw [List.find?_cons, h1]
      exact this
end Go.Proofs.Ytejaeclcgkcklaa
