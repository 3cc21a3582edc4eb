/- Copies of disks; what a write that is cut off leaves. No condition. -/
import Derived.Test.YtejaeclcgkcklaaDiskL
import Derived.Test.YtejaeclcgkcklaaDiskY
namespace Go.Proofs.Ytejaeclcgkcklaa
open Go.RowKit
theorem find_setK {α : Type} {key : α → List UInt8} {x : α} {n : List UInt8} (hx : (key x == n) = false) (l : List α) (d : Bool) : (setK key x d l).find? (fun r => key r == n) = l.find? (fun r => key r == n) := by
  induction l generalizing d with
  | nil => cases d <;> simp [setK, hx]
  | cons y l ih =>
    rw [setK, List.append_assoc, List.find?_append, List.find?_append]
    have h1 : (if (!d && !Op.bytesLess (key y) (key x)) = true then [x] else []).find? (fun r => key r == n) = none := by
      split
      · rw [List.find?_cons, hx]; rfl
      · rfl
    rw [h1, Option.none_or, ih, List.find?_cons]
    cases hy : (key y == key x) with
    | true =>
      have hyn : (key y == n) = false := by
        have e : key y = key x := by simpa using hy
        rw [e]; exact hx
      rw [hyn]
      rfl
    | false =>
      simp only [Bool.false_eq_true, if_false, List.find?_cons]
      cases key y == n <;> rfl
theorem getL_edit {l : List FileL} (hs : SortedK FileL.name l) {n m : Txt} (d : Txt) (h : (n == m) = false) : getL (editL l n d false) m = getL l m := by
  unfold getL
  rw [← setK_edit l hs n d false]
  exact find_setK (key := FileL.name) (x := ⟨n, d⟩) h l false
/-- A write that is cut off changes no other file. -/
theorem cut_other {s : DiskL} (hok : DiskOk s) {part : Int} {n d m : Txt} (h : (n == m) = false) : getR (upS (writeS (failS (upS s) 0 part) n d false)) m = getR (upS s) m := by
  have e : ∀ t : DiskL, getR (upS t) m = getT (getL t.l m) := fun t => rfl
  rw [e, e]
  congr 1
  unfold writeS failS upS
  have h0 : (if (0 : Int) < -1 then (-1 : Int) else 0) = 0 := by decide
  simp only [h0, Bool.false_eq_true, if_false, if_true]
  split
  · exact getL_edit hok.sorted _ h
  · rfl
theorem cut_code (s : DiskL) (part : Int) : writeC (failS (upS s) 0 part) = 11 := by
  unfold writeC failS upS
  simp
section
variable {w0 w w' : World} {base base' p q : Nat} {vl vm vl' vm' : Value} {s m s' m' : DiskL}
theorem DiskAt.lower (h : DiskAt w base p vl s) (hb : base' ≤ base) : DiskAt w base' p vl s := ⟨h.blk, own_base h.own hb, h.ok⟩
theorem RDiskAt.lower (h : RDiskAt w base q vm s) (hb : base' ≤ base) : RDiskAt w base' q vm s := ⟨h.blk, own_base h.own hb, h.ok⟩
theorem Pair.trans (h : Pair w0 w base p q vl vm s m) (h1 : DiskAt w base p vl' s) (n1 : Newer w0 vl vl') (h2 : RDiskAt w base q vm' m) (n2 : Newer w0 vm vm') (h' : Pair w w' base p q vl' vm' s' m') : Pair w0 w' base p q vl vm s' m' := by
  obtain ⟨⟨a, ha, na⟩, ⟨b, hb, nb⟩, hf⟩ := h'
  have hsz := h.far.size
  refine ⟨⟨a, ha, n1.then_ na hsz⟩, ⟨b, hb, n2.then_ nb hsz⟩, h.far.then_ hf fun k hk => ?_⟩
  simp only [List.mem_cons, List.not_mem_nil, or_false] at hk
  rcases hk with e | e | e | e
  · exact .inl (by rw [e]; simp)
  · rcases n1.in_ e.symm with h3 | h3
    · exact .inl (by rw [← h3]; simp)
    · exact .inr h3
  · exact .inl (by rw [e]; simp)
  · rcases n2.in_ e.symm with h3 | h3
    · exact .inl (by rw [← h3]; simp)
    · exact .inr h3
end
end Go.Proofs.Ytejaeclcgkcklaa
