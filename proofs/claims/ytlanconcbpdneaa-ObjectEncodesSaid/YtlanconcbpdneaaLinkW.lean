/- Links: their literal, == on them. No condition. -/
import Derived.Test.YtlanconcbpdneaaObjF
import Derived.Test.YtlanconcbpdneaaLitB
import Derived.Great.FillDense
namespace Go.Proofs.Ytlanconcbpdneaa
open Go.RowKit
def LinkOk (l : LinkL) : Prop := l.id.length = 32
def zLink : Value := .agg (linkC ⟨List.replicate 32 0, 0⟩).toArray
theorem Try.linkTy : SliceTy Try.prog 40 59 zLink 33 40 := ⟨Try.underlying40, info_parts (by kernel_rfl), rfl, by omega⟩
abbrev Links (w : World) (v : Value) (l : List LinkL) : Prop := SliceAt w 33 linkC v l
abbrev OwnLinks (w : World) (base : Nat) (v : Value) (l : List LinkL) : Prop := w.ownsRow base 59 33 v l.length (rowsOf linkC l)
theorem linkK {l : List LinkL} (h : ∀ x ∈ l, LinkOk x) : ∀ x ∈ l, (linkC x).length = 33 := fun x hx => linkC_len (h x hx)
theorem linkC_one (r : LinkL) : ∀ u ∈ linkC r, u.oneCell' = true := by
  intro u hu
  simp only [linkC, List.mem_append, u8s, List.toList_toArray, List.mem_map, List.mem_singleton] at hu
  rcases hu with ⟨c, _, rfl⟩ | rfl <;> rfl
theorem OwnLinks.links {w : World} {base : Nat} {v : Value} {l : List LinkL} (hok : ∀ x ∈ l, LinkOk x) (h : OwnLinks w base v l) : Links w v l := SliceAt.of_own (linkK hok) h
theorem OwnLinks.more {w : World} {base : Nat} {v : Value} {o : List LinkL} {r : LinkL} (h : w.ownsRow base 59 33 v (o.length + 1) (rowsOf linkC o ++ (linkC r).toArray.toList)) : OwnLinks w base v (o ++ [r]) := by
  unfold OwnLinks
  rw [rowsOf_append, rowsOf_one, List.length_append]
  rwa [List.toList_toArray] at h
theorem OwnLinks.nil (w : World) (base : Nat) : OwnLinks w base (.slice none 0 0) [] := World.ownsRow_nil w base _ 33
theorem fold_link (c0 : Array Value) (b : Value) (l : List Value) (n : Nat) (hl : l.length = n) (h0 : c0.size = n + 1) :
    ((l.zipIdx 0).foldl (fun cs (x : Value × Nat) => cs.setIfInBounds (0 + x.2) x.1) c0).setIfInBounds n b = (l ++ [b]).toArray := by
  obtain ⟨h1, h2⟩ := Great.foldl_set 0 l 0 c0
  apply Array.ext_getElem?
  intro k
  rw [Array.getElem?_setIfInBounds, h1]
  by_cases hk : n = k
  · subst hk
    rw [if_pos rfl, if_pos (by omega)]
    simp [← hl]
  · rw [if_neg hk, h2 k]
    by_cases hk2 : k < n
    · rw [if_pos ⟨by omega, by omega, by omega⟩]
      simp [List.getElem?_append_left (show k < l.length by omega)]
    · rw [if_neg (by omega), Array.getElem?_eq_none (by omega)]
      symm
      rw [Array.getElem?_eq_none (by simp; omega)]
theorem zLink_cells : zLink.cells.size = 33 := rfl
theorem built_link (id : Txt) (k : Int) (hid : id.length = 32) : Try.prog.built 59 [(0, .agg (u8s id)), (1, .int .i64 k)] = some (linkC ⟨id, k⟩).toArray := by
  obtain ⟨it, hi, hz, hs, hb⟩ := Try.linkTy.hi
  have hpl : (match Try.prog.underlying 59 with | some (.struct fields) => fields.toList.mapM (fun f => (Try.prog.info? f.type).map fun i => (f.offset, i.size)) | _ => none) = some [(0, 32), (32, 1)] := by kernel_rfl
  have hu := Try.underlying59
  rw [hu] at hpl
  unfold Program.built
  rw [hi, hu]
  simp only [hz]
  simp only at hpl
  rw [hpl]
  have hf := fold_link zLink.cells (.int .i64 k) (id.map u8v) 32 (by simpa using hid) zLink_cells
  have h33 := zLink_cells
  have e1 : (Value.int .i64 k).cells = #[.int .i64 k] := rfl
  have e2 : (Value.agg (u8s id)).cells = u8s id := rfl
  have f1 : ∀ c : Array Value, Array.foldl (fun cs (x : Value × Nat) => cs.setIfInBounds (32 + x.snd) x.fst) c (#[.int .i64 k] : Array Value).zipIdx = c.setIfInBounds 32 (.int .i64 k) := fun c => rfl
  have f2 : ∀ c : Array Value, Array.foldl (fun cs (x : Value × Nat) => cs.setIfInBounds (0 + x.snd) x.fst) c (u8s id).zipIdx = (id.map u8v).zipIdx.foldl (fun cs (x : Value × Nat) => cs.setIfInBounds (0 + x.snd) x.fst) c := fun c => by
    rw [← Array.foldl_toList, Array.toList_zipIdx]
    rfl
  have g0 : (#[(0, 32), (32, 1)] : Array (Nat × Nat))[0]? = some (0, 32) := rfl
  have g1 : (#[(0, 32), (32, 1)] : Array (Nat × Nat))[1]? = some (32, 1) := rfl
  have hsz : ((id.map u8v).zipIdx.foldl (fun cs (x : Value × Nat) => cs.setIfInBounds (0 + x.snd) x.fst) zLink.cells).size = 33 := by
    rw [(Great.foldl_set 0 (id.map u8v) 0 zLink.cells).1, h33]
  simp only [Instr.fill, g0, g1, e1, e2]
  rw [f2, if_neg (by simp [u8s_size, hid, h33]), f1, hf, if_neg (by rw [hsz]; simp)]
  show some (linkC ⟨id, k⟩).toArray = _
  unfold linkC
  rw [show (u8s id).toList = id.map u8v from by simp [u8s]]
end Go.Proofs.Ytlanconcbpdneaa
