/- Slices of elements of several cells: the words, and slices.Clone. No condition. -/
import Derived.Test.YtejaeclcgkcklaaFileE
import Derived.Test.YtejaeclcgkcklaaFar
import Derived.Lib.SliceRun
namespace Go.Proofs.Ytejaeclcgkcklaa
open Go.RowKit
def FilesOk (l : List FileL) : Prop := ∀ r ∈ l, FileOk r
theorem fileK {l : List FileL} (h : FilesOk l) : ∀ x ∈ l, (fileC x).length = 2 := fun x hx => fileC_len (h x hx)
theorem fileOne (l : List FileL) : ∀ u ∈ rowsOf fileC l, u.oneCell' = true := rowsOf_one' fun x _ => fileC_one x
theorem szFile : (Try.prog.info? 54).map (·.size) = some 2 := by kernel_rfl
theorem sizedFile {r : FileL} (h : FileOk r) : (Try.prog.info? 54).map (·.size) = some (fileC r).length := by rw [fileC_len h]; exact szFile
theorem fileC_size {r : FileL} (h : FileOk r) : (fileC r).toArray.size = 1 * 2 := by rw [List.size_toArray, fileC_len h]
theorem fileC_all (r : FileL) : ∀ u ∈ (fileC r).toArray.toList, u.oneCell' = true := by rw [List.toList_toArray]; exact fileC_one r
abbrev Files (w : World) (v : Value) (l : List FileL) : Prop := SliceAt w 2 fileC v l
abbrev OwnFiles (w : World) (base : Nat) (v : Value) (l : List FileL) : Prop := w.ownsRow base 54 2 v l.length (rowsOf fileC l)
theorem OwnFiles.refs {w : World} {base : Nat} {v : Value} {l : List FileL} (hok : FilesOk l) (h : OwnFiles w base v l) : Files w v l := SliceAt.of_own (fileK hok) h
theorem range_blkFile {w : World} {g : Nat} {r : FileL} (h : Blk w g 54 (fileC r).toArray) : w.rangeAt g 0 (fileC r) := by
  have := range_blk h
  rwa [List.toList_toArray] at this
/-- A whole element is loaded: a word of its own, so that the walk does not open it. -/
def ldvFile (p : Addr) : Sem Value := loadVar 54 p
theorem ldvFile_eq (p : Addr) : loadVar 54 p = ldvFile p := rfl
theorem run_ldvFile {w : World} {g o : Nat} {x : FileL} (h : w.rangeAt g o (fileC x)) (hx : FileOk x) : (ldvFile ⟨g, o, none⟩).run Try.prog w = .ok (.agg (fileC x).toArray) w :=
  run_loadVar_mid (P := Try.prog) w g o 54 (fileC x) _ h Try.underlying54 rfl (sizedFile hx)
theorem filesOk_nil : FilesOk [] := fun x hx => by simp at hx
theorem filesOk_one {o : List FileL} (h : FilesOk o) {r : FileL} (hr : FileOk r) : FilesOk (o ++ [r]) := by
  intro y hy
  rw [List.mem_append] at hy
  rcases hy with h1 | h1
  · exact h y h1
  · simp at h1; subst h1; exact hr
theorem filesOk_take {s : List FileL} (h : FilesOk s) (n : Nat) : FilesOk (s.take n) := fun y hy => h y (List.mem_of_mem_take hy)
theorem filesOk_set {s : List FileL} (h : FilesOk s) (i : Nat) {x : FileL} (hx : FileOk x) : FilesOk (s.set i x) := by
  intro y hy
  rcases List.mem_or_eq_of_mem_set hy with h1 | rfl
  · exact h y h1
  · exact hx
theorem own_file_more {w : World} {base : Nat} {v : Value} {o : List FileL} {r : FileL} (h : w.ownsRow base 54 2 v (o.length + 1) (rowsOf fileC o ++ (fileC r).toArray.toList)) : OwnFiles w base v (o ++ [r]) := by
  unfold OwnFiles
  rw [rowsOf_append, rowsOf_one, List.length_append]
  rwa [List.toList_toArray] at h
theorem OwnFiles.of_row {w : World} {base g cap : Nat} {l : List FileL} (hok : FilesOk l) (h : Row w g 54 2 fileC cap l) (hg : base ≤ g) {n : Nat} (hn : n = l.length) : OwnFiles w base (.slice (some ⟨g, 0, none⟩) n cap) l := by
  subst hn
  exact h.own (fileK hok) hg
theorem zFile_cells : zFile.cells.size = 2 := rfl
theorem zFile_info : (Try.prog.info? 54).map (·.zero) = some (some zFile) := by
  obtain ⟨i, h1, h2, _⟩ := Try.fileTy.hi
  rw [h1]
  simp [h2]
theorem new_of_ownFile {w : World} {base : Nat} {v : Value} {l : List FileL} (_ : OwnFiles w base v l) (t : TypeId) (cs : Array Value) : Blk (w.alloc (.cells cs t)) w.heap.size t cs := Blk.new _ _ _
set_option maxRecDepth 100000 in
set_option maxHeartbeats 400000 in
theorem cloneFiles_calls (l : List FileL) (hok : FilesOk l) (hbig : l.length ≤ 1000000) (v : Value) (w : World) (hv : Files w v l) :
    Calls Try.prog 21 #[v] w fun e w' => ∃ v', e = .returned v' ∧ OwnFiles w' w.heap.size v' l ∧ Below w.heap.size w w' := by
  have hv0 := hv
  have q22 := fun (w : World) (a : Option Addr) (n c n' c' : Nat) => Lib.run_eql_slice_nil (P := Try.prog) w 45 _ a n c n' c' Try.underlying45
  obtain ⟨A, cap, rfl, hcap1, hcap2, hat⟩ := hv
  cases A with
  | none =>
    obtain rfl : l = [] := by
      cases l with
      | nil => rfl
      | cons x l => obtain ⟨g, o, h, _⟩ := hat (by simp); cases h
    clear hat hv0
    go_enter Try.func21, Try.ntmps21
    go_wp2
    go_ret
    exact ⟨_, rfl, World.ownsRow_nil _ _ _ _, Below.refl _ _⟩
  | some ad =>
    have hb0 : Below w.heap.size w (w.alloc (.cells #[] 54)) := (Below.refl _ _).alloc (Nat.le_refl _) _
    have hnews := (hv0.below hb0).news (fileK hok) rfl
    have hown0 : (w.alloc (.cells #[] 54)).ownsRow w.heap.size 54 2 (.slice (some ⟨w.heap.size, 0, none⟩) 0 0) 0 [] :=
      World.ownsRow_lit (size := 2) w #[] 0 (Nat.le_refl _) (by simp [maxLen]) rfl
    have hone := fileOne l
    have hl := rowsOf_length (fileK hok)
    clear hat hv0
    go_enter Try.func21, Try.ntmps21
    go_wp2_with (first
      | (at_builtin
         refine wpList_append_slice rfl (.tmp 5) (.tmp 6) _ rfl 54 _ 2 32 Try.fileTy w.heap.size _ 0 [] rfl hown0 ad l.length cap (rowsOf fileC l) rfl hl hnews hone (by omega) (by omega) w hb0 hb0.size ?_
         intro v' w' hown3 hbel3))
    go_ret
    refine ⟨_, rfl, ?_, hbel3⟩
    rw [Nat.zero_add, List.nil_append] at hown3
    exact hown3
end Go.Proofs.Ytejaeclcgkcklaa
