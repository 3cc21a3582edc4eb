/- The walks of layer 21 (disk): where a file stands. No condition. -/
import Derived.Test.YtejaeclcgkcklaaDiskP
import Derived.Test.YtejaeclcgkcklaaFileBs
import Derived.Lib.Bytealg
namespace Go.Proofs.Ytejaeclcgkcklaa
open Go.RowKit
set_option maxRecDepth 100000 in
theorem cmpS_calls (a b : List UInt8) (w : World) : Calls Try.prog 34 #[.string (B a), .string (B b)] w fun e w' => e = .returned (.int .i64 (Lib.compareBytes a b)) ∧ w' = w := by
  go_enter Try.func34, Try.ntmps34
  go_wp2
  rw [run_callFunc_extern Try.func36 (by kernel_rfl) (by kernel_rfl) (by kernel_rfl) (e := Extern.BytealgCompare.compare) (by kernel_rfl), Lib.run_compareString]
  simp only [Result.andThen]
  rw [Oper.upon_value]
  go_wp2
  go_ret
  exact ⟨rfl, rfl⟩
set_option maxRecDepth 100000 in
theorem compare_calls (a b : List UInt8) (w : World) : Calls Try.prog 30 #[.string (B a), .string (B b)] w fun e w' => e = .returned (.int .i64 (Lib.compareBytes a b)) ∧ w' = w := by
  go_enter Try.func30, Try.ntmps30
  go_wp2_with (go_at_call 34; go_must (refine (cmpS_calls _ _ _).mono ?_); rintro e w' ⟨rfl, rfl⟩)
  go_ret
  exact ⟨rfl, rfl⟩
set_option maxRecDepth 100000 in
theorem diskPlace1_calls (x : FileL) (n : List UInt8) (w : World) : Calls Try.prog 29 #[.agg (fileC x).toArray, .string (B n)] w fun e w' => e = .returned (.int .i64 (Lib.compareBytes x.name n)) ∧ Below w.heap.size w w' := by
  have hb0 : Below w.heap.size w (w.alloc (.cells (fileC x).toArray 54)) := (Below.refl _ _).alloc (Nat.le_refl _) _
  have hn : Blk (w.alloc (.cells (fileC x).toArray 54)) w.heap.size 54 (fileC x).toArray := Blk.new _ _ _
  have c0 : (w.alloc (.cells (fileC x).toArray 54)).cell? ⟨w.heap.size, 0, none⟩ = some (.string (B x.name)) := by rw [hn.cell]; rfl
  clear hn
  go_enter Try.func29, Try.ntmps29
  go_wp2_with (go_at_call 30; go_must (refine (compare_calls _ _ _).mono ?_); rintro e w' ⟨rfl, rfl⟩)
  go_ret
  exact ⟨rfl, hb0⟩
theorem diskPlace1_func (a : Array Value) (W : World) : (callFunc 29 a).run Try.prog W = .ok (.enter 29 a) W := by kernel_rfl
def diskC (vl : Value) (s : DiskL) : Array Value := #[vl, .int .i64 s.fuse, .int .i64 s.part, .bool s.down]
/-- Block p holds a disk; vl is its slice of files. -/
structure DiskAt (w : World) (base p : Nat) (vl : Value) (s : DiskL) : Prop where
  blk : Blk w p 47 (diskC vl s)
  own : OwnFiles w base vl s.l
  ok : DiskOk s
section
variable {w w' : World} {base p : Nat} {vl : Value} {s : DiskL}
theorem DiskAt.c0 (h : DiskAt w base p vl s) : w.cell? ⟨p, 0, none⟩ = some vl := by rw [h.blk.cell]; rfl
theorem DiskAt.c1 (h : DiskAt w base p vl s) : w.cell? ⟨p, 1, none⟩ = some (.int .i64 s.fuse) := by rw [h.blk.cell]; rfl
theorem DiskAt.c2 (h : DiskAt w base p vl s) : w.cell? ⟨p, 2, none⟩ = some (.int .i64 s.part) := by rw [h.blk.cell]; rfl
theorem DiskAt.c3 (h : DiskAt w base p vl s) : w.cell? ⟨p, 3, none⟩ = some (.bool s.down) := by rw [h.blk.cell]; rfl
theorem DiskAt.fr (h : DiskAt w base p vl s) (i : Nat) : w.frozen? ⟨p, i, none⟩ = false := h.blk.frozen i
theorem DiskAt.ne (h : DiskAt w base p vl s) : vl.ownBlock ≠ some p := fun e => own_blk_ne h.own h.blk (by decide) e.symm
theorem DiskAt.below (h : DiskAt w base p vl s) (hb : Below w.heap.size w w') : DiskAt w' base p vl s := ⟨h.blk.below hb h.blk.lt, own_below h.own hb, h.ok⟩
theorem DiskAt.far {S : List (Option Nat)} (h : DiskAt w base p vl s) (hf : Far S w w') (h1 : some p ∉ S) (h2 : ∀ k, vl.ownBlock = some k → some k ∉ S) : DiskAt w' base p vl s := ⟨hf.blk h.blk h1, hf.own h.own h2, h.ok⟩
theorem DiskAt.drew (h : DiskAt w base p vl s) : DiskAt w.drew base p vl s := ⟨h.blk, h.own, h.ok⟩
theorem DiskAt.files (h : DiskAt w base p vl s) : Files w vl s.l := h.own.refs h.ok.ok
end
set_option maxRecDepth 100000 in
set_option maxHeartbeats 1000000 in
theorem diskPlace_calls {w : World} {base p : Nat} {vl : Value} {s : DiskL} (h : DiskAt w base p vl s) (n : List UInt8) :
    Calls Try.prog 24 #[.pointer (some ⟨p, 0, none⟩), .string (B n)] w fun e w' => e = .returned (.tuple #[.int .i64 (posK FileL.name s.l n), .bool (hasK FileL.name s.l n)]) ∧ Below w.heap.size w w' := by
  have hbs := Lib.hid (bsfFiles_calls s.l h.ok.ok (by have := h.ok.few; omega) vl w h.files 29 diskPlace1_func (.string (B n)) (fun x => Lib.compareBytes x.name n)
    (fun W x _ _ => diskPlace1_calls x n W) (posK FileL.name s.l n) posK_le (fun i x hx => by
      rw [← decide_eq_true_iff (p := Lib.compareBytes x.name n < 0), cmp_neg, sorted_at h.ok.sorted hx, decide_eq_true_iff]))
  rw [← hasK_hit h.ok.sorted] at hbs
  have c0 := h.c0
  clear h
  go_enter Try.func24, Try.ntmps24
  go_wp2_with (first
    | (go_at_call 28; go_must (refine hbs.out.mono ?_); rintro e w1 ⟨rfl, hb1⟩))
  go_ret2
  exact ⟨rfl, hb1⟩
end Go.Proofs.Ytejaeclcgkcklaa
