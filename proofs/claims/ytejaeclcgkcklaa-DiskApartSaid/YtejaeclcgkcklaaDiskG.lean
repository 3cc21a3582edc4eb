/- The walks of layer 21 (disk): Get, Names, New, Copy. No condition. -/
import Derived.Test.YtejaeclcgkcklaaDiskU
import Derived.Test.YtejaeclcgkcklaaStrW
import Derived.Test.YtejaeclcgkcklaaLitB
namespace Go.Proofs.Ytejaeclcgkcklaa
open Go.RowKit
def getR (s : DiskL) (n : Txt) : Txt × Bool := if s.down then ([], false) else match getL s.l n with | some x => (x.data, true) | none => ([], false)
def namesR (s : DiskL) : List Txt := if s.down then [] else s.l.map FileL.name
section
variable {w : World} {base p : Nat} {vl : Value} {s : DiskL}
set_option maxRecDepth 100000 in
set_option maxHeartbeats 1000000 in
theorem diskGet_calls (h : DiskAt w base p vl s) (n : Txt) :
    Calls Try.prog 16 #[.pointer (some ⟨p, 0, none⟩), .string (B n)] w fun e w' => e = .returned (.tuple #[.string (B (getR s n).1), .bool (getR s n).2]) ∧ Below w.heap.size w w' := by
  have c3 := h.c3
  have hD := Lib.hid h
  cases hdn : s.down with
  | true =>
    have hr : getR s n = ([], false) := by simp [getR, hdn]
    rw [hr]
    rw [hdn] at c3
    clear h hr hdn
    go_enter Try.func16, Try.ntmps16
    go_wp2
    go_ret2
    exact ⟨rfl, Below.refl _ _⟩
  | false =>
    rw [hdn] at c3
    have hpl := Lib.hid (diskPlace_calls h n)
    have hfa : getL s.l n = if hasK FileL.name s.l n then s.l[posK FileL.name s.l n]? else none := find_at h.ok.sorted
    cases hh : hasK FileL.name s.l n with
    | false =>
      have hr : getR s n = ([], false) := by simp [getR, hdn, hfa, hh]
      rw [hr]
      rw [hh] at hpl
      clear h hr hdn hfa hh
      go_enter Try.func16, Try.ntmps16
      go_wp2_with (go_at_call 24; go_must (refine hpl.out.mono ?_); rintro e w1 ⟨rfl, hb1⟩)
      go_ret2
      exact ⟨rfl, hb1⟩
    | true =>
      have hlt : posK FileL.name s.l n < s.l.length := by
        rw [hasK_at h.ok.sorted] at hh
        exact Nat.lt_of_not_le fun hge => by rw [List.getElem?_eq_none hge] at hh; cases hh
      obtain ⟨y, hy⟩ : ∃ y, s.l[posK FileL.name s.l n]? = some y := ⟨_, List.getElem?_eq_getElem hlt⟩
      have hr : getR s n = (y.data, true) := by simp [getR, hdn, hfa, hh, hy]
      rw [hr]
      rw [hh] at hpl
      obtain ⟨A, cap, hvl, hc1, hc2, hat⟩ := h.files
      obtain ⟨g, o, rfl, hg, hcell⟩ := hat (by omega)
      have hx0 := hcell _ y hy
      subst hvl
      generalize posK FileL.name s.l n = i at *
      have hli : (i : Int) < (s.l.length : Int) := by omega
      clear h hr hdn hfa hh hy hcell hat
      go_enter Try.func16, Try.ntmps16
      go_wp2_with (go_at_call 24; go_must (refine hpl.out.mono ?_); rintro e w1 ⟨rfl, hb1⟩
                   have c0 := (hD.out.below hb1).c0
                   have cd : w1.cell? ⟨g, o + i * 2 + 1, none⟩ = some (.string (B y.data)) := rangeAt_below hx0 hg hb1 1 _ rfl)
      go_ret2
      exact ⟨rfl, hb1⟩
set_option maxRecDepth 100000 in
set_option maxHeartbeats 1000000 in
theorem diskNames_calls (h : DiskAt w base p vl s) :
    Calls Try.prog 15 #[.pointer (some ⟨p, 0, none⟩)] w fun e w' => ∃ v', e = .returned v' ∧ OwnStrs w' w.heap.size v' (namesR s) ∧ Below w.heap.size w w' := by
  have c3 := h.c3
  have c0 := h.c0
  have hfew := h.ok.few
  have hok := h.ok.ok
  cases hdn : s.down with
  | true =>
    have hr : namesR s = [] := by simp [namesR, hdn]
    rw [hr]
    rw [hdn] at c3
    clear h hr hdn
    go_enter Try.func15, Try.ntmps15
    go_wp2
    go_ret
    exact ⟨_, rfl, World.ownsRow_nil _ _ _ _, Below.refl _ _⟩
  | false =>
    rw [hdn] at c3
    have hr : namesR s = s.l.map FileL.name := by simp [namesR, hdn]
    rw [hr]
    obtain ⟨A, cap, rfl, hc1, hc2, hat⟩ := h.files
    have hat := Lib.hid hat
    clear h hr hdn
    generalize s.l = l at *
    go_enter Try.func15, Try.ntmps15
    go_wp2
    go_loopw [3, 19] (fun vo vi wr => ∃ k : Nat, vi = .int .i64 k ∧ k ≤ l.length ∧ OwnStrs wr w.heap.size vo ((l.take k).map FileL.name) ∧ Below w.heap.size w wr) (fun _ vi _ => l.length - (intOf vi).toNat)
    case atStart => exact ⟨0, rfl, by omega, World.ownsRow_nil _ _ _ _, Below.refl _ _⟩
    case round =>
      obtain ⟨k, rfl, hk, hown, hbel⟩ := hrel
      have hlk : ((l.take k).map FileL.name).length = k := by simp; omega
      by_cases hlt : k < l.length
      · have hki : (k : Int) < (l.length : Int) := by omega
        obtain ⟨x, hx⟩ : ∃ x, l[k]? = some x := ⟨_, List.getElem?_eq_getElem hlt⟩
        have hxok := hok x (List.mem_of_getElem? hx)
        obtain ⟨g, o, rfl, hg, hcell⟩ := hat.out (by omega)
        have hx0 := rangeAt_below (hcell k x hx) hg hbel
        have hsz := hbel.size
        have hnext : Hid ((l.take (k + 1)).map FileL.name = (l.take k).map FileL.name ++ [x.name]) := by
          show _ = _
          rw [List.take_add_one, hx, List.map_append]
          rfl
        have hall : (fileC x).toArray.all (·.oneCell') = true := all_oneCell_toArray (fileC_one x)
        clear hx hcell
        go_wp2_with (first
          | ((with_reducible refine lit_load 54 (.tmp 21) g (o + k * 2) (fileC x) _ hx0 Try.underlying54 rfl (sizedFile hxok) ?_ ?_); rfl)
          | ((with_reducible refine lit_new 54 (.tmp 5) (.tmp 22) (fileC x).toArray 2 szFile rfl hall _ ?_ ?_ ?_ ?_); rfl; rfl; rfl; intro W1 hb1 hbl1
             have hbelA := bthen hbel hsz hbl1
             have hownA := own_below hown hbl1
             have cn : W1.cell? ⟨wr.heap.size, 0, none⟩ = some (.string (B x.name)) := by rw [hb1.cell]; rfl
             have hownB := own_below hownA ((Below.refl W1.heap.size W1).alloc (Nat.le_refl _) (.cells #[.string (B x.name)] 9))
             have hnewB : Blk (W1.alloc (.cells #[.string (B x.name)] 9)) W1.heap.size 9 #[.string (B x.name)] := Blk.new _ _ _
             have hbelB := hbelA.alloc hbelA.size (.cells #[.string (B x.name)] 9)
             have k1 : ((l.take k).map FileL.name).length + 1 ≤ 9223372036854775807 := by omega
             have k2 : (((l.take k).map FileL.name).length + 1) * 16 ≤ 140737488355328 := by omega
             have h1 : ∀ u ∈ (#[.string (B x.name)] : Array Value).toList, u.oneCell' = true := strC_one x.name
             clear hown hx0 hownA)
          | (at_builtin
             (with_reducible refine lit_append_at (.tmp 23) (.tmp 26) 1 _ Try.strTy hownB hnewB rfl h1 k1 k2 hbelB.size ?_ ?_ ?_); rfl; rfl
             intro v' w' hownC hgC _
             have hbelC := hbelB.grown hgC hbelB.size (fun k hk => (World.ownsRow.lt hownB k hk).1)
             have hownD : OwnStrs w' w.heap.size v' ((l.take (k + 1)).map FileL.name) := by rw [hnext.out]; exact OwnStrs.more hownC
             clear hgC))
        go_roundw
        case rel => exact ⟨k + 1, by go_num, by omega, hownD, hbelC⟩
        case measure => simp [intOf]; omega
      · obtain rfl : k = l.length := by omega
        rw [List.take_length] at hown
        go_wp2
        go_ret
        exact ⟨_, rfl, hown, hbel⟩
set_option maxRecDepth 100000 in
set_option maxHeartbeats 1000000 in
theorem diskNew_calls (w : World) :
    Calls Try.prog 6 #[] w fun e w' => e = .returned (.pointer (some ⟨w.heap.size, 0, none⟩)) ∧ DiskAt w' w.heap.size w.heap.size (.slice none 0 0) newS ∧ Below w.heap.size w w' := by
  have hb : Try.prog.built 47 [(1, .int .i64 (-1))] = some (diskC (.slice none 0 0) newS) := by kernel_rfl
  go_enter Try.func6, Try.ntmps6
  go_wp2_with ((with_reducible refine lit_build1 hb ?_ ?_); rfl)
  go_ret
  exact ⟨rfl, ⟨Blk.new _ _ _, World.ownsRow_nil _ _ _ _, newOk⟩, (Below.refl _ _).alloc (Nat.le_refl _) _⟩
theorem own_base {base' n size : Nat} {e : TypeId} {v : Value} {xs : List Value} (h : w.ownsRow base e size v n xs) (hb : base' ≤ base) : w.ownsRow base' e size v n xs := by
  refine ⟨h.1, ?_⟩
  rcases h.2 with h1 | ⟨g, cap, cur, h1, h2, h3⟩
  · exact .inl h1
  · exact .inr ⟨g, cap, cur, h1, Nat.le_trans hb h2, h3⟩
theorem szDisk : (Try.prog.info? 47).map (·.size) = some 4 := by kernel_rfl
theorem diskC_all (h : OwnFiles w base vl s.l) : (diskC vl s).all (·.oneCell') = true := by
  refine Array.all_eq_true_iff_forall_mem.2 fun u hu => ?_
  simp only [diskC, List.mem_toArray, List.mem_cons, List.not_mem_nil, or_false] at hu
  rcases hu with rfl | rfl | rfl | rfl
  · obtain ⟨A, cap, rfl⟩ := own_form' h; rfl
  all_goals rfl
set_option maxRecDepth 100000 in
set_option maxHeartbeats 1000000 in
theorem diskCopy_calls (h : DiskAt w base p vl s) :
    Calls Try.prog 10 #[.pointer (some ⟨p, 0, none⟩)] w fun e w' => e = .returned (.pointer (some ⟨w.heap.size, 0, none⟩)) ∧ ∃ v', DiskAt w' w.heap.size w.heap.size v' s ∧ Below w.heap.size w w' := by
  have hD := Lib.hid h
  have hr := range_blk h.blk
  have hall := diskC_all h.own
  have hsz : (Try.prog.info? 47).map (·.size) = some (diskC vl s).toList.length := szDisk
  have hok := h.ok
  clear h
  go_enter Try.func10, Try.ntmps10
  go_wp2_with (first
    | ((with_reducible refine lit_load 47 (.tmp 7) p 0 (diskC vl s).toList _ hr Try.underlying47 rfl hsz ?_ ?_); rfl; rw [Array.toArray_toList])
    | ((with_reducible refine lit_new 47 (.tmp 3) (.tmp 8) (diskC vl s) 4 szDisk rfl hall _ ?_ ?_ ?_ ?_); rfl; rfl; rfl; intro W1 hb1 hbl1
       have hD1 := Lib.hid (hD.out.below hbl1)
       have c0 := hD1.out.c0
       have hcl := Lib.hid (cloneFiles_calls s.l hok.ok (by have := hok.few; omega) vl W1 hD1.out.files))
    | (go_at_call 21; go_must (refine hcl.out.mono ?_); rintro e w2 ⟨v', rfl, hown2, hbl2⟩
       obtain ⟨A', c', rfl⟩ := own_form' hown2
       have hb2 := hb1.below hbl2 hb1.lt
       have cc : w2.cell? ⟨w.heap.size, 0, none⟩ = some vl := by rw [hb2.cell]; rfl
       have cf : w2.frozen? ⟨w.heap.size, 0, none⟩ = false := hb2.frozen 0))
  go_ret
  have hB := bthen hbl1 hbl1.size hbl2
  have hw1 : w.heap.size < W1.heap.size := hb1.lt
  refine ⟨rfl, _, ⟨hb2.set_ 0 _, ?_, hok⟩, hB.setCell (p := ⟨w.heap.size, 0, none⟩) (Nat.le_refl _) _⟩
  have h1 := own_base hown2 (Nat.le_of_lt hw1)
  exact ((Far.refl [some w.heap.size] w2).set_ (p := ⟨w.heap.size, 0, none⟩) (.inl (by simp)) _).own h1 (fun k hk => by have := (World.ownsRow.lt hown2 k hk).1; simp; omega)
/- No disk. -/
set_option maxRecDepth 100000 in
theorem nilGet_calls (n : Txt) (w : World) : Calls Try.prog 16 #[.pointer none, .string (B n)] w fun e w' => e = .returned (.tuple #[.string (B []), .bool false]) ∧ w' = w := by
  go_enter Try.func16, Try.ntmps16
  go_wp2
  go_ret2
  exact ⟨rfl, rfl⟩
set_option maxRecDepth 100000 in
theorem nilPut_calls (n d : Txt) (w : World) : Calls Try.prog 14 #[.pointer none, .string (B n), .string (B d)] w fun e w' => e = .returned (.int .i64 1) ∧ w' = w := by
  go_enter Try.func14, Try.ntmps14
  go_wp2
  go_ret
  exact ⟨rfl, rfl⟩
set_option maxRecDepth 100000 in
theorem nilDrop_calls (n : Txt) (w : World) : Calls Try.prog 18 #[.pointer none, .string (B n)] w fun e w' => e = .returned (.int .i64 1) ∧ w' = w := by
  go_enter Try.func18, Try.ntmps18
  go_wp2
  go_ret
  exact ⟨rfl, rfl⟩
set_option maxRecDepth 100000 in
theorem nilDown_calls (w : World) : Calls Try.prog 17 #[.pointer none] w fun e w' => e = .returned (.bool false) ∧ w' = w := by
  go_enter Try.func17, Try.ntmps17
  go_wp2
  go_ret
  exact ⟨rfl, rfl⟩
set_option maxRecDepth 100000 in
theorem nilNames_calls (w : World) : Calls Try.prog 15 #[.pointer none] w fun e w' => e = .returned (.slice none 0 0) ∧ w' = w := by
  go_enter Try.func15, Try.ntmps15
  go_wp2
  go_ret
  exact ⟨rfl, rfl⟩
set_option maxRecDepth 100000 in
theorem nilCopy_calls (w : World) : Calls Try.prog 10 #[.pointer none] w fun e w' => e = .returned (.pointer none) ∧ w' = w := by
  go_enter Try.func10, Try.ntmps10
  go_wp2
  go_ret
  exact ⟨rfl, rfl⟩
set_option maxRecDepth 100000 in
theorem nilFail_calls (n d : Int) (w : World) : Calls Try.prog 13 #[.pointer none, .int .i64 n, .int .i64 d] w fun e w' => e = .returned (.tuple #[]) ∧ w' = w := by
  go_enter Try.func13, Try.ntmps13
  go_wp2
  go_end0
  exact ⟨rfl, rfl⟩
set_option maxRecDepth 100000 in
theorem nilRestart_calls (w : World) : Calls Try.prog 12 #[.pointer none] w fun e w' => e = .returned (.tuple #[]) ∧ w' = w := by
  go_enter Try.func12, Try.ntmps12
  go_wp2
  go_end0
  exact ⟨rfl, rfl⟩
end
end Go.Proofs.Ytejaeclcgkcklaa
