/- slices.Insert of one element of several cells, all roads, and what stays as it was. No condition. -/
import Derived.Test.YtejaeclcgkcklaaFileCl
import Derived.Test.YtejaeclcgkcklaaInsP
import Derived.Shelf.RegionOpenPlain
import Derived.Lib.Overlaps
namespace Go.Proofs.Ytejaeclcgkcklaa
open Go.RowKit
theorem run_overlaps_files (w : World) (g vb o : Nat) (cur cv : Array Value) (e ev : TypeId) (hb : Blk w g e cur) (hv : Blk w vb ev cv) (hc : 0 < cur.size) (hne : vb ≠ g) (m vc lb cb : Nat) :
    (callFunc 32 #[.slice (some ⟨vb, 0, none⟩) m vc, .slice (some ⟨g, o, none⟩) lb cb]).run Try.prog w = .ok (.value (.bool false)) w := by
  have hsz : ∀ w, (Go.sizeOf 54).run Try.prog w = .ok 2 w := fun w => by
    obtain ⟨i, h1, _, h3, _⟩ := Try.fileTy.hi
    simp [sizeOf, typeInfo, h1, h3]
  rw [run_callFunc_extern Try.func32 (by kernel_rfl) (by kernel_rfl) (by kernel_rfl) (e := Extern.SlicesOverlaps.overlaps #[45, 45] #[4]) (by kernel_rfl),
    Lib.run_overlaps_apart w 45 4 54 Try.underlying45 2 hsz ⟨vb, 0, none⟩ ⟨g, o, none⟩ m vc lb cb hne ev e cv.size cur.size (by unfold World.shape?; rw [show w.heap[vb]? = _ from hv]) (by unfold World.shape?; rw [show w.heap[g]? = _ from hb]) (by omega) (hv.frozen _) (hv.frozen _)]
  rfl
set_option maxRecDepth 100000 in
set_option maxHeartbeats 2000000 in
theorem insertFiles_room (l : List FileL) (hok : FilesOk l) (w : World) (g cap i vb : Nat) (x : FileL) (hx : FileOk x) (hrow : Row w g 54 2 fileC cap l) (hi : i < l.length) (hcap : l.length + 1 ≤ cap)
    (hv : Blk w vb 54 (fileC x).toArray) (hne : vb ≠ g) :
    Calls Try.prog 27 #[.slice (some ⟨g, 0, none⟩) l.length cap, .int .i64 i, .slice (some ⟨vb, 0, none⟩) 1 1] w fun e w' =>
      e = .returned (.slice (some ⟨g, 0, none⟩) (l.length + 1) cap) ∧ Row w' g 54 2 fileC cap (l.take i ++ [x] ++ l.drop i) ∧ w.grownBy w' (some g) := by
  have h63 := hrow.top63
  have hdl : (l.drop i).length = l.length - i := List.length_drop
  have hdk : ∀ y ∈ l.drop i, (fileC y).length = 2 := fun y hy => fileK hok y (List.mem_of_mem_drop hy)
  have hbi : (0 : Int) ≤ (i : Int) + 1 := by omega
  have htn : ((i : Int) + 1).toNat = i + 1 := by omega
  have hz2 : ¬ ((i : Int) = (l.length : Int)) := by omega
  have hil : (i : Int) ≤ (l.length : Int) := by omega
  have hil1 : (i : Int) + 1 ≤ (l.length : Int) + 1 := by omega
  have hil2 : (i : Int) ≤ (l.length : Int) + 1 := by omega
  have mixed : Try.prog.follows Departure.mixedOrders = true := by kernel_rfl
  have hci : ¬ (cap = i) := by omega
  have hci1 : ¬ (cap = i + 1) := by omega
  have hnc : ¬ ((cap : Int) < (l.length : Int) + 1) := by omega
  have hcn : (l.length : Int) + 1 ≤ (cap : Int) := by omega
  have hw1 : IntKind.i64.wrap ((i : Int) + 1) = (i : Int) + 1 := by rw [IntKind.wrap_i64]; omega
  have hw2 : IntKind.i64.wrap ((l.length : Int) + 1) = (l.length : Int) + 1 := by rw [IntKind.wrap_i64]; omega
  have htl : ((l.length : Int) + 1).toNat = l.length + 1 := by omega
  have hov : ∀ lb cb o, (callFunc 32 #[.slice (some ⟨vb, 0, none⟩) 1 1, .slice (some ⟨g, o, none⟩) lb cb]).run Try.prog w = .ok (.value (.bool false)) w := fun lb cb o => by
    obtain ⟨cur, hb, hs⟩ := hrow.blk
    exact run_overlaps_files w g vb o cur _ _ _ hb hv (by rw [hs]; omega) hne 1 1 lb cb
  have hput := hrow.drew.put (fileK hok) hdk (i := i + 1) (by omega) (by omega)
  have hcp1 : ∀ ty dc sc, (Builtin.copy_ #[45, 45] ty #[.slice (some ⟨g, (i + 1) * 2, none⟩) (l.length - i) dc, .slice (some ⟨g, i * 2, none⟩) (l.length + 1 - i) sc]).run Try.prog w.drew = .ok (goInt ((l.drop i).length : Nat)) (w.drew.setCells g ((i + 1) * 2) (rowsOf fileC (l.drop i))) := fun ty dc sc =>
    run_copy_rows w.drew _ _ ty 54 g ((i + 1) * 2) _ dc ⟨g, i * 2, none⟩ _ sc _ _ Try.underlying45 szFile (by rw [hdl]; simp only [Nat.min_def]; split <;> omega) (rowsOf_length hdk)
      (range_news ((hrow.drew).range_from (fileK hok) i)) ((hrow.drew).there (by rw [rowsOf_length hdk, ← Nat.add_mul]; exact Nat.mul_le_mul_right _ (by omega))) (fileOne _)
  obtain ⟨W1, hW1⟩ : ∃ W1, W1 = w.drew.setCells g ((i + 1) * 2) (rowsOf fileC (l.drop i)) := ⟨_, rfl⟩
  have hbel1 : w.grownBy W1 (some g) := by rw [hW1]; exact grown_cells (grown_drew (grown_refl' w _)) _ _
  rw [← hW1] at hcp1 hput
  have hv1 : Blk W1 vb 54 (fileC x).toArray := by
    rw [hW1]
    exact hv.drew.setCells_far hne _ _ _
  have hs2 : FilesOk (l.take (i + 1) ++ l.drop i ++ l.drop (i + 1 + (l.drop i).length)) := by
    intro y hy
    simp only [List.mem_append] at hy
    rcases hy with (hy | hy) | hy
    · exact hok y (List.mem_of_mem_take hy)
    · exact hok y (List.mem_of_mem_drop hy)
    · exact hok y (List.mem_of_mem_drop hy)
  have hset := hput.set (fileK hs2) (i := i) (by simp; omega) (fileC_len hx)
  rw [ins_place hi] at hset
  have hcp2 : ∀ ty dc, (Builtin.copy_ #[45, 45] ty #[.slice (some ⟨g, i * 2, none⟩) (l.length + 1 - i) dc, .slice (some ⟨vb, 0, none⟩) 1 1]).run Try.prog W1 = .ok (goInt (1 : Nat)) (W1.setCells g (i * 2) (fileC x)) := fun ty dc =>
    run_copy_rows W1 _ _ ty 54 g (i * 2) _ dc ⟨vb, 0, none⟩ _ 1 _ _ Try.underlying45 szFile (by simp only [Nat.min_def]; split <;> omega) (by rw [fileC_len hx])
      (range_news (range_blkFile hv1)) (hput.there (by rw [fileC_len hx]; omega)) (fileC_one x)
  have hbel2 := grown_cells hbel1 (i * 2) (fileC x)
  clear hput hv hv1 hrow hs2 hdk hW1
  go_enter Try.func27, Try.ntmps27
  go_wp2_with (simp only [hov])
  go_region_law_o (refine step_copy_run rfl _ _ 45 45 rfl (.slice (some ⟨g, (i + 1) * 2, none⟩) (l.length - i) (cap - (i + 1))) (.slice (some ⟨g, i * 2, none⟩) (l.length + 1 - i) (cap - i)) (by simp [Act.eval, Act.put]) (by simp [Act.eval, Act.put]) (hcp1 _ _ _) ?_)
  go_wp2_with (at_builtin; refine wpList_copy_run _ rfl _ _ 45 45 rfl _ _ rfl rfl (hcp2 _ _) ?_)

  go_ret
  exact ⟨rfl, hset, hbel2⟩
set_option maxRecDepth 100000 in
set_option maxHeartbeats 500000 in
theorem insertFiles_grow (l : List FileL) (hok : FilesOk l) (hbig : l.length ≤ 1000000) (w : World) (base g cap i vb : Nat) (x : FileL) (hx : FileOk x) (hbase : base ≤ w.heap.size) (hrow : Row w g 54 2 fileC cap l) (hi : i < l.length) (hcap : cap < l.length + 1)
    (hv : Blk w vb 54 (fileC x).toArray) :
    Calls Try.prog 27 #[.slice (some ⟨g, 0, none⟩) l.length cap, .int .i64 i, .slice (some ⟨vb, 0, none⟩) 1 1] w fun e w' =>
      ∃ G, e = .returned (.slice (some ⟨w.heap.size, 0, none⟩) (l.length + 1) G) ∧ Row w' w.heap.size 54 2 fileC G (l.take i ++ [x] ++ l.drop i) ∧ Below base w w' := by
  have h63 := hrow.top63
  have hle := hrow.le
  have hgw := hrow.lt
  have hdl : (l.drop i).length = l.length - i := List.length_drop
  have htkl : (l.take i).length = i := by simp; omega
  have hdk : ∀ y ∈ l.drop i, (fileC y).length = 2 := fun y hy => fileK hok y (List.mem_of_mem_drop hy)
  have htk : ∀ y ∈ l.take i, (fileC y).length = 2 := fun y hy => fileK hok y (List.mem_of_mem_take hy)
  have hbi : (0 : Int) ≤ (i : Int) + 1 := by omega
  have htn : ((i : Int) + 1).toNat = i + 1 := by omega
  have hz2 : ¬ ((i : Int) = (l.length : Int)) := by omega
  have hil : (i : Int) ≤ (l.length : Int) := by omega
  have hil0 : (i : Int) ≤ (cap : Int) := by omega
  have hil1 : (i : Int) + 1 ≤ (l.length : Int) + 1 := by omega
  have hil2 : (i : Int) ≤ (l.length : Int) + 1 := by omega
  have mixed : Try.prog.follows Departure.mixedOrders = true := by kernel_rfl
  have hci : ¬ (cap = i) := by omega
  have hnc : (cap : Int) < (l.length : Int) + 1 := by omega
  have hw1 : IntKind.i64.wrap ((i : Int) + 1) = (i : Int) + 1 := by rw [IntKind.wrap_i64]; omega
  have hw2 : IntKind.i64.wrap ((l.length : Int) + 1) = (l.length : Int) + 1 := by rw [IntKind.wrap_i64]; omega
  have hw3 : IntKind.i64.wrap ((l.length : Int) + 1 - (i : Int)) = (l.length : Int) + 1 - (i : Int) := by rw [IntKind.wrap_i64]; omega
  have hkk : (l.length : Int) + 1 - (i : Int) = ((l.length + 1 - i : Nat) : Int) := by omega
  have hik : i + (l.length + 1 - i) = l.length + 1 := by omega
  obtain ⟨i0, hi0, hz0, hzs, hzb⟩ := Try.fileTy.hi
  have hold : (Builtin.firstCells i0.size i (.slice (some ⟨g, 0, none⟩) i cap)).run Try.prog w.drew = .ok (rowsOf fileC (l.take i)).toArray w.drew := by
    rw [hzs]
    refine run_firstCells_some w.drew 2 i ⟨g, 0, none⟩ i cap _ (by rw [rowsOf_length htk, htkl]) (range_news ?_)
    have := (hrow.cut i).drew.range_from htk 0
    rw [Nat.zero_mul, List.drop_zero] at this
    exact this
  have hrz : ∀ ty, (Builtin.append_ #[45, 3] ty #[.slice (some ⟨g, 0, none⟩) i cap, .int .i64 ((l.length : Int) + 1 - (i : Int))]).run Try.prog w =
      .ok (.slice (some ⟨w.heap.size, 0, none⟩) (l.length + 1) (grownCap w (l.length + 1) cap 54)) (w.drew.alloc (.cells ((rowsOf fileC (l.take i)).toArray ++ Builtin.zeroCells zFile.cells (l.length + 1 - i) ++ Builtin.zeroCells zFile.cells (grownCap w (l.length + 1) cap 54 - (l.length + 1))) 54)) := fun ty => by
    have h := Lib.run_append_grow_zeros w 45 3 ty 54 i0 _ .i64 .i64 Try.underlying45 Try.underlying3 hi0 hz0 (some ⟨g, 0, none⟩) i cap (rowsOf fileC (l.take i)) hold (l.length + 1 - i) (by omega) (by omega) (by omega) (by omega) (by rw [hzb]; omega) (by rw [hzb, hik]; exact growslice_fits hcap (by omega))
    rw [hik] at h
    rw [hkk]
    exact h
  obtain ⟨G, hG⟩ : ∃ G, G = grownCap w (l.length + 1) cap 54 := ⟨_, rfl⟩
  have hGn : l.length + 1 ≤ G := by rw [hG]; exact grownCap_ge w _ _ _
  have hGt : G ≤ maxLen := by rw [hG]; exact grownCap_le_maxLen w _ cap _ (by unfold maxLen; omega)
  have hG63 : G ≤ 9223372036854775807 := by simpa [maxLen] using hGt
  rw [← hG] at hrz
  have hnew := Row.of_new (s := l.take i) (enc := fileC) (e := 54) (cap := G) htk w.drew (Builtin.zeroCells zFile.cells (l.length + 1 - i) ++ Builtin.zeroCells zFile.cells (G - (l.length + 1))) (by
    rw [htkl, Array.size_append, size_zeroCells, size_zeroCells, zFile_cells]; omega) (by rw [htkl]; omega) hGt
  rw [← Array.append_assoc] at hnew
  have hbel0 : Below base w (w.drew.alloc (.cells ((rowsOf fileC (l.take i)).toArray ++ Builtin.zeroCells zFile.cells (l.length + 1 - i) ++ Builtin.zeroCells zFile.cells (G - (l.length + 1))) 54)) := (Below.refl _ _).drew.alloc hbase _
  have hoff : Below w.heap.size w (w.drew.alloc (.cells ((rowsOf fileC (l.take i)).toArray ++ Builtin.zeroCells zFile.cells (l.length + 1 - i) ++ Builtin.zeroCells zFile.cells (G - (l.length + 1))) 54)) := (Below.refl _ _).drew.alloc (Nat.le_refl _) _
  obtain ⟨W1, hW1⟩ : ∃ W1, W1 = w.drew.alloc (.cells ((rowsOf fileC (l.take i)).toArray ++ Builtin.zeroCells zFile.cells (l.length + 1 - i) ++ Builtin.zeroCells zFile.cells (G - (l.length + 1))) 54) := ⟨_, rfl⟩
  rw [← hW1] at hrz hnew hbel0 hoff
  clear hW1 hG
  have hold1 := hrow.below hoff
  have hv1 := hv.below hoff hv.lt
  obtain ⟨N, hN⟩ : ∃ N, N = w.heap.size := ⟨_, rfl⟩
  have hgN : g ≠ N := by omega
  have hbN : base ≤ N := by omega
  have hnew' : Row W1 N 54 2 fileC G (l.take i) := by rw [hN]; exact hnew
  rw [← hN] at hrz ⊢
  clear hnew hoff hold hN
  have hput := hnew'.put htk (t := [x]) (fun y hy => by simp at hy; subst hy; exact fileC_len hx) (i := i) (by omega) (by simp; omega)
  have e1 : (l.take i).take i = l.take i := List.take_of_length_le (by omega)
  have e2 : (l.take i).drop (i + [x].length) = [] := List.drop_of_length_le (by simp; omega)
  rw [rowsOf_one, e1, e2, List.append_nil] at hput
  have hcp1 : ∀ ty dc, (Builtin.copy_ #[45, 45] ty #[.slice (some ⟨N, i * 2, none⟩) (l.length + 1 - i) dc, .slice (some ⟨vb, 0, none⟩) 1 1]).run Try.prog W1 = .ok (goInt (1 : Nat)) (W1.setCells N (i * 2) (fileC x)) := fun ty dc =>
    run_copy_rows W1 _ _ ty 54 N (i * 2) _ dc ⟨vb, 0, none⟩ _ 1 _ _ Try.underlying45 szFile (by simp only [Nat.min_def]; split <;> omega) (by rw [fileC_len hx])
      (range_news (range_blkFile hv1)) (hnew'.there (by rw [fileC_len hx]; omega)) (fileC_one x)
  have hbel1 := below_setCells (fileC x) (i * 2) w W1 hbel0 hbN
  have hold2 : Row (W1.setCells N (i * 2) (fileC x)) g 54 2 fileC cap l := by
    obtain ⟨cur, hb, hs⟩ := hold1.blk
    exact ⟨⟨cur, hb.setCells_far hgN _ _ _, hs⟩, fun j y hy => World.rangeAt_setCells_apart (hold1.at_ j y hy) _ _ _ (.inl hgN), hold1.le, hold1.top⟩
  obtain ⟨W2, hW2⟩ : ∃ W2, W2 = W1.setCells N (i * 2) (fileC x) := ⟨_, rfl⟩
  rw [← hW2] at hcp1 hput hbel1 hold2
  clear hW2 hold1 hv1 hnew' hbel0 hrow hv
  have hk2 : ∀ y ∈ l.take i ++ [x], (fileC y).length = 2 := by
    intro y hy
    rcases List.mem_append.1 hy with hy | hy
    · exact htk y hy
    · simp at hy; subst hy; exact fileC_len hx
  have hput2 := hput.drew.put hk2 hdk (i := i + 1) (by simp; omega) (by omega)
  have e3 : (l.take i ++ [x]).take (i + 1) = l.take i ++ [x] := List.take_of_length_le (by simp; omega)
  have e4 : (l.take i ++ [x]).drop (i + 1 + (l.drop i).length) = [] := List.drop_of_length_le (by simp; omega)
  rw [e3, e4, List.append_nil] at hput2
  have hcp2 : ∀ ty dc sc, (Builtin.copy_ #[45, 45] ty #[.slice (some ⟨N, (i + 1) * 2, none⟩) (l.length - i) dc, .slice (some ⟨g, i * 2, none⟩) (l.length - i) sc]).run Try.prog W2.drew = .ok (goInt ((l.drop i).length : Nat)) (W2.drew.setCells N ((i + 1) * 2) (rowsOf fileC (l.drop i))) := fun ty dc sc =>
    run_copy_rows W2.drew _ _ ty 54 N ((i + 1) * 2) _ dc ⟨g, i * 2, none⟩ _ sc _ _ Try.underlying45 szFile (by rw [hdl]; simp only [Nat.min_def]; split <;> omega) (rowsOf_length hdk)
      (range_news (hold2.drew.range_from (fileK hok) i)) (hput.drew.there (by rw [rowsOf_length hdk, ← Nat.add_mul]; exact Nat.mul_le_mul_right _ (by omega))) (fileOne _)
  have hbel2 := below_setCells (rowsOf fileC (l.drop i)) ((i + 1) * 2) w W2.drew hbel1.drew hbN
  obtain ⟨W3, hW3⟩ : ∃ W3, W3 = W2.drew.setCells N ((i + 1) * 2) (rowsOf fileC (l.drop i)) := ⟨_, rfl⟩
  rw [← hW3] at hcp2 hput2 hbel2
  clear hW3 hput hold2 hk2 hdk htk hbel1 e1 e2 e3 e4 hi0 hz0 hzs hzb hbig hGt hkk hik hdl htkl hgw
  have hGi : ¬ (G = i) := by omega
  have hGim : ¬ (G = i + 1) := by omega
  go_enter Try.func27, Try.ntmps27
  go_wp2_with (first
    | (at_builtin; refine Lib.wpList_append_run _ rfl _ _ _ _ rfl _ _ rfl rfl _ _ (hrz _) ?_)
    | (at_builtin; refine wpList_copy_run _ rfl _ _ 45 45 rfl _ _ rfl rfl (hcp1 _ _) ?_))

  go_region_law_o (refine step_copy_run rfl _ _ 45 45 rfl (.slice (some ⟨N, (i + 1) * 2, none⟩) (l.length - i) (G - (i + 1))) (.slice (some ⟨g, i * 2, none⟩) (l.length - i) (cap - i)) (by simp [Act.eval, Act.put]) (by simp [Act.eval, Act.put]) (hcp2 _ _ _) ?_)
  go_wp2
  go_ret
  exact ⟨G, rfl, hput2, hbel2⟩
theorem filesOk_ins {l : List FileL} (hok : FilesOk l) (i : Nat) {x : FileL} (hx : FileOk x) : FilesOk (l.take i ++ [x] ++ l.drop i) := by
  intro y hy
  simp only [List.mem_append, List.mem_singleton] at hy
  rcases hy with (hy | rfl) | hy
  · exact hok y (List.mem_of_mem_take hy)
  · exact hx
  · exact hok y (List.mem_of_mem_drop hy)
set_option maxRecDepth 100000 in
set_option maxHeartbeats 500000 in
theorem insertFiles_end (l : List FileL) (hok : FilesOk l) (hbig : l.length ≤ 1000000) (v : Value) (w : World) (base vb : Nat) (x : FileL) (hx : FileOk x) (hbase : base ≤ w.heap.size) (hown : OwnFiles w base v l)
    (hv : Blk w vb 54 (fileC x).toArray) :
    Calls Try.prog 27 #[v, .int .i64 (l.length : Nat), .slice (some ⟨vb, 0, none⟩) 1 1] w fun e w' =>
      ∃ v', e = .returned v' ∧ OwnFiles w' base v' (l ++ [x]) ∧ w.grownBy w' v.ownBlock ∧ Newer w v v' := by
  have hcap : ∃ A cap, v = .slice A l.length cap ∧ l.length ≤ cap ∧ cap ≤ 9223372036854775807 ∧ (A = none → l.length = 0 ∧ cap = 0) := by
    rcases Row.of_own (fileK hok) hown with ⟨rfl, rfl⟩ | ⟨g, cap, rfl, hg, hrow⟩
    · exact ⟨none, 0, rfl, by simp, by omega, fun _ => ⟨rfl, rfl⟩⟩
    · exact ⟨_, cap, rfl, hrow.le, hrow.top63, fun h => by cases h⟩
  obtain ⟨A, cap, rfl, hc1, hc2, hnil⟩ := hcap
  have hlk := fileC_len hx
  have hone : ∀ u ∈ (fileC x).toArray.toList, u.oneCell' = true := fun u hu => fileC_one x u (by simpa using hu)
  have h1 : l.length + 1 ≤ 9223372036854775807 := by omega
  have h2 : (l.length + 1) * 32 ≤ 140737488355328 := by omega
  have hlen : l.length ≤ 9223372036854775807 := by omega
  clear hbig
  go_enter Try.func27, Try.ntmps27
  go_wp2_with (first
    | (at_builtin
       (with_reducible refine lit_append_at (.tmp 23) (.tmp 24) 1 _ Try.fileTy hown hv (by rw [List.size_toArray, hlk]) hone h1 h2 hbase ?_ ?_ ?_); rfl; rfl
       intro v' w' hown3 hg3 hnw3))
  all_goals
    go_ret
    have hown4 : OwnFiles w' base v' (l ++ [x]) := by
      unfold OwnFiles
      rw [List.length_append, List.length_singleton, rowsOf_append, rowsOf_one]
      exact hown3
    first
      | exact ⟨_, rfl, hown4, hg3, hnw3⟩
      | exact ⟨_, rfl, hown4, by cases A <;> exact hg3, by cases A <;> exact hnw3⟩
/-- slices.Insert of one ref. -/
theorem insertFiles_calls (l : List FileL) (hok : FilesOk l) (hbig : l.length ≤ 1000000) (v : Value) (w : World) (base i vb : Nat) (x : FileL) (hx : FileOk x) (hbase : base ≤ w.heap.size) (hown : OwnFiles w base v l) (hi : i ≤ l.length)
    (hv : Blk w vb 54 (fileC x).toArray) (hne : v.ownBlock ≠ some vb) :
    Calls Try.prog 27 #[v, .int .i64 i, .slice (some ⟨vb, 0, none⟩) 1 1] w fun e w' =>
      ∃ v', e = .returned v' ∧ OwnFiles w' base v' (l.take i ++ [x] ++ l.drop i) ∧ w.grownBy w' v.ownBlock ∧ Newer w v v' := by
  rcases Nat.lt_or_ge i l.length with hlt | hge
  · rcases Row.of_own (fileK hok) hown with ⟨rfl, rfl⟩ | ⟨g, cap, rfl, hg, hrow⟩
    · simp at hlt
    have hlen : l.length + 1 = (l.take i ++ [x] ++ l.drop i).length := by simp; omega
    by_cases hcap : l.length + 1 ≤ cap
    · refine (insertFiles_room l hok w g cap i vb x hx hrow hlt hcap hv (fun e => hne (by rw [e]; rfl))).mono ?_
      rintro e w' ⟨rfl, h1, h2⟩
      exact ⟨_, rfl, OwnFiles.of_row (filesOk_ins hok i hx) h1 hg hlen, h2, .inl rfl⟩
    · refine (insertFiles_grow l hok hbig w w.heap.size g cap i vb x hx (Nat.le_refl _) hrow hlt (by omega) hv).mono ?_
      rintro e w' ⟨G, rfl, h1, h2⟩
      exact ⟨_, rfl, OwnFiles.of_row (filesOk_ins hok i hx) h1 hbase hlen, grown_of_below h2 _, .inr fun k hk => by simp only [Value.ownBlock, Option.some.injEq] at hk; omega⟩
  · obtain rfl : i = l.length := by omega
    rw [List.take_length, List.drop_length, List.append_nil]
    exact insertFiles_end l hok hbig v w base vb x hx hbase hown hv
end Go.Proofs.Ytejaeclcgkcklaa
