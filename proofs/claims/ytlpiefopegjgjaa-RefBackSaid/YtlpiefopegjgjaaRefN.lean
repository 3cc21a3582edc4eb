/- The walks of layer 9 (ref): slices.Insert of one ref. No condition. -/
import Derived.Test.YtlpiefopegjgjaaRefD
import Derived.Shelf.RegionOpenPlain
import Derived.Lib.Overlaps
namespace Go.Proofs.Ytlpiefopegjgjaa
open Go.RowKit
theorem ins_place {α : Type} {l : List α} {i : Nat} (hi : i < l.length) (x : α) :
    (l.take (i + 1) ++ l.drop i ++ l.drop (i + 1 + (l.drop i).length)).set i x = l.take i ++ [x] ++ l.drop i := by
  rw [List.drop_of_length_le (i := i + 1 + (l.drop i).length) (by rw [List.length_drop]; omega), List.append_nil, List.set_eq_take_append_cons_drop, if_pos (by simp; omega)]
  rw [List.take_append_of_le_length (by simp; omega), List.take_take, Nat.min_eq_left (by omega)]
  rw [List.drop_append_of_le_length (by simp; omega), List.drop_of_length_le (l := l.take (i + 1)) (by simp; omega)]
  simp
theorem run_overlaps_refs (w : World) (g vb o : Nat) (cur cv : Array Value) (e ev : TypeId) (hb : Blk w g e cur) (hv : Blk w vb ev cv) (hc : 0 < cur.size) (hne : vb ≠ g) (m vc lb cb : Nat) :
    (callFunc 53 #[.slice (some ⟨vb, 0, none⟩) m vc, .slice (some ⟨g, o, none⟩) lb cb]).run Try.prog w = .ok (.value (.bool false)) w := by
  have hsz : ∀ w, (Go.sizeOf 54).run Try.prog w = .ok 33 w := fun w => by
    obtain ⟨i, h1, _, h3, _⟩ := Try.refTy.hi
    simp [sizeOf, typeInfo, h1, h3]
  rw [run_callFunc_extern Try.func53 (by kernel_rfl) (by kernel_rfl) (by kernel_rfl) (e := Extern.SlicesOverlaps.overlaps #[22, 22] #[4]) (by kernel_rfl),
    Lib.run_overlaps_apart w 22 4 54 Try.underlying22 33 hsz ⟨vb, 0, none⟩ ⟨g, o, none⟩ m vc lb cb hne ev e cv.size cur.size (by unfold World.shape?; rw [show w.heap[vb]? = _ from hv]) (by unfold World.shape?; rw [show w.heap[g]? = _ from hb]) (by omega) (hv.frozen _) (hv.frozen _)]
  rfl
theorem range_news {w : World} {g o : Nat} {cs : List Value} (h : w.rangeAt g o cs) : ∀ j u, cs[j]? = some u → w.cell? ((⟨g, o, none⟩ : Addr).add j) = some u := fun j u hu => by rw [Addr.add_mid]; exact h j u hu
theorem Row.range_from {α : Type} {w : World} {g : Nat} {e : TypeId} {k cap : Nat} {enc : α → List Value} {l : List α} (hk : ∀ x ∈ l, (enc x).length = k) (h : Row w g e k enc cap l) (i : Nat) : w.rangeAt g (i * k) (rowsOf enc (l.drop i)) := fun j u hu => by
  obtain ⟨a, x, q, h1, h2, h3⟩ := rowsOf_find (fun x hx => hk x (List.mem_of_mem_drop hx)) hu
  rw [List.getElem?_drop] at h1
  have := h.at_ _ x h1 q u h2
  rw [h3, show i * k + (a * k + q) = (i + a) * k + q from by rw [Nat.add_mul, Nat.add_assoc]]
  exact this
set_option maxRecDepth 100000 in
set_option maxHeartbeats 2000000 in
theorem insert_room (l : List RefL) (hok : RefsOk l) (w : World) (base g cap i vb : Nat) (x : RefL) (hx : RefOk x) (hg : base ≤ g) (hrow : Row w g 54 33 refC cap l) (hi : i < l.length) (hcap : l.length + 1 ≤ cap)
    (hv : Blk w vb 54 (refC x).toArray) (hne : vb ≠ g) :
    Calls Try.prog 48 #[.slice (some ⟨g, 0, none⟩) l.length cap, .int .i64 i, .slice (some ⟨vb, 0, none⟩) 1 1] w fun e w' =>
      e = .returned (.slice (some ⟨g, 0, none⟩) (l.length + 1) cap) ∧ Row w' g 54 33 refC cap (l.take i ++ [x] ++ l.drop i) ∧ Below base w w' := by
  have h63 := hrow.top63
  have hdl : (l.drop i).length = l.length - i := List.length_drop
  have hdk : ∀ y ∈ l.drop i, (refC y).length = 33 := fun y hy => refK hok y (List.mem_of_mem_drop hy)
  have hbi : (0 : Int) ≤ (i : Int) + 1 := by omega
  have htn : ((i : Int) + 1).toNat = i + 1 := by omega
  have hz2 : ¬ ((i : Int) = (l.length : Int)) := by omega
  have hil : (i : Int) ≤ (l.length : Int) := by omega
  have hil1 : (i : Int) + 1 ≤ (l.length : Int) + 1 := by omega
  have hil2 : (i : Int) ≤ (l.length : Int) + 1 := by omega
  have mixed : Try.prog.follows Departure.mixedOrders = true := by kernel_rfl
  have hci : ¬ (cap = i) := by omega
  have hci1 : ¬ (cap = i + 1) := by omega
  have hnc : ¬ ((cap : Int) < (l.length : Int) + 1) := by omega
  have hcn : (l.length : Int) + 1 ≤ (cap : Int) := by omega
  have hw1 : IntKind.i64.wrap ((i : Int) + 1) = (i : Int) + 1 := by rw [IntKind.wrap_i64]; omega
  have hw2 : IntKind.i64.wrap ((l.length : Int) + 1) = (l.length : Int) + 1 := by rw [IntKind.wrap_i64]; omega
  have htl : ((l.length : Int) + 1).toNat = l.length + 1 := by omega
  have hov : ∀ lb cb o, (callFunc 53 #[.slice (some ⟨vb, 0, none⟩) 1 1, .slice (some ⟨g, o, none⟩) lb cb]).run Try.prog w = .ok (.value (.bool false)) w := fun lb cb o => by
    obtain ⟨cur, hb, hs⟩ := hrow.blk
    exact run_overlaps_refs w g vb o cur _ _ _ hb hv (by rw [hs]; omega) hne 1 1 lb cb
  have hput := hrow.drew.put (refK hok) hdk (i := i + 1) (by omega) (by omega)
  have hcp1 : ∀ ty dc sc, (Builtin.copy_ #[22, 22] ty #[.slice (some ⟨g, (i + 1) * 33, none⟩) (l.length - i) dc, .slice (some ⟨g, i * 33, none⟩) (l.length + 1 - i) sc]).run Try.prog w.drew = .ok (goInt ((l.drop i).length : Nat)) (w.drew.setCells g ((i + 1) * 33) (rowsOf refC (l.drop i))) := fun ty dc sc =>
    run_copy_rows w.drew _ _ ty 54 g ((i + 1) * 33) _ dc ⟨g, i * 33, none⟩ _ sc _ _ Try.underlying22 szRef (by rw [hdl]; simp only [Nat.min_def]; split <;> omega) (rowsOf_length hdk)
      (range_news ((hrow.drew).range_from (refK hok) i)) ((hrow.drew).there (by rw [rowsOf_length hdk, ← Nat.add_mul]; exact Nat.mul_le_mul_right _ (by omega))) (refOne _)
  obtain ⟨W1, hW1⟩ : ∃ W1, W1 = w.drew.setCells g ((i + 1) * 33) (rowsOf refC (l.drop i)) := ⟨_, rfl⟩
  have hbel1 : Below base w W1 := by rw [hW1]; exact below_setCells _ _ _ _ (Below.refl _ _).drew hg
  rw [← hW1] at hcp1 hput
  have hv1 : Blk W1 vb 54 (refC x).toArray := by
    rw [hW1]
    exact hv.drew.setCells_far hne _ _ _
  have hs2 : RefsOk (l.take (i + 1) ++ l.drop i ++ l.drop (i + 1 + (l.drop i).length)) := by
    intro y hy
    simp only [List.mem_append] at hy
    rcases hy with (hy | hy) | hy
    · exact hok y (List.mem_of_mem_take hy)
    · exact hok y (List.mem_of_mem_drop hy)
    · exact hok y (List.mem_of_mem_drop hy)
  have hset := hput.set (refK hs2) (i := i) (by simp; omega) (refC_len hx)
  rw [ins_place hi] at hset
  have hcp2 : ∀ ty dc, (Builtin.copy_ #[22, 22] ty #[.slice (some ⟨g, i * 33, none⟩) (l.length + 1 - i) dc, .slice (some ⟨vb, 0, none⟩) 1 1]).run Try.prog W1 = .ok (goInt (1 : Nat)) (W1.setCells g (i * 33) (refC x)) := fun ty dc =>
    run_copy_rows W1 _ _ ty 54 g (i * 33) _ dc ⟨vb, 0, none⟩ _ 1 _ _ Try.underlying22 szRef (by simp only [Nat.min_def]; split <;> omega) (by rw [refC_len hx])
      (range_news (range_blkRef hv1)) (hput.there (by rw [refC_len hx]; omega)) (refC_one x)
  have hbel2 := below_setCells (refC x) (i * 33) w W1 hbel1 hg
  clear hput hv hv1 hrow hs2 hdk hW1
  go_enter Try.func48, Try.ntmps48
  go_wp2_with (simp only [hov])
  go_region_law_o (refine step_copy_run rfl _ _ 22 22 rfl (.slice (some ⟨g, (i + 1) * 33, none⟩) (l.length - i) (cap - (i + 1))) (.slice (some ⟨g, i * 33, none⟩) (l.length + 1 - i) (cap - i)) (by simp [Act.eval, Act.put]) (by simp [Act.eval, Act.put]) (hcp1 _ _ _) ?_)
  go_wp2_with (at_builtin; refine wpList_copy_run _ rfl _ _ 22 22 rfl _ _ rfl rfl (hcp2 _ _) ?_)

  go_ret
  exact ⟨rfl, hset, hbel2⟩
set_option maxRecDepth 100000 in
set_option maxHeartbeats 500000 in
theorem insert_grow (l : List RefL) (hok : RefsOk l) (hbig : l.length ≤ 1000000) (w : World) (base g cap i vb : Nat) (x : RefL) (hx : RefOk x) (hbase : base ≤ w.heap.size) (hrow : Row w g 54 33 refC cap l) (hi : i < l.length) (hcap : cap < l.length + 1)
    (hv : Blk w vb 54 (refC x).toArray) :
    Calls Try.prog 48 #[.slice (some ⟨g, 0, none⟩) l.length cap, .int .i64 i, .slice (some ⟨vb, 0, none⟩) 1 1] w fun e w' =>
      ∃ G, e = .returned (.slice (some ⟨w.heap.size, 0, none⟩) (l.length + 1) G) ∧ Row w' w.heap.size 54 33 refC G (l.take i ++ [x] ++ l.drop i) ∧ Below base w w' := by
  have h63 := hrow.top63
  have hle := hrow.le
  have hgw := hrow.lt
  have hdl : (l.drop i).length = l.length - i := List.length_drop
  have htkl : (l.take i).length = i := by simp; omega
  have hdk : ∀ y ∈ l.drop i, (refC y).length = 33 := fun y hy => refK hok y (List.mem_of_mem_drop hy)
  have htk : ∀ y ∈ l.take i, (refC y).length = 33 := fun y hy => refK hok y (List.mem_of_mem_take hy)
  have hbi : (0 : Int) ≤ (i : Int) + 1 := by omega
  have htn : ((i : Int) + 1).toNat = i + 1 := by omega
  have hz2 : ¬ ((i : Int) = (l.length : Int)) := by omega
  have hil : (i : Int) ≤ (l.length : Int) := by omega
  have hil0 : (i : Int) ≤ (cap : Int) := by omega
  have hil1 : (i : Int) + 1 ≤ (l.length : Int) + 1 := by omega
  have hil2 : (i : Int) ≤ (l.length : Int) + 1 := by omega
  have mixed : Try.prog.follows Departure.mixedOrders = true := by kernel_rfl
  have hci : ¬ (cap = i) := by omega
  have hnc : (cap : Int) < (l.length : Int) + 1 := by omega
  have hw1 : IntKind.i64.wrap ((i : Int) + 1) = (i : Int) + 1 := by rw [IntKind.wrap_i64]; omega
  have hw2 : IntKind.i64.wrap ((l.length : Int) + 1) = (l.length : Int) + 1 := by rw [IntKind.wrap_i64]; omega
  have hw3 : IntKind.i64.wrap ((l.length : Int) + 1 - (i : Int)) = (l.length : Int) + 1 - (i : Int) := by rw [IntKind.wrap_i64]; omega
  have hkk : (l.length : Int) + 1 - (i : Int) = ((l.length + 1 - i : Nat) : Int) := by omega
  have hik : i + (l.length + 1 - i) = l.length + 1 := by omega
  obtain ⟨i0, hi0, hz0, hzs, hzb⟩ := Try.refTy.hi
  have hold : (Builtin.firstCells i0.size i (.slice (some ⟨g, 0, none⟩) i cap)).run Try.prog w.drew = .ok (rowsOf refC (l.take i)).toArray w.drew := by
    rw [hzs]
    refine run_firstCells_some w.drew 33 i ⟨g, 0, none⟩ i cap _ (by rw [rowsOf_length htk, htkl]) (range_news ?_)
    have := (hrow.cut i).drew.range_from htk 0
    rw [Nat.zero_mul, List.drop_zero] at this
    exact this
  have hrz : ∀ ty, (Builtin.append_ #[22, 3] ty #[.slice (some ⟨g, 0, none⟩) i cap, .int .i64 ((l.length : Int) + 1 - (i : Int))]).run Try.prog w =
      .ok (.slice (some ⟨w.heap.size, 0, none⟩) (l.length + 1) (grownCap w (l.length + 1) cap 54)) (w.drew.alloc (.cells ((rowsOf refC (l.take i)).toArray ++ Builtin.zeroCells zRef.cells (l.length + 1 - i) ++ Builtin.zeroCells zRef.cells (grownCap w (l.length + 1) cap 54 - (l.length + 1))) 54)) := fun ty => by
    have h := Lib.run_append_grow_zeros w 22 3 ty 54 i0 _ .i64 .i64 Try.underlying22 Try.underlying3 hi0 hz0 (some ⟨g, 0, none⟩) i cap (rowsOf refC (l.take i)) hold (l.length + 1 - i) (by omega) (by omega) (by omega) (by omega) (by rw [hzb]; omega) (by rw [hzb, hik]; exact growslice_fits hcap (by omega))
    rw [hik] at h
    rw [hkk]
    exact h
  obtain ⟨G, hG⟩ : ∃ G, G = grownCap w (l.length + 1) cap 54 := ⟨_, rfl⟩
  have hGn : l.length + 1 ≤ G := by rw [hG]; exact grownCap_ge w _ _ _
  have hGt : G ≤ maxLen := by rw [hG]; exact grownCap_le_maxLen w _ cap _ (by unfold maxLen; omega)
  have hG63 : G ≤ 9223372036854775807 := by simpa [maxLen] using hGt
  rw [← hG] at hrz
  have hnew := Row.of_new (s := l.take i) (enc := refC) (e := 54) (cap := G) htk w.drew (Builtin.zeroCells zRef.cells (l.length + 1 - i) ++ Builtin.zeroCells zRef.cells (G - (l.length + 1))) (by
    rw [htkl, Array.size_append, size_zeroCells, size_zeroCells, zRef_cells]; omega) (by rw [htkl]; omega) hGt
  rw [← Array.append_assoc] at hnew
  have hbel0 : Below base w (w.drew.alloc (.cells ((rowsOf refC (l.take i)).toArray ++ Builtin.zeroCells zRef.cells (l.length + 1 - i) ++ Builtin.zeroCells zRef.cells (G - (l.length + 1))) 54)) := (Below.refl _ _).drew.alloc hbase _
  have hoff : Below w.heap.size w (w.drew.alloc (.cells ((rowsOf refC (l.take i)).toArray ++ Builtin.zeroCells zRef.cells (l.length + 1 - i) ++ Builtin.zeroCells zRef.cells (G - (l.length + 1))) 54)) := (Below.refl _ _).drew.alloc (Nat.le_refl _) _
  obtain ⟨W1, hW1⟩ : ∃ W1, W1 = w.drew.alloc (.cells ((rowsOf refC (l.take i)).toArray ++ Builtin.zeroCells zRef.cells (l.length + 1 - i) ++ Builtin.zeroCells zRef.cells (G - (l.length + 1))) 54) := ⟨_, rfl⟩
  rw [← hW1] at hrz hnew hbel0 hoff
  clear hW1 hG
  have hold1 := hrow.below hoff
  have hv1 := hv.below hoff hv.lt
  obtain ⟨N, hN⟩ : ∃ N, N = w.heap.size := ⟨_, rfl⟩
  have hgN : g ≠ N := by omega
  have hbN : base ≤ N := by omega
  have hnew' : Row W1 N 54 33 refC G (l.take i) := by rw [hN]; exact hnew
  rw [← hN] at hrz ⊢
  clear hnew hoff hold hN
  have hput := hnew'.put htk (t := [x]) (fun y hy => by simp at hy; subst hy; exact refC_len hx) (i := i) (by omega) (by simp; omega)
  have e1 : (l.take i).take i = l.take i := List.take_of_length_le (by omega)
  have e2 : (l.take i).drop (i + [x].length) = [] := List.drop_of_length_le (by simp; omega)
  rw [rowsOf_one, e1, e2, List.append_nil] at hput
  have hcp1 : ∀ ty dc, (Builtin.copy_ #[22, 22] ty #[.slice (some ⟨N, i * 33, none⟩) (l.length + 1 - i) dc, .slice (some ⟨vb, 0, none⟩) 1 1]).run Try.prog W1 = .ok (goInt (1 : Nat)) (W1.setCells N (i * 33) (refC x)) := fun ty dc =>
    run_copy_rows W1 _ _ ty 54 N (i * 33) _ dc ⟨vb, 0, none⟩ _ 1 _ _ Try.underlying22 szRef (by simp only [Nat.min_def]; split <;> omega) (by rw [refC_len hx])
      (range_news (range_blkRef hv1)) (hnew'.there (by rw [refC_len hx]; omega)) (refC_one x)
  have hbel1 := below_setCells (refC x) (i * 33) w W1 hbel0 hbN
  have hold2 : Row (W1.setCells N (i * 33) (refC x)) g 54 33 refC cap l := by
    obtain ⟨cur, hb, hs⟩ := hold1.blk
    exact ⟨⟨cur, hb.setCells_far hgN _ _ _, hs⟩, fun j y hy => World.rangeAt_setCells_apart (hold1.at_ j y hy) _ _ _ (.inl hgN), hold1.le, hold1.top⟩
  obtain ⟨W2, hW2⟩ : ∃ W2, W2 = W1.setCells N (i * 33) (refC x) := ⟨_, rfl⟩
  rw [← hW2] at hcp1 hput hbel1 hold2
  clear hW2 hold1 hv1 hnew' hbel0 hrow hv
  have hk2 : ∀ y ∈ l.take i ++ [x], (refC y).length = 33 := by
    intro y hy
    rcases List.mem_append.1 hy with hy | hy
    · exact htk y hy
    · simp at hy; subst hy; exact refC_len hx
  have hput2 := hput.drew.put hk2 hdk (i := i + 1) (by simp; omega) (by omega)
  have e3 : (l.take i ++ [x]).take (i + 1) = l.take i ++ [x] := List.take_of_length_le (by simp; omega)
  have e4 : (l.take i ++ [x]).drop (i + 1 + (l.drop i).length) = [] := List.drop_of_length_le (by simp; omega)
  rw [e3, e4, List.append_nil] at hput2
  have hcp2 : ∀ ty dc sc, (Builtin.copy_ #[22, 22] ty #[.slice (some ⟨N, (i + 1) * 33, none⟩) (l.length - i) dc, .slice (some ⟨g, i * 33, none⟩) (l.length - i) sc]).run Try.prog W2.drew = .ok (goInt ((l.drop i).length : Nat)) (W2.drew.setCells N ((i + 1) * 33) (rowsOf refC (l.drop i))) := fun ty dc sc =>
    run_copy_rows W2.drew _ _ ty 54 N ((i + 1) * 33) _ dc ⟨g, i * 33, none⟩ _ sc _ _ Try.underlying22 szRef (by rw [hdl]; simp only [Nat.min_def]; split <;> omega) (rowsOf_length hdk)
      (range_news (hold2.drew.range_from (refK hok) i)) (hput.drew.there (by rw [rowsOf_length hdk, ← Nat.add_mul]; exact Nat.mul_le_mul_right _ (by omega))) (refOne _)
  have hbel2 := below_setCells (rowsOf refC (l.drop i)) ((i + 1) * 33) w W2.drew hbel1.drew hbN
  obtain ⟨W3, hW3⟩ : ∃ W3, W3 = W2.drew.setCells N ((i + 1) * 33) (rowsOf refC (l.drop i)) := ⟨_, rfl⟩
  rw [← hW3] at hcp2 hput2 hbel2
  clear hW3 hput hold2 hk2 hdk htk hbel1 e1 e2 e3 e4 hi0 hz0 hzs hzb hbig hGt hkk hik hdl htkl hgw
  have hGi : ¬ (G = i) := by omega
  have hGim : ¬ (G = i + 1) := by omega
  go_enter Try.func48, Try.ntmps48
  go_wp2_with (first
    | (at_builtin; refine Lib.wpList_append_run _ rfl _ _ _ _ rfl _ _ rfl rfl _ _ (hrz _) ?_)
    | (at_builtin; refine wpList_copy_run _ rfl _ _ 22 22 rfl _ _ rfl rfl (hcp1 _ _) ?_))

  go_region_law_o (refine step_copy_run rfl _ _ 22 22 rfl (.slice (some ⟨N, (i + 1) * 33, none⟩) (l.length - i) (G - (i + 1))) (.slice (some ⟨g, i * 33, none⟩) (l.length - i) (cap - i)) (by simp [Act.eval, Act.put]) (by simp [Act.eval, Act.put]) (hcp2 _ _ _) ?_)
  go_wp2
  go_ret
  exact ⟨G, rfl, hput2, hbel2⟩
end Go.Proofs.Ytlpiefopegjgjaa
