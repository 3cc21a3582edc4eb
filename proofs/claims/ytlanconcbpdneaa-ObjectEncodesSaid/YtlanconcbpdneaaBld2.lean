/- The walks of strings.Builder's WriteByte and Write at this program. No condition. -/
import Derived.Test.YtlanconcbpdneaaBld
import Derived.Test.YtlanconcbpdneaaFar
namespace Go.Proofs.Ytlanconcbpdneaa
open Go.RowKit
/-- append of bytes that lie anywhere. -/
theorem lit_append_part {P : Program} {ops : Array Oper} {rest : List Oper} {a : Act} {w : World} {Q : Exit → Act → World → Prop} {d : Option Tmp} {rt : TypeId} {pos : String} {af : Array Edge}
    (s x : Operand) (c : Nat) (t : TypeId) {e : TypeId} {z : Value} {size bytes : Nat} (hT : SliceTy P t e z size bytes) {base n : Nat} {v : Value} {xs : List Value} (hown : w.ownsRow base e size v n xs)
    {m : Nat} (ad : Addr) (news : List Value) (hl : news.length = m * size) (hnews : ∀ j u, news[j]? = some u → w.cell? (ad.add j) = some u) (h1 : ∀ u ∈ news, u.oneCell' = true)
    (h63 : n + m ≤ 9223372036854775807) (hbytes : (n + m) * bytes ≤ 140737488355328) (hbase : base ≤ w.heap.size) (hs : a.eval s = v) (hx : a.eval x = .slice (some ad) m c)
    (h : ∀ v' w', w'.ownsRow base e size v' (n + m) (xs ++ news) → w.grownBy w' v.ownBlock → wpList P ops Q rest (a.put d v') w') :
    wpList P ops Q ({ dst := d, op := .call { callee := .builtin .append, args := #[s, x], argTypes := #[t, t] }, type := rt, pos := pos, after := af, guard := none } :: rest) a w := by
  obtain ⟨i, i1, i2, i3, i4⟩ := hT.hi
  refine wpList_append_own_at w rfl s x t rfl base e i z size bytes hT.ht i1 i2 i3 i4 hT.hzs hT.hsz v n xs hs hown ad m c news hx hl hnews h1 (by simp only [maxLen]; omega) hbytes hbase ?_
  intro v' w' hown' hg _ _
  exact h v' w' hown' hg
theorem add_at (b o k : Nat) : (⟨b, o, none⟩ : Addr).add k = ⟨b, o + k, none⟩ := by simp [Addr.add]
theorem cell_of_heap {w w' : World} {p : Addr} (h : w'.heap[p.block]? = w.heap[p.block]?) : w'.cell? p = w.cell? p := by unfold World.cell?; rw [h]
theorem u8s_cells (t : List UInt8) : (u8s t).toList = t.map u8v := by simp [u8s]
set_option maxRecDepth 100000 in
set_option maxHeartbeats 1000000 in
theorem write_calls (B0 b : Nat) (l t : List UInt8) (w : World) (h : Lib.IsBuilder 67 5 B0 b (l.map u8v) w) (g off c : Nat) (hr : w.rangeAt g off (u8s t).toList) (hgb : g ≠ b) (hlen : l.length + t.length ≤ 70368744177664) (hBw : B0 ≤ w.heap.size) :
    Calls Try.prog 35 #[.pointer (some ⟨b, 0, none⟩), .slice (some ⟨g, off, none⟩) t.length c] w fun e w' => e = .returned (.tuple #[.int .i64 t.length, .nilIface]) ∧ Lib.IsBuilder 67 5 B0 b ((l ++ t).map u8v) w' ∧ Below B0 w w' ∧ ∀ k T cs, Blk w k T cs → 5 ≠ T → k ≠ b → Blk w' k T cs := by
  have hcc := Lib.hid (copyCheck_calls B0 b (l.map u8v) w h)
  have hne5 : (5 : TypeId) ≠ 67 := by decide
  have h63 : l.length + t.length ≤ 9223372036854775807 := by omega
  have h64 : (l.length + t.length) * 1 ≤ 140737488355328 := by omega
  have hl1 : (u8s t).toList.length = t.length * 1 := by rw [u8s_cells, List.length_map, Nat.mul_one]
  have ho1 : ∀ u ∈ (u8s t).toList, u.oneCell' = true := by
    intro u hu
    rw [u8s_cells, List.mem_map] at hu
    obtain ⟨c, _, rfl⟩ := hu; rfl
  clear h
  go_enter Try.func35, Try.ntmps35
  go_wp2_with (first
    | (at_builtin
       (with_reducible refine lit_append_part (.tmp 12) (.tmp 13) c _ Try.bytesTy hownR (m := t.length) ⟨g, off, none⟩ (u8s t).toList hl1 hn1 ho1 h63 h64 hbs1 ?_ ?_ ?_); rfl; rfl
       intro v2 w2 hown2' hg2
       have hown2 : OwnB w2 B0 5 v2 (l ++ t) := by unfold OwnB; rw [u8s_cells] at hown2'; rw [List.length_append, List.map_append]; exact hown2'
       have hb2 : Below B0 w w2 := hb1.grown hg2 hbs1 (fun k hk => (World.ownsRow.lt hown k hk).1)
       have hbk2 := hbk.grown hg2 (own_blk_ne hown hbk hne5)
       have c2 : w2.cell? ⟨b, 1, none⟩ = some v := hbk2.cell 1
       have f2 : w2.frozen? ⟨b, 1, none⟩ = false := hbk2.frozen 1
       have hvb := own_blk_ne hown2 hbk2 hne5
       obtain ⟨A2, cap2, hv2⟩ := OwnB.form' hown2
       subst hv2
       have hfar2 : Hid (∀ k T cs, Blk w1 k T cs → 5 ≠ T → Blk w2 k T cs) := fun k T cs h hT => h.grown hg2 (own_blk_ne hown h hT)
       clear hg2 c1 hown2')
    | (go_at_call 46; (with_reducible refine hcc.out.mono ?_); rintro e w1 ⟨rfl, h1, hb1, hfar1⟩
       obtain ⟨hB, v, hbk', hown', hne⟩ := h1
       have hbk : Blk w1 b 67 #[.pointer (some ⟨b, 0, none⟩), v] := hbk'
       have hown : OwnB w1 B0 5 v l := by unfold OwnB; rw [List.length_map] at hown'; exact hown'
       have hownR : w1.ownsRow B0 5 1 v l.length (l.map u8v) := hown
       have c1 : w1.cell? ⟨b, 1, none⟩ = some v := hbk.cell 1
       have hbs1 := Nat.le_trans hBw hb1.size
       have hn1 : ∀ j u, (u8s t).toList[j]? = some u → w1.cell? ((⟨g, off, none⟩ : Addr).add j) = some u := fun j u hu => by
         rw [add_at, cell_of_heap (w := w) (p := ⟨g, off + j, none⟩) (hfar1 g hgb)]
         exact hr j u hu
       have hfar1 : ∀ k T cs, Blk w k T cs → k ≠ b → Blk w1 k T cs := fun k T cs h hk => (hfar1 k hk).trans h
       have hfar1 := Lib.hid hfar1
       clear hbk' hown' hcc))
  go_ret2
  have hbk3 : Blk (w2.setCell ⟨b, 1, none⟩ (.slice A2 (l ++ t).length cap2)) b 67 #[.pointer (some ⟨b, 0, none⟩), .slice A2 (l ++ t).length cap2] := hbk2.set_ 1 _
  have hown3 : OwnB (w2.setCell ⟨b, 1, none⟩ (.slice A2 (l ++ t).length cap2)) B0 5 (.slice A2 (l ++ t).length cap2) (l ++ t) :=
    OwnB.kept hown2 (grown_setCell w2 ⟨b, 1, none⟩ _) (.inr fun e => hvb e.symm)
  have hb3 : Below B0 w (w2.setCell ⟨b, 1, none⟩ (.slice A2 (l ++ t).length cap2)) := hb2.setCell (p := ⟨b, 1, none⟩) hB _
  rw [List.length_append] at hbk3 hown3 hb3 hvb
  refine ⟨rfl, .inr ⟨hB, _, hbk3, ?_, fun e => hvb e.symm⟩, hb3, fun k T cs h hT hk => (hfar2.out k T cs (hfar1.out k T cs h hk) hT).far (p := ⟨b, 1, none⟩) hk _⟩
  rw [List.length_map, List.length_append]
  unfold OwnB at hown3
  rw [List.length_append] at hown3
  exact hown3
set_option maxRecDepth 100000 in
set_option maxHeartbeats 1000000 in
theorem writeByte_calls (B0 b : Nat) (l : List UInt8) (n : Int) (w : World) (h : Lib.IsBuilder 67 5 B0 b (l.map u8v) w) (hn0 : 0 ≤ n) (hn1 : n < 256) (hlen : l.length + 1 ≤ 70368744177664) (hBw : B0 ≤ w.heap.size) :
    Calls Try.prog 33 #[.pointer (some ⟨b, 0, none⟩), .int .u8 n] w fun e w' => e = .returned .nilIface ∧ Lib.IsBuilder 67 5 B0 b ((l ++ [UInt8.ofNat n.toNat]).map u8v) w' ∧ Below B0 w w' ∧ ∀ k T cs, Blk w k T cs → 5 ≠ T → k ≠ b → Blk w' k T cs := by
  have hcc := Lib.hid (copyCheck_calls B0 b (l.map u8v) w h)
  have hne5 : (5 : TypeId) ≠ 67 := by decide
  have hl70 : l.length ≤ 70368744177664 := by omega
  clear h
  go_enter Try.func33, Try.ntmps33
  go_wp2_with (first
    | (go_at_call 46; (with_reducible refine hcc.out.mono ?_); rintro e w1 ⟨rfl, h1, hb1, hfar1⟩
       obtain ⟨hB, v, hbk', hown', hne⟩ := h1
       have hbk : Blk w1 b 67 #[.pointer (some ⟨b, 0, none⟩), v] := hbk'
       have hown : OwnB w1 B0 5 v l := by unfold OwnB; rw [List.length_map] at hown'; exact hown'
       have c1 : w1.cell? ⟨b, 1, none⟩ = some v := hbk.cell 1
       have hbs1 := Nat.le_trans hBw hb1.size
       have hfar1 : ∀ k T cs, Blk w k T cs → k ≠ b → Blk w1 k T cs := fun k T cs h hk => (hfar1 k hk).trans h
       have hfar1 := Lib.hid hfar1
       clear hbk' hown' hcc)
    | (at_builtin
       refine wpList_append_byte rfl (.tmp 11) (.tmp 13) _ rfl 5 Try.bytesTy B0 v l rfl (hown.alloc (.cells #[.int .u8 n] 5)) w1.heap.size n rfl (cell_new1 _ _ _) hn0 hn1 hl70 w (hb1.alloc (Nat.le_trans hBw hb1.size) (.cells #[.int .u8 n] 5)) (Nat.le_trans hbs1 ((Below.refl w1.heap.size w1).alloc (Nat.le_refl _) (.cells #[.int .u8 n] 5)).size) ?_
       intro v2 w2 hown2 hb2 hg2
       have hbk2 := (hbk.alloc (.cells #[.int .u8 n] 5)).grown hg2 (own_blk_ne (hown.alloc (.cells #[.int .u8 n] 5)) (hbk.alloc (.cells #[.int .u8 n] 5)) hne5)
       have c2 : w2.cell? ⟨b, 1, none⟩ = some v := hbk2.cell 1
       have f2 : w2.frozen? ⟨b, 1, none⟩ = false := hbk2.frozen 1
       have hvb := own_blk_ne hown2 hbk2 hne5
       obtain ⟨A2, cap2, hv2⟩ := OwnB.form' hown2
       subst hv2
       have hfar2 : Hid (∀ k T cs, Blk w1 k T cs → 5 ≠ T → Blk w2 k T cs) := fun k T cs h hT => (h.alloc (.cells #[.int .u8 n] 5)).grown hg2 (own_blk_ne (hown.alloc (.cells #[.int .u8 n] 5)) (h.alloc (.cells #[.int .u8 n] 5)) hT)
       clear hg2 c1))
  go_ret
  have hbk3 : Blk (w2.setCell ⟨b, 1, none⟩ (.slice A2 (l ++ [UInt8.ofNat n.toNat]).length cap2)) b 67 #[.pointer (some ⟨b, 0, none⟩), .slice A2 (l ++ [UInt8.ofNat n.toNat]).length cap2] := hbk2.set_ 1 _
  have hown3 : OwnB (w2.setCell ⟨b, 1, none⟩ (.slice A2 (l ++ [UInt8.ofNat n.toNat]).length cap2)) B0 5 (.slice A2 (l ++ [UInt8.ofNat n.toNat]).length cap2) (l ++ [UInt8.ofNat n.toNat]) :=
    OwnB.kept hown2 (grown_setCell w2 ⟨b, 1, none⟩ _) (.inr fun e => hvb e.symm)
  have hb3 : Below B0 w (w2.setCell ⟨b, 1, none⟩ (.slice A2 (l ++ [UInt8.ofNat n.toNat]).length cap2)) := hb2.setCell (p := ⟨b, 1, none⟩) hB _
  rw [List.length_append] at hbk3 hown3 hb3 hvb
  refine ⟨rfl, .inr ⟨hB, _, hbk3, ?_, fun e => hvb e.symm⟩, hb3, fun k T cs h hT hk => (hfar2.out k T cs (hfar1.out k T cs h hk) hT).far (p := ⟨b, 1, none⟩) hk _⟩
  rw [List.length_map, List.length_append]
  unfold OwnB at hown3
  rw [List.length_append] at hown3
  exact hown3
end Go.Proofs.Ytlanconcbpdneaa
