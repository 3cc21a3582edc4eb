/- The walk of layer 9's reference: Set. No condition. -/
import Derived.Test.YtlpiefopegjgjaaRefR
import Derived.Test.YtlpiefopegjgjaaLit
namespace Go.Proofs.Ytlpiefopegjgjaa
open Go.RowKit
/-- Refs in which a name stands for an id, as the document lays them. -/
def setGo (name id : List UInt8) : Bool → List RefL → List RefL
  | d, [] => if d then [] else [⟨name, id⟩]
  | d, x :: r => (if !d && !Op.bytesLess x.name name then [⟨name, id⟩] else []) ++ (if x.name == name then [] else [x]) ++ setGo name id (d || !Op.bytesLess x.name name) r
def setL (l : List RefL) (name id : List UInt8) : List RefL := setGo name id (isNone id) l
theorem drop_cons' {α : Type} {l : List α} {k : Nat} {x : α} (hx : l[k]? = some x) : l.drop k = x :: l.drop (k + 1) := by
  obtain ⟨hk, he⟩ := List.getElem?_eq_some_iff.1 hx
  rw [List.drop_eq_getElem_cons hk, he]
theorem set_step {name id : List UInt8} {l o g : List RefL} {k : Nat} {x : RefL} {d : Bool} (h : o ++ setGo name id d (l.drop k) = g) (hx : l[k]? = some x) (p : List RefL) (d' : Bool)
    (hp : (if !d && !Op.bytesLess x.name name then [⟨name, id⟩] else []) ++ (if x.name == name then [] else [x]) = p) (hd : (d || !Op.bytesLess x.name name) = d') : (o ++ p) ++ setGo name id d' (l.drop (k + 1)) = g := by
  rw [← h, drop_cons' hx, setGo, hp, hd, List.append_assoc]
theorem set_end {name id : List UInt8} {l o g : List RefL} {k : Nat} {d : Bool} (h : o ++ setGo name id d (l.drop k) = g) (hk : l.length ≤ k) : o ++ (if d then [] else [⟨name, id⟩]) = g := by
  rw [← h, List.drop_of_length_le hk]
  rfl
/-- One more ref lies in a block of its own, to be taken on. -/
theorem new_of_own {w : World} {base : Nat} {e : TypeId} {size n : Nat} {v : Value} {xs : List Value} (_ : w.ownsRow base e size v n xs) (t : TypeId) (cs : Array Value) : Blk (w.alloc (.cells cs t)) w.heap.size t cs := Blk.new _ _ _
theorem refC_size {r : RefL} (h : RefOk r) : (refC r).toArray.size = 1 * 33 := by rw [List.size_toArray, refC_len h]
theorem refC_all (r : RefL) : ∀ u ∈ (refC r).toArray.toList, u.oneCell' = true := by rw [List.toList_toArray]; exact refC_one r
theorem own_ref_more {w : World} {base : Nat} {v : Value} {o : List RefL} {r : RefL} (h : w.ownsRow base 54 33 v (o.length + 1) (rowsOf refC o ++ (refC r).toArray.toList)) : OwnRefs w base v (o ++ [r]) := by
  unfold OwnRefs
  rw [rowsOf_append, rowsOf_one, List.length_append]
  rwa [List.toList_toArray] at h
theorem refsOk_one {o : List RefL} (h : RefsOk o) {r : RefL} (hr : RefOk r) : RefsOk (o ++ [r]) := by
  intro y hy
  rw [List.mem_append] at hy
  rcases hy with h1 | h1
  · exact h y h1
  · simp at h1; subst h1; exact hr
set_option maxRecDepth 100000 in
set_option maxHeartbeats 4000000 in
theorem refSet_calls (l : List RefL) (hok : RefsOk l) (hbig : l.length ≤ 100000) (v : Value) (name id : List UInt8) (hid : id.length = 32) (hnm : name.length ≤ 9223372036854775807) (w : World) (hv : Refs w v l) :
    Calls Try.prog 26 #[v, .string (B name), .agg (u8s id)] w fun e w' => ∃ v', e = .returned v' ∧ OwnRefs w' w.heap.size v' (setL l name id) ∧ Below w.heap.size w w' := by
  have hb0 : Below w.heap.size w (w.alloc (.cells (u8s id) 37)) := (Below.refl _ _).alloc (Nat.le_refl _) _
  have hi0 : Blk (w.alloc (.cells (u8s id) 37)) w.heap.size 37 (u8s id) := Blk.new _ _ _
  have hn32 := sized32 hid
  have hzz := fun W => equalIn_zero id hid W
  have hlen := hv.len
  obtain ⟨A, cap, rfl, hcap1, hcap2, hat⟩ := hv
  have hrok : RefOk ⟨name, id⟩ := ⟨hid, hnm⟩
  have hrs := refC_size hrok
  have hra := refC_all ⟨name, id⟩
  have hneT : (54 : TypeId) ≠ 37 := by decide
  have hset : Hid (setL l name id = setGo name id (isNone id) l) := rfl
  have hisn : Hid (isNone id = decide (id = List.replicate 32 0)) := rfl
  generalize hz0 : decide (id = List.replicate 32 0) = z0 at *
  clear hz0
  go_enter Try.func26, Try.ntmps26
  go_wp2_with (first
    | ((with_reducible refine lit_load_id (.tmp 5) w.heap.size 0 id hid (range_blk hi0) ?_ ?_); rfl))
  go_loopw [7, 8, 9] (fun vo vd vi wr => ∃ (k : Nat) (o : List RefL) (d : Bool), vi = .int .i64 k ∧ k ≤ l.length ∧ vd = .bool d ∧ OwnRefs wr w.heap.size vo o ∧ RefsOk o ∧ o.length ≤ 2 * k ∧ Hid (o ++ setGo name id d (l.drop k) = setL l name id) ∧ Blk wr w.heap.size 37 (u8s id) ∧ Below w.heap.size w wr) (fun _ _ vi _ => l.length - (intOf vi).toNat)
  case atStart => exact ⟨0, [], z0, rfl, by omega, rfl, World.ownsRow_nil _ _ _ _, fun x hx => by simp at hx, by simp, by show _ = _; rw [hset.out, hisn.out]; rfl, hi0, hb0⟩
  case round =>
    clear hi0 hb0 hzz hset hisn
    obtain ⟨k, o, d, rfl, hk, rfl, hown, hoo, hol, hgo, hib, hbel⟩ := hrel
    have hsz := hbel.size
    by_cases hlt : k < l.length
    · have hki : (k : Int) < (l.length : Int) := by omega
      obtain ⟨gs, os, rfl, hgs, hcell⟩ := hat (by omega)
      obtain ⟨x, hx⟩ : ∃ x, l[k]? = some x := ⟨_, List.getElem?_eq_getElem hlt⟩
      have hxok : RefOk x := hok x (List.mem_of_getElem? hx)
      have hxc := hcell k x hx
      have hx0 := rangeAt_below hxc hgs hbel
      have c0 := range_name hx0
      have hxh := Lib.hid hx
      have hxs := refC_size hxok
      have hxa := refC_all x
      have hsx := sizedRef hxok
      have h1 : o.length + 1 ≤ 9223372036854775807 := by omega
      have h2 : (o.length + 1) * 48 ≤ 140737488355328 := by omega
      have hol1 : (o ++ [(⟨name, id⟩ : RefL)]).length = o.length + 1 := by simp
      have h3 : (o ++ [(⟨name, id⟩ : RefL)]).length + 1 ≤ 9223372036854775807 := by omega
      have h4 : ((o ++ [(⟨name, id⟩ : RefL)]).length + 1) * 48 ≤ 140737488355328 := by omega
      clear hx hcell hat hol1
      cases d
      · cases hp : Op.bytesLess x.name name
        · have ht : (Op.bytesLess name x.name || name == x.name) = true := by rw [leq_not_less, hp]; rfl
          have hph := Lib.hid hp
          clear hp
          cases hq : (x.name == name)
          · have hst : Hid (((o ++ [⟨name, id⟩]) ++ [x]) ++ setGo name id true (l.drop (k + 1)) = setL l name id) := by
              have := set_step hgo.out hxh.out [⟨name, id⟩, x] true (by rw [hph.out, hq]; rfl) (by rw [hph.out]; rfl)
              show _ = _
              rw [List.append_assoc o]
              exact this
            go_wp2_with (first
              | ((with_reducible refine lit_load_id (.tmp 5) w.heap.size 0 id hid (range_blk hib) ?_ ?_); rfl)
              | ((with_reducible refine lit_build_ref (.tmp 31) (.tmp 32) name id hid ?_ ?_ ?_); rfl; rfl)
              | ((with_reducible refine lit_slice_ref (.tmp 33) ⟨name, id⟩ hrok ?_ ?_); rfl
                 have hownA := World.ownsRow.alloc hown (.cells (refC ⟨name, id⟩).toArray 54)
                 have hibA := hib.alloc (.cells (refC ⟨name, id⟩).toArray 54)
                 have hnewA := new_of_own hown 54 (refC ⟨name, id⟩).toArray
                 have hbelA := hbel.alloc hbel.size (.cells (refC ⟨name, id⟩).toArray 54))
              | (at_builtin
                 (with_reducible refine lit_append (.tmp 30) (.tmp 34) 1 _ Try.refTy hownA hnewA (refC_size hrok) (refC_all _) h1 h2 w hbelA hbelA.size ?_ ?_ ?_); rfl; rfl
                 intro v1 w1 hown1' hbel1 hg1
                 have hib1 := hibA.grown hg1 (own_blk_ne hownA hibA hneT)
                 have hown1 := own_ref_more hown1'
                 have hx1 := rangeAt_below hxc hgs hbel1
                 have c1 := range_name hx1
                 clear hown1' hownA hnewA hbelA hibA hg1)
              | ((with_reducible refine lit_load_ref (.tmp 46) gs (os + k * 33) x hxok hx1 ?_ ?_); rfl)
              | ((with_reducible refine lit_slice_ref (.tmp 47) x hxok ?_ ?_); rfl
                 have hownB := World.ownsRow.alloc hown1 (.cells (refC x).toArray 54)
                 have hibB := Blk.alloc hib1 (.cells (refC x).toArray 54)
                 have hnewB := new_of_own hown1 54 (refC x).toArray
                 have hbelB := Below.alloc hbel1 hbel1.size (.cells (refC x).toArray 54))
              | (at_builtin
                 (with_reducible refine lit_append (.tmp 43) (.tmp 48) 1 _ Try.refTy hownB hnewB (refC_size hxok) (refC_all _) h3 h4 w hbelB hbelB.size ?_ ?_ ?_); rfl; rfl
                 intro v2 w2 hown2' hbel2 hg2
                 have hib2 := hibB.grown hg2 (own_blk_ne hownB hibB hneT)
                 have hown2 := own_ref_more hown2'
                 clear hown2' hownB hnewB hbelB hibB hg2))
            go_roundw
            case rel =>
              first
                | exact ⟨k + 1, _, true, by go_num, by omega, rfl, hown2, refsOk_one (refsOk_one hoo hrok) hxok, by simp; omega, hst, hib2, hbel2⟩
                | ((repeat apply Exists.intro); exact ⟨⟨k + 1, _, true, by go_num, by omega, rfl, hown2, refsOk_one (refsOk_one hoo hrok) hxok, by simp; omega, hst, hib2, hbel2⟩, rfl⟩)
            case measure => simp [intOf]; omega
          · have hst := Lib.hid (set_step hgo.out hxh.out [⟨name, id⟩] true (by rw [hph.out, hq]; rfl) (by rw [hph.out]; rfl))
            go_wp2_with (first
              | ((with_reducible refine lit_load_id (.tmp 5) w.heap.size 0 id hid (range_blk hib) ?_ ?_); rfl)
              | ((with_reducible refine lit_build_ref (.tmp 31) (.tmp 32) name id hid ?_ ?_ ?_); rfl; rfl)
              | ((with_reducible refine lit_slice_ref (.tmp 33) ⟨name, id⟩ hrok ?_ ?_); rfl
                 have hownA := World.ownsRow.alloc hown (.cells (refC ⟨name, id⟩).toArray 54)
                 have hibA := hib.alloc (.cells (refC ⟨name, id⟩).toArray 54)
                 have hnewA := new_of_own hown 54 (refC ⟨name, id⟩).toArray
                 have hbelA := hbel.alloc hbel.size (.cells (refC ⟨name, id⟩).toArray 54))
              | (at_builtin
                 (with_reducible refine lit_append (.tmp 30) (.tmp 34) 1 _ Try.refTy hownA hnewA (refC_size hrok) (refC_all _) h1 h2 w hbelA hbelA.size ?_ ?_ ?_); rfl; rfl
                 intro v1 w1 hown1' hbel1 hg1
                 have hib1 := hibA.grown hg1 (own_blk_ne hownA hibA hneT)
                 have hown1 := own_ref_more hown1'
                 have hx1 := rangeAt_below hxc hgs hbel1
                 have c1 := range_name hx1
                 clear hown1' hownA hnewA hbelA hibA hg1))
            go_roundw
            case rel =>
              first
                | exact ⟨k + 1, _, true, by go_num, by omega, rfl, hown1, refsOk_one hoo hrok, by simp; omega, hst, hib1, hbel1⟩
                | ((repeat apply Exists.intro); exact ⟨⟨k + 1, _, true, by go_num, by omega, rfl, hown1, refsOk_one hoo hrok, by simp; omega, hst, hib1, hbel1⟩, rfl⟩)
            case measure => simp [intOf]; omega
        · have ht : (Op.bytesLess name x.name || name == x.name) = false := by rw [leq_not_less, hp]; rfl
          have hq : (x.name == name) = false := by
            rw [beq_eq_false_iff_ne]
            intro he
            rw [he, less_irrefl] at hp
            cases hp
          have hst := Lib.hid (set_step hgo.out hxh.out [x] false (by rw [hp, hq]; rfl) (by rw [hp]; rfl))
          clear hp
          go_wp2_with (first
            | ((with_reducible refine lit_load_ref (.tmp 46) gs (os + k * 33) x hxok hx0 ?_ ?_); rfl)
            | ((with_reducible refine lit_slice_ref (.tmp 47) x hxok ?_ ?_); rfl
               have hownB := World.ownsRow.alloc hown (.cells (refC x).toArray 54)
               have hibB := Blk.alloc hib (.cells (refC x).toArray 54)
               have hnewB := new_of_own hown 54 (refC x).toArray
               have hbelB := Below.alloc hbel hbel.size (.cells (refC x).toArray 54))
            | (at_builtin
               (with_reducible refine lit_append (.tmp 43) (.tmp 48) 1 _ Try.refTy hownB hnewB (refC_size hxok) (refC_all _) h1 h2 w hbelB hbelB.size ?_ ?_ ?_); rfl; rfl
               intro v2 w2 hown2' hbel2 hg2
               have hib2 := hibB.grown hg2 (own_blk_ne hownB hibB hneT)
               have hown2 := own_ref_more hown2'
               clear hown2' hownB hnewB hbelB hibB hg2))
          go_roundw
          case rel =>
            first
              | exact ⟨k + 1, _, false, by go_num, by omega, rfl, hown2, refsOk_one hoo hxok, by simp; omega, hst, hib2, hbel2⟩
              | ((repeat apply Exists.intro); exact ⟨⟨k + 1, _, false, by go_num, by omega, rfl, hown2, refsOk_one hoo hxok, by simp; omega, hst, hib2, hbel2⟩, rfl⟩)
          case measure => simp [intOf]; omega
      · cases hq : (x.name == name)
        · have hst := Lib.hid (set_step hgo.out hxh.out [x] true (by rw [hq]; rfl) rfl)
          go_wp2_with (first
            | ((with_reducible refine lit_load_ref (.tmp 46) gs (os + k * 33) x hxok hx0 ?_ ?_); rfl)
            | ((with_reducible refine lit_slice_ref (.tmp 47) x hxok ?_ ?_); rfl
               have hownB := World.ownsRow.alloc hown (.cells (refC x).toArray 54)
               have hibB := Blk.alloc hib (.cells (refC x).toArray 54)
               have hnewB := new_of_own hown 54 (refC x).toArray
               have hbelB := Below.alloc hbel hbel.size (.cells (refC x).toArray 54))
            | (at_builtin
               (with_reducible refine lit_append (.tmp 43) (.tmp 48) 1 _ Try.refTy hownB hnewB (refC_size hxok) (refC_all _) h1 h2 w hbelB hbelB.size ?_ ?_ ?_); rfl; rfl
               intro v2 w2 hown2' hbel2 hg2
               have hib2 := hibB.grown hg2 (own_blk_ne hownB hibB hneT)
               have hown2 := own_ref_more hown2'
               clear hown2' hownB hnewB hbelB hibB hg2))
          go_roundw
          case rel =>
            first
              | exact ⟨k + 1, _, true, by go_num, by omega, rfl, hown2, refsOk_one hoo hxok, by simp; omega, hst, hib2, hbel2⟩
              | ((repeat apply Exists.intro); exact ⟨⟨k + 1, _, true, by go_num, by omega, rfl, hown2, refsOk_one hoo hxok, by simp; omega, hst, hib2, hbel2⟩, rfl⟩)
          case measure => simp [intOf]; omega
        · have hst : Hid (o ++ setGo name id true (l.drop (k + 1)) = setL l name id) := by
            have := set_step hgo.out hxh.out [] true (by rw [hq]; rfl) rfl
            rw [List.append_nil] at this
            exact this
          go_wp2
          go_roundw
          case rel =>
            first
              | exact ⟨k + 1, o, true, by go_num, by omega, rfl, hown, hoo, by omega, hst, hib, hbel⟩
              | ((repeat apply Exists.intro); exact ⟨⟨k + 1, o, true, by go_num, by omega, rfl, hown, hoo, by omega, hst, hib, hbel⟩, rfl⟩)
          case measure => simp [intOf]; omega
    · have hki : ¬ (k : Int) < (l.length : Int) := by omega
      have hfin := Lib.hid (set_end hgo.out (by omega))
      have h1 : o.length + 1 ≤ 9223372036854775807 := by omega
      have h2 : (o.length + 1) * 48 ≤ 140737488355328 := by omega
      clear hat hgo
      cases d
      · go_wp2_with (first
          | ((with_reducible refine lit_load_id (.tmp 5) w.heap.size 0 id hid (range_blk hib) ?_ ?_); rfl)
          | ((with_reducible refine lit_build_ref (.tmp 53) (.tmp 54) name id hid ?_ ?_ ?_); rfl; rfl)
          | ((with_reducible refine lit_slice_ref (.tmp 55) ⟨name, id⟩ hrok ?_ ?_); rfl
             have hownA := World.ownsRow.alloc hown (.cells (refC ⟨name, id⟩).toArray 54)
             have hibA := hib.alloc (.cells (refC ⟨name, id⟩).toArray 54)
             have hnewA := new_of_own hown 54 (refC ⟨name, id⟩).toArray
             have hbelA := hbel.alloc hbel.size (.cells (refC ⟨name, id⟩).toArray 54))
          | (at_builtin
             (with_reducible refine lit_append (.tmp 52) (.tmp 56) 1 _ Try.refTy hownA hnewA (refC_size hrok) (refC_all _) h1 h2 w hbelA hbelA.size ?_ ?_ ?_); rfl; rfl
             intro v1 w1 hown1' hbel1 hg1
             have hib1 := hibA.grown hg1 (own_blk_ne hownA hibA hneT)
             have hown1 := own_ref_more hown1'
             clear hown1' hownA hnewA hbelA hibA hg1))
        go_ret
        have hf : o ++ [⟨name, id⟩] = setL l name id := hfin.out
        rw [hf] at hown1
        exact ⟨_, rfl, hown1, hbel1⟩
      · go_wp2
        go_ret
        have hf : o ++ [] = setL l name id := hfin.out
        rw [List.append_nil] at hf
        rw [hf] at hown
        exact ⟨_, rfl, hown, hbel⟩
end Go.Proofs.Ytlpiefopegjgjaa
