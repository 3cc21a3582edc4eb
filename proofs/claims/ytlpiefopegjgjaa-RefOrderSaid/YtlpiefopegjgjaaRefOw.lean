/- The walk of layer 9's statement RefOrder. No condition. -/
import Derived.Test.YtlpiefopegjgjaaRefUp
import Derived.Test.YtlpiefopegjgjaaRefOP
namespace Go.Proofs.Ytlpiefopegjgjaa
open Go.RowKit
theorem Try.updTy : SliceTy Try.prog 23 39 (.agg (updC ⟨[], List.replicate 32 0, List.replicate 32 0⟩).toArray) 65 80 := ⟨Try.underlying23, info_parts (by kernel_rfl), rfl, by omega⟩
abbrev OwnUpds (w : World) (base : Nat) (v : Value) (l : List UpdL) : Prop := w.ownsRow base 39 65 v l.length (rowsOf updC l)
theorem updK {l : List UpdL} (h : UpdsOk l) : ∀ x ∈ l, (updC x).length = 65 := fun x hx => updC_len (h x hx)
theorem updC_size {r : UpdL} (h : UpdOk r) : (updC r).toArray.size = 1 * 65 := by rw [List.size_toArray, updC_len h]
theorem updC_all (r : UpdL) : ∀ u ∈ (updC r).toArray.toList, u.oneCell' = true := by rw [List.toList_toArray]; exact updC_one r
theorem own_upd_more {w : World} {base : Nat} {v : Value} {o : List UpdL} {r : UpdL} (h : w.ownsRow base 39 65 v (o.length + 1) (rowsOf updC o ++ (updC r).toArray.toList)) : OwnUpds w base v (o ++ [r]) := by
  unfold OwnUpds
  rw [rowsOf_append, rowsOf_one, List.length_append]
  rwa [List.toList_toArray] at h
theorem cnt_more {l : List Nat} {k x : Nat} (hx : l[k]? = some x) : cntBad (l.take (k + 1)) = cntBad (l.take k) + (if x = 0 then 0 else 1) := by
  rw [List.take_add_one, hx]
  unfold cntBad
  rw [List.filter_append, List.length_append]
  congr 1
  by_cases h : x = 0 <;> simp [h]
theorem updsOk_rev {u : List UpdL} (h : UpdsOk u) : UpdsOk u.reverse := fun x hx => h x (by simpa using hx)
set_option maxRecDepth 100000 in
set_option maxHeartbeats 4000000 in
theorem refOrder_calls (l : List RefL) (hok : RefsOk l) (vl : Value) (u : List UpdL) (huok : UpdsOk u) (vu : Value) (w : World) (hl : Refs w vl l) (hu : Upds w vu u) :
    Calls Try.prog 4 #[vl, vu] w fun e w' => e = .returned (.bool true) ∧ Below w.heap.size w w' := by
  have hl0 := hl
  have hu0 := hu
  obtain ⟨LA, lcap, rfl, hlc1, hlc2, hlat⟩ := hl
  obtain ⟨UA, ucap, rfl, huc1, huc2, huat⟩ := hu
  clear hlat
  go_enter Try.func4, Try.ntmps4
  go_wp2_with (fail)
  go_at_call 7
  refine (few_calls l _ w hl0).mono ?_
  rintro e w1 ⟨⟨b1, rfl, hf1⟩, rfl⟩
  go_wp2_with (fail)
  go_at_call 8
  refine (short_calls u _ w hu0).mono ?_
  rintro e w2 ⟨⟨b2, rfl, hf2⟩, rfl⟩
  cases b1
  · clear hf1 hf2 huat
    go_wp2_with (first
      | (go_at_call 9; go_must (refine (knows_calls _).mono ?_); rintro e w3 ⟨rfl, hb3⟩))
    go_ret
    exact ⟨rfl, hb3⟩
  cases b2
  · clear hf1 hf2 huat
    go_wp2_with (first
      | (go_at_call 9; go_must (refine (knows_calls _).mono ?_); rintro e w3 ⟨rfl, hb3⟩))
    go_ret
    exact ⟨rfl, hb3⟩
  have h70 : l.length ≤ 70 := hf1 rfl
  have h30 : u.length ≤ 30 := hf2 rfl
  clear hf1 hf2
  have hknow := fun W => Lib.hid (knows_calls W)
  by_cases h64 : l.length + u.length ≤ 64
  · have h64i : ¬ (64 : Int) < (l.length : Int) + (u.length : Int) := by omega
    have hupd := update_calls l hok (by omega) _ u huok (by omega) _ true w hl0 hu0
    have hfin := fun W (hb : Below w.heap.size w W) => Lib.hid (fine_calls l hok _ W (hl0.below hb))
    cases hfl : fineL l
    · rw [hfl] at hupd hfin
      have hupH : Hid (Calls Try.prog 10 #[.slice LA l.length lcap, .slice UA u.length ucap, .bool true] w fun e w' => ∃ v1 v2, e = .returned (.tuple #[v1, v2, .int .i64 1]) ∧ OwnRefs w' w.heap.size v1 [] ∧ OwnNs w' w.heap.size 28 v2 [] ∧ Below w.heap.size w w') := hupd
      clear hupd hfl huat hl0 hu0
      go_wp2_with (first
        | (go_at_call 10; go_must (refine hupH.out.mono ?_); rintro e w3 ⟨v1, v2, rfl, ho1, hn1, hb3⟩
           have hk3 := hknow w3
           clear hupH ho1 hn1)
        | (go_at_call 9; go_must (refine hk3.out.mono ?_); rintro e w4 ⟨rfl, hb4⟩
           have hb34 := bthen hb3 hb3.size hb4
           have hf4 := hfin w4 hb34
           clear hk3 hb4)
        | (go_at_call 14; go_must (refine hf4.out.mono ?_); rintro e w5 ⟨rfl, hb5⟩))
      go_ret
      exact ⟨rfl, bthen hb34 hb34.size hb5⟩
    · rw [hfl] at hupd
      have hupH : Hid (Calls Try.prog 10 #[.slice LA l.length lcap, .slice UA u.length ucap, .bool true] w fun e w' => ∃ v1 v2, e = .returned (.tuple #[v1, v2, .int .i64 0]) ∧ OwnRefs w' w.heap.size v1 (resU l u true) ∧ OwnNs w' w.heap.size 28 v2 (toldU l u true) ∧ Below w.heap.size w w') := hupd
      have hrok := resU_ok hok huok true
      have htl := toldU_length l u true
      have hcnt := cnt_told l u
      have hfR := fine_res hfl u true
      have hord : anyBad (runP l u u.length).2 = false → resU l u.reverse true = (runP l u u.length).1 := fun h => by
        obtain ⟨h1, h2⟩ := order_law (sorted_of_fine hfl) h h64
        unfold resU
        rw [h1, h2]
        rfl
      have hord := Lib.hid hord
      have hupd2 := fun W v (hb : Below w.heap.size w W) (hv : Upds W v u.reverse) => update_calls l hok (by omega) _ u.reverse (updsOk_rev huok) (by rw [List.length_reverse]; omega) v true W (hl0.below hb) hv
      rw [hfl] at hupd2
      have hupd2H : ∀ W v (hb : Below w.heap.size w W) (hv : Upds W v u.reverse), Hid (Calls Try.prog 10 #[.slice LA l.length lcap, v, .bool true] W fun e w' => ∃ v1 v2, e = .returned (.tuple #[v1, v2, .int .i64 0]) ∧ OwnRefs w' W.heap.size v1 (resU l u.reverse true) ∧ OwnNs w' W.heap.size 28 v2 (toldU l u.reverse true) ∧ Below W.heap.size W w') := hupd2
      clear hupd hupd2 hfin hfl
      generalize resU l u true = R at *
      generalize toldU l u true = T at *
      have hfm := fun W v (hv : Refs W v R) => Lib.hid (fine_calls R hrok v W hv)
      rw [hfR] at hfm
      clear hfR
      go_wp2_with (first
        | (go_at_call 10; go_must (refine hupH.out.mono ?_); rintro e w3 ⟨v1, v2, rfl, ho1, hn1, hb3⟩
           obtain ⟨A2, cap2, rfl, hc2⟩ := own_nats hn1
           clear hupH hn1))
      go_loop [10, 11] (fun vw vi => ∃ k : Nat, vi = .int .i64 k ∧ k ≤ T.length ∧ vw = .int .i64 (cntBad (T.take k) : Nat)) (fun _ vi => T.length - (intOf vi).toNat)
      case atStart => exact ⟨0, rfl, by omega, rfl⟩
      case round =>
        obtain ⟨k, rfl, hk, rfl⟩ := hrel
        by_cases hlt : k < T.length
        · have hki : (k : Int) < (T.length : Int) := by omega
          obtain ⟨g2, rfl, hg2, hat2⟩ := hc2 (by omega)
          obtain ⟨x, hx⟩ : ∃ x, T[k]? = some x := ⟨_, List.getElem?_eq_getElem hlt⟩
          have c2 := hat2 k x hx
          have hcm := Lib.hid (cnt_more hx)
          have hcl := cnt_le (T.take k)
          have hcl2 : (T.take k).length ≤ T.length := by rw [List.length_take]; omega
          clear hx hat2 hc2 hknow hupd2H hfm hcnt
          generalize cntBad (T.take k) = c at *
          by_cases hx0 : x = 0
          · subst hx0
            have c2 : w3.cell? ⟨g2, k, none⟩ = some (.int .i64 0) := c2
            go_wp2
            go_round
            case rel => exact ⟨k + 1, by go_num, by omega, by rw [hcm.out]; rfl⟩
            case measure => simp [intOf]; omega
          · have hxi : ¬ (x : Int) = 0 := by omega
            go_wp2
            go_round
            case rel => exact ⟨k + 1, by go_num, by omega, by rw [hcm.out, if_neg hx0]; go_num⟩
            case measure => simp [intOf]; omega
        · have hki : ¬ (k : Int) < (T.length : Int) := by omega
          obtain rfl : k = T.length := by omega
          clear hc2
          have hf3 := hfm w3 _ (OwnRefs.refs hrok ho1)
          rw [List.take_length]
          rcases hcnt with ⟨hbad, hcz, hR⟩ | ⟨hbad, hcz, hup, hR⟩
          · have hczi : ((cntBad T : Nat) : Int) = 0 := by omega
            have hordh : Hid (resU l u.reverse true = R) := by show _ = _; rw [hord.out hbad, hR]
            have hRh := Lib.hid hR
            have hwrap : IntKind.i64.wrap ((u.length : Int) - 1) = (u.length : Int) - 1 := by rw [IntKind.wrap_i64]; omega
            clear hR hbad hord hcz
            go_wp2_with (first
              | (go_at_call 14; go_must (refine hf3.out.mono ?_); rintro e w4 ⟨rfl, hb4⟩))
            go_loopw [13, 14] (fun vb vi wr => ∃ z : Int, vi = .int .i64 z ∧ -1 ≤ z ∧ z < u.length ∧ OwnUpds wr w3.heap.size vb (u.drop (z + 1).toNat).reverse ∧ Below w3.heap.size w3 wr) (fun _ vi _ => (intOf vi + 1).toNat)
            case atStart =>
              refine ⟨(u.length : Int) - 1, ?_, by omega, by omega, ?_, hb4⟩
              · first | rfl | go_num
              · rw [show ((u.length : Int) - 1 + 1).toNat = u.length from by omega, List.drop_length]
                exact World.ownsRow_nil _ _ _ _
            case round =>
              clear hb4 hf3
              obtain ⟨z, rfl, hz1, hz2, hown, hb4⟩ := hrel
              have hb34 := bthen hb3 hb3.size hb4
              by_cases hz0 : 0 ≤ z
              · obtain ⟨m, rfl⟩ := Int.eq_ofNat_of_zero_le hz0
                rw [show ((m : Int) + 1).toNat = m + 1 from by omega] at hown
                have hml : m < u.length := by omega
                obtain ⟨gs, os, rfl, hgs, hcell⟩ := huat (by omega)
                obtain ⟨x, hx⟩ : ∃ x, u[m]? = some x := ⟨_, List.getElem?_eq_getElem hml⟩
                have hxok : UpdOk x := huok x (List.mem_of_getElem? hx)
                have hx0 := rangeAt_below (hcell m x hx) hgs hb34
                have hst : Hid ((u.drop (m + 1)).reverse ++ [x] = (u.drop m).reverse) := by
                  show _ = _
                  rw [drop_cons' hx, List.reverse_cons]
                have hol : (u.drop (m + 1)).reverse.length ≤ 30 := by simp; omega
                have hwm : IntKind.i64.wrap ((m : Int) - 1) = (m : Int) - 1 := by rw [IntKind.wrap_i64]; omega
                clear hx hcell huat hknow hupd2H hfm
                generalize (u.drop (m + 1)).reverse = o at *
                have h1 : o.length + 1 ≤ 9223372036854775807 := by omega
                have h2 : (o.length + 1) * 80 ≤ 140737488355328 := by omega
                have hownA := World.ownsRow.alloc hown (.cells (updC x).toArray 39)
                have hnewA := new_of_own hown 39 (updC x).toArray
                have hbelA := hb4.alloc hb4.size (.cells (updC x).toArray 39)
                clear hb34 hb4 hown
                go_wp2_with (first
                  | ((with_reducible refine lit_load_upd (.tmp 105) gs (os + m * 65) x hxok hx0 ?_ ?_); rfl)
                  | ((with_reducible refine lit_slice_upd (.tmp 106) x hxok ?_ ?_); rfl)
                  | (at_builtin
                     (with_reducible refine lit_append (.tmp 102) (.tmp 107) 1 _ Try.updTy hownA hnewA (updC_size hxok) (updC_all _) h1 h2 w3 hbelA hbelA.size ?_ ?_ ?_); rfl; rfl
                     intro v5 w5 hown5 hbel5 hg5
                     clear hownA hnewA hbelA hg5))
                go_roundw
                case rel =>
                  have hown6 := own_upd_more hown5
                  rw [hst.out] at hown6
                  exact ⟨(m : Int) - 1, by first | rfl | go_num, by omega, by omega, by rw [show ((m : Int) - 1 + 1).toNat = m from by omega]; exact hown6, hbel5⟩
                case measure => first | (simp [intOf]; done) | (simp [intOf]; omega)
              · obtain rfl : z = -1 := by omega
                have hu2 := hupd2H wr _ hb34 (SliceAt.of_own (updK (updsOk_rev huok)) hown)
                have ho4 := own_below ho1 hb4
                have hsm := fun W va vb (ha : Refs W va R) (hb : Refs W vb R) => Lib.hid (same_calls R R hrok hrok va vb W ha hb)
                rw [show decide (R = R) = true from decide_eq_true rfl] at hsm
                obtain ⟨UB, ubc, hUB⟩ := own_form' hown
                rw [List.length_reverse] at hUB
                clear hupd2H hfm huat ho1 hb4 hown
                subst hUB
                go_wp2_with (first
                  | (go_at_call 10; go_must (refine hu2.out.mono ?_); rintro e w6 ⟨v5, v6, rfl, ho6, hn6, hb6⟩
                     rw [hordh.out] at ho6
                     have hs6 := hsm w6 _ _ (OwnRefs.refs hrok (own_below ho4 hb6)) (OwnRefs.refs hrok ho6)
                     have hb36 := bthen hb34 hb34.size hb6
                     clear hu2 ho4 ho6 hn6 hb6 hsm hb34)
                  | (go_at_call 13; go_must (refine hs6.out.mono ?_); rintro e w7 ⟨rfl, hb7⟩
                     have hb37 := bthen hb36 hb36.size hb7
                     have hk7 := hknow w7
                     clear hs6 hb7 hb36)
                  | (go_at_call 9; go_must (refine hk7.out.mono ?_); rintro e w8 ⟨rfl, hb8⟩))
                go_ret
                exact ⟨rfl, bthen hb37 hb37.size hb8⟩
          · have hczi : ((cntBad T : Nat) : Int) = (u.length : Int) := by omega
            have hupi : (0 : Int) < (u.length : Int) := by omega
            have hupz : ¬ (u.length : Int) = 0 := by omega
            have hsm := fun W va vb (ha : Refs W va R) (hb : Refs W vb l) => Lib.hid (same_calls R l hrok hok va vb W ha hb)
            rw [decide_eq_true hR] at hsm
            clear hR hbad hord hcz hupd2H huat hfm
            go_wp2_with (first
              | (go_at_call 14; go_must (refine hf3.out.mono ?_); rintro e w4 ⟨rfl, hb4⟩
                 have hb34 := bthen hb3 hb3.size hb4
                 have hs4 := hsm w4 _ _ (OwnRefs.refs hrok (own_below ho1 hb4)) (hl0.below hb34)
                 clear hf3 hsm hb4)
              | (go_at_call 13; go_must (refine hs4.out.mono ?_); rintro e w7 ⟨rfl, hb7⟩
                 have hb37 := bthen hb34 hb34.size hb7
                 have hk7 := hknow w7
                 clear hs4 hb7 hb34)
              | (go_at_call 9; go_must (refine hk7.out.mono ?_); rintro e w8 ⟨rfl, hb8⟩))
            go_ret
            exact ⟨rfl, bthen hb37 hb37.size hb8⟩
  · have h64i : (64 : Int) < (l.length : Int) + (u.length : Int) := by omega
    clear huat
    go_wp2_with (first
      | (go_at_call 9; go_must (refine (knows_calls _).mono ?_); rintro e w3 ⟨rfl, hb3⟩))
    go_ret
    exact ⟨rfl, hb3⟩
end Go.Proofs.Ytlpiefopegjgjaa
