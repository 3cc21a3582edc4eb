/- The walk of layer 9 (ref): Update. No condition. -/
import Derived.Test.YtlpiefopegjgjaaRefV
import Derived.Test.YtlpiefopegjgjaaNums
import Derived.Test.YtlpiefopegjgjaaRefF
namespace Go.Proofs.Ytlpiefopegjgjaa
open Go.RowKit
theorem Try.errTy : SliceTy Try.prog 27 28 (.int .i64 0) 1 8 := ⟨Try.underlying27, info_parts (by kernel_rfl), rfl, by omega⟩
def anyBad (l : List Nat) : Bool := l.any (fun n => decide (n ≠ 0))
def resU (l : List RefL) (u : List UpdL) (all : Bool) : List RefL := if all && anyBad (runP l u u.length).2 then l else (runP l u u.length).1
def toldU (l : List RefL) (u : List UpdL) (all : Bool) : List Nat := if all && anyBad (runP l u u.length).2 then (runP l u u.length).2.map markN else (runP l u u.length).2
set_option maxRecDepth 100000 in
set_option maxHeartbeats 4000000 in
theorem update_calls (l : List RefL) (hok : RefsOk l) (hbig : l.length ≤ 1000) (vl : Value) (u : List UpdL) (huok : UpdsOk u) (hub : u.length ≤ 1000) (vu : Value) (all : Bool) (w : World) (hl : Refs w vl l) (hu : Upds w vu u) :
    Calls Try.prog 10 #[vl, vu, .bool all] w fun e w' => ∃ v1 v2, e = .returned (.tuple #[v1, v2, .int .i64 (if fineL l then 0 else 1)]) ∧ OwnRefs w' w.heap.size v1 (if fineL l then resU l u all else []) ∧
      OwnNs w' w.heap.size 28 v2 (if fineL l then toldU l u all else []) ∧ Below w.heap.size w w' := by
  have hf0 := Lib.hid (fine_calls l hok vl w hl)
  have hclone := fun W (hb : Below w.heap.size w W) => Lib.hid (clone_calls l hok (by omega) vl W (hl.below hb))
  have hu0 := hu
  have hlen := hu.len
  obtain ⟨A, cap, rfl, hcap1, hcap2, hat⟩ := hu
  cases hfl : fineL l
  · rw [hfl] at hf0
    clear hclone hu0 hat hfl
    go_enter Try.func10, Try.ntmps10
    go_wp2_with (first
      | (go_at_call 14; go_must (refine hf0.out.mono ?_); rintro e w1 ⟨rfl, hb1⟩))
    go_ret3
    exact ⟨.slice none 0 0, .slice none 0 0, rfl, World.ownsRow_nil _ _ _ _, World.ownsRow_nil _ _ _ _, hb1⟩
  · rw [hfl] at hf0
    clear hfl
    have hru : Hid (∀ b, resU l u b = if b && anyBad (runP l u u.length).2 then l else (runP l u u.length).1) := fun _ => rfl
    have htu : Hid (∀ b, toldU l u b = if b && anyBad (runP l u u.length).2 then (runP l u u.length).2.map markN else (runP l u u.length).2) := fun _ => rfl
    go_enter Try.func10, Try.ntmps10
    go_wp2_with (first
      | (go_at_call 14; go_must (refine hf0.out.mono ?_); rintro e w1 ⟨rfl, hb1⟩)
      | (go_at_call 23; go_must (refine (hclone _ hb1).out.mono ?_); rintro e w2 ⟨v2, rfl, ho2', hb2'⟩
         have ho2 := own_mono ho2' hb1.size
         have hb2 := bthen hb1 hb1.size hb2'
         clear ho2' hb2'))
    clear hf0 hb1
    go_loopw [9, 10, 11, 24] (fun vo vt vb vi wr => ∃ k : Nat, vi = .int .i64 k ∧ k ≤ u.length ∧ vb = .bool (anyBad (runP l u k).2) ∧ OwnRefs wr w.heap.size vo (runP l u k).1 ∧ OwnNs wr w.heap.size 28 vt (runP l u k).2 ∧ Below w.heap.size w wr) (fun _ _ _ vi _ => u.length - (intOf vi).toNat)
    case atStart => exact ⟨0, rfl, by omega, rfl, ho2, World.ownsRow_nil _ _ _ _, hb2⟩
    case round =>
      clear ho2 hb2
      obtain ⟨k, rfl, hk, rfl, hor, hot, hbel⟩ := hrel
      have hrok := runP_ok hok huok k
      have hrle := runP_le l u k
      have htl := runP_told (l := l) hk
      by_cases hlt : k < u.length
      · clear hru htu
        have hki : (k : Int) < (u.length : Int) := by omega
        obtain ⟨gs, os, rfl, hgs, hcell⟩ := hat (by omega)
        obtain ⟨x, hx⟩ : ∃ x, u[k]? = some x := ⟨_, List.getElem?_eq_getElem hlt⟩
        have hst := Lib.hid (runP_step (l := l) hx)
        have huk : (u.take (k + 1)).length = k + 1 := by simp; omega
        have hxk : (u.take (k + 1))[k]? = some x := by simp [List.getElem?_take, hx]
        have htt : (u.take (k + 1)).take k = u.take k := by rw [List.take_take, Nat.min_eq_left (by omega)]
        have hone := Lib.hid (one_calls (runP l u k).1 hrok (by omega) _ (u.take (k + 1)) (fun y hy => huok y (List.mem_of_mem_take hy)) k huk x hxk (.slice (some ⟨gs, os, none⟩) (k + 1) cap) wr w.heap.size hbel.size hor ((hu0.below hbel).take (by omega)))
        rw [htt] at hone
        obtain ⟨k1, hk1w, hk1⟩ : ∃ k1 : Nat, IntKind.i64.wrap ((k : Int) + 1) = (k1 : Int) ∧ k1 = k + 1 := ⟨k + 1, by rw [IntWalk.i64_in _ (by omega)]; omega, rfl⟩
        rw [← hk1] at hone
        have hk1c : (k1 : Int) ≤ (cap : Int) := by omega
        have hk1k := Lib.hid hk1
        clear htt huk hxk hx hcell hat hk1
        generalize codeP (runP l u k).1 (u.take k) x = c at *
        generalize nextP (runP l u k).1 (u.take k) x = nx at *
        have hnb : Hid (∀ m, anyBad (m ++ [c]) = (anyBad m || decide (c ≠ 0))) := fun m => by simp [anyBad]
        have hone1 : ∀ u ∈ (#[.int .i64 c] : Array Value).toList, u.oneCell' = true := by
          intro u hu; simp at hu; subst hu; rfl
        generalize runP l u k = rp at *
        have hsz := hbel.size
        have hne28 : (28 : TypeId) ≠ 54 := by decide
        cases hbd' : anyBad rp.2
        · have hbd := Lib.hid hbd'
          clear hbd'
          by_cases hc0 : c = 0
          · have hch := Lib.hid hc0
            clear hc0
            go_wp2_with (first
              | (go_at_call 24; go_must (refine hone.out.mono ?_); rintro e w3 ⟨v3, rfl, ho3, hb3⟩
                 have hbel3 := bthen hbel hsz hb3
                 have hot4 := World.ownsRow.alloc (own_below hot hb3) (.cells #[.int .i64 c] 28)
                 have ho4 := World.ownsRow.alloc ho3 (.cells #[.int .i64 c] 28)
                 have hnew := Blk.new w3 28 #[.int .i64 c]
                 have hbel4 := hbel3.alloc hbel3.size (.cells #[.int .i64 c] 28)
                 clear hot hb3 ho3 hbel3 hone)
              | (at_builtin
                 refine wpList_append_blk rfl (.tmp 37) (.tmp 39) _ rfl 28 _ 1 8 Try.errTy w.heap.size _ rp.2.length (rowsOf natC rp.2) rfl hot4 w3.heap.size 1 1 28 _ rfl hnew rfl hone1 (by omega) (by omega) w hbel4 hbel4.size ?_
                 intro v5 w5 hot5 hbel5 hg5
                 have ho5 := World.ownsRow.kept ho4 hg5 (own_own_ne ho4 hot4 hne28)
                 have hci : (c : Int) = 0 := by rw [hch.out]; rfl
                 clear hot4 ho4 hnew hbel4 hg5))
            have hot6 : OwnNs w5 w.heap.size 28 v5 (runP l u (k + 1)).2 := by
              rw [hst.out]
              show World.ownsRow _ _ _ _ _ (rp.2 ++ [c]).length (rowsOf natC (rp.2 ++ [c]))
              rw [rowsOf_append, List.length_append]
              exact hot5
            have ho6 : OwnRefs w5 w.heap.size v3 (runP l u (k + 1)).1 := by
              rw [hst.out]
              exact ho5
            have hb6 : anyBad (runP l u (k + 1)).2 = false := by
              rw [hst.out]
              show anyBad (rp.2 ++ [c]) = _
              rw [hnb.out, hbd.out]
              simp [hch.out]
            clear hot5 ho5
            go_roundw
            case rel =>
              have hk1' := hk1k.out
              exact ⟨k + 1, by go_num, by omega, by rw [hb6]; try (simp; exact hch.out), ho6, hot6, hbel5⟩
            case measure =>
              have hk1' := hk1k.out
              simp [intOf]; omega
          · have hch := Lib.hid hc0
            have hci : ¬ (c : Int) = 0 := by omega
            clear hc0
            go_wp2_with (first
              | (go_at_call 24; go_must (refine hone.out.mono ?_); rintro e w3 ⟨v3, rfl, ho3, hb3⟩
                 have hbel3 := bthen hbel hsz hb3
                 have hot4 := World.ownsRow.alloc (own_below hot hb3) (.cells #[.int .i64 c] 28)
                 have ho4 := World.ownsRow.alloc ho3 (.cells #[.int .i64 c] 28)
                 have hnew := Blk.new w3 28 #[.int .i64 c]
                 have hbel4 := hbel3.alloc hbel3.size (.cells #[.int .i64 c] 28)
                 clear hot hb3 ho3 hbel3 hone)
              | (at_builtin
                 refine wpList_append_blk rfl (.tmp 37) (.tmp 39) _ rfl 28 _ 1 8 Try.errTy w.heap.size _ rp.2.length (rowsOf natC rp.2) rfl hot4 w3.heap.size 1 1 28 _ rfl hnew rfl hone1 (by omega) (by omega) w hbel4 hbel4.size ?_
                 intro v5 w5 hot5 hbel5 hg5
                 have ho5 := World.ownsRow.kept ho4 hg5 (own_own_ne ho4 hot4 hne28)
                 skip
                 clear hot4 ho4 hnew hbel4 hg5))
            have hot6 : OwnNs w5 w.heap.size 28 v5 (runP l u (k + 1)).2 := by
              rw [hst.out]
              show World.ownsRow _ _ _ _ _ (rp.2 ++ [c]).length (rowsOf natC (rp.2 ++ [c]))
              rw [rowsOf_append, List.length_append]
              exact hot5
            have ho6 : OwnRefs w5 w.heap.size v3 (runP l u (k + 1)).1 := by
              rw [hst.out]
              exact ho5
            have hb6 : anyBad (runP l u (k + 1)).2 = true := by
              rw [hst.out]
              show anyBad (rp.2 ++ [c]) = _
              rw [hnb.out, hbd.out]
              simp [hch.out]
            clear hot5 ho5
            go_roundw
            case rel =>
              have hk1' := hk1k.out
              exact ⟨k + 1, by go_num, by omega, by rw [hb6]; try (simp; exact hch.out), ho6, hot6, hbel5⟩
            case measure =>
              have hk1' := hk1k.out
              simp [intOf]; omega
        · have hbd := Lib.hid hbd'
          clear hbd'
          have hch : Hid True := trivial
          go_wp2_with (first
            | (go_at_call 24; go_must (refine hone.out.mono ?_); rintro e w3 ⟨v3, rfl, ho3, hb3⟩
               have hbel3 := bthen hbel hsz hb3
               have hot4 := World.ownsRow.alloc (own_below hot hb3) (.cells #[.int .i64 c] 28)
               have ho4 := World.ownsRow.alloc ho3 (.cells #[.int .i64 c] 28)
               have hnew := Blk.new w3 28 #[.int .i64 c]
               have hbel4 := hbel3.alloc hbel3.size (.cells #[.int .i64 c] 28)
               clear hot hb3 ho3 hbel3 hone)
            | (at_builtin
               refine wpList_append_blk rfl (.tmp 37) (.tmp 39) _ rfl 28 _ 1 8 Try.errTy w.heap.size _ rp.2.length (rowsOf natC rp.2) rfl hot4 w3.heap.size 1 1 28 _ rfl hnew rfl hone1 (by omega) (by omega) w hbel4 hbel4.size ?_
               intro v5 w5 hot5 hbel5 hg5
               have ho5 := World.ownsRow.kept ho4 hg5 (own_own_ne ho4 hot4 hne28)
               skip
               clear hot4 ho4 hnew hbel4 hg5))
          have hot6 : OwnNs w5 w.heap.size 28 v5 (runP l u (k + 1)).2 := by
            rw [hst.out]
            show World.ownsRow _ _ _ _ _ (rp.2 ++ [c]).length (rowsOf natC (rp.2 ++ [c]))
            rw [rowsOf_append, List.length_append]
            exact hot5
          have ho6 : OwnRefs w5 w.heap.size v3 (runP l u (k + 1)).1 := by
            rw [hst.out]
            exact ho5
          have hb6 : anyBad (runP l u (k + 1)).2 = true := by
            rw [hst.out]
            show anyBad (rp.2 ++ [c]) = _
            rw [hnb.out, hbd.out]
            simp [hch.out]
          clear hot5 ho5
          go_roundw
          case rel =>
            have hk1' := hk1k.out
            exact ⟨k + 1, by go_num, by omega, by rw [hb6]; try (simp; exact hch.out), ho6, hot6, hbel5⟩
          case measure =>
            have hk1' := hk1k.out
            simp [intOf]; omega
      · have hki : ¬ (k : Int) < (u.length : Int) := by omega
        obtain rfl : k = u.length := by omega
        clear hat hu0
        generalize runP l u u.length = rp at *
        cases all
        · have hr1 : Hid (resU l u false = rp.1) := hru.out false
          have ht1 : Hid (toldU l u false = rp.2) := htu.out false
          clear hru htu
          generalize anyBad rp.2 = bb at *
          go_wp2
          go_ret3
          rw [← hr1.out] at hor
          rw [← ht1.out] at hot
          exact ⟨_, _, rfl, hor, hot, hbel⟩
        · cases hbd : anyBad rp.2
          · have hr1 : Hid (resU l u true = rp.1) := by show _ = _; rw [hru.out true, hbd]; rfl
            have ht1 : Hid (toldU l u true = rp.2) := by show _ = _; rw [htu.out true, hbd]; rfl
            clear hru htu hbd
            go_wp2
            go_ret3
            rw [← hr1.out] at hor
            rw [← ht1.out] at hot
            exact ⟨_, _, rfl, hor, hot, hbel⟩
          · have hr1 : Hid (resU l u true = l) := by show _ = _; rw [hru.out true, hbd]; rfl
            have ht1 : Hid (toldU l u true = rp.2.map markN) := by show _ = _; rw [htu.out true, hbd]; rfl
            clear hru htu hor
            rcases Row.of_own (natK _) hot with ⟨_, h0⟩ | ⟨g, capT, rfl, hg, hrow⟩
            · rw [h0] at hbd; simp [anyBad] at hbd
            clear hot hbd
            have h63 : rp.2.length ≤ 1000 := by omega
            clear htl hrle hrok
            go_wp2
            go_loopw [53] (fun i wr => ∃ j : Nat, i = .int .i64 j ∧ j ≤ rp.2.length ∧ Row wr g 28 1 natC capT (mixN rp.2 j) ∧ Below w.heap.size w wr) (fun i _ => rp.2.length - (intOf i).toNat)
            case atStart => exact ⟨0, rfl, by omega, by rw [mixN_zero]; exact hrow, hbel⟩
            case round =>
              clear hrow hbel
              obtain ⟨j, rfl, hj, hrow, hbel⟩ := hrel
              by_cases hjl : j < rp.2.length
              · have hji : (j : Int) < (rp.2.length : Int) := by omega
                obtain ⟨x, hx⟩ : ∃ x, rp.2[j]? = some x := ⟨_, List.getElem?_eq_getElem hjl⟩
                have c0 := Row.nat_at hrow (mixN_at hx)
                have hxh := Lib.hid hx
                clear hx
                by_cases hx0 : x = 0
                · subst hx0
                  have c0 : wr.cell? ⟨g, j, none⟩ = some (.int .i64 0) := c0
                  have hfr := Row.frozen hrow j
                  go_wp2
                  have hrow2 := Row.setNat hrow (i := j) (by rw [mixN_length]; exact hjl) 12
                  rw [mixN_step hxh.out 12 rfl] at hrow2
                  have hbel2 := hbel.setCell (p := ⟨g, j, none⟩) hg (.int .i64 12)
                  clear c0 hfr hrow hbel
                  go_roundw
                  case rel => exact ⟨j + 1, by go_num, by omega, hrow2, hbel2⟩
                  case measure => simp [intOf]; omega
                · have hxi : ¬ (x : Int) = 0 := by omega
                  go_wp2
                  rw [mixN_skip hxh.out hx0] at hrow
                  go_roundw
                  case rel => exact ⟨j + 1, by go_num, by omega, hrow, hbel⟩
                  case measure => simp [intOf]; omega
              · have hji : ¬ (j : Int) < (rp.2.length : Int) := by omega
                obtain rfl : j = rp.2.length := by omega
                have hown := hrow.own (natK _) hg
                rw [mixN_all, List.length_map] at hown
                clear hrow
                go_wp2_with (first
                  | (go_at_call 23; go_must (refine (hclone _ hbel).out.mono ?_); rintro e w7 ⟨v7, rfl, ho7, hb7⟩))
                go_ret3
                have ho8 := own_mono ho7 hbel.size
                have hown8 : OwnNs w7 w.heap.size 28 (.slice (some ⟨g, 0, none⟩) rp.2.length capT) (rp.2.map markN) := by
                  unfold OwnNs
                  rw [List.length_map]
                  exact own_below hown hb7
                rw [← hr1.out] at ho8
                rw [← ht1.out] at hown8
                exact ⟨_, _, rfl, ho8, hown8, bthen hbel hbel.size hb7⟩
end Go.Proofs.Ytlpiefopegjgjaa
