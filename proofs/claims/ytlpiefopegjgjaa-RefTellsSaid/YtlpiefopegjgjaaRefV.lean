/- The walk of layer 9 (ref): one. No condition. -/
import Derived.Test.YtlpiefopegjgjaaRefS
import Derived.Test.YtlpiefopegjgjaaLit
namespace Go.Proofs.Ytlpiefopegjgjaa
open Go.RowKit
attribute [local go_sem ↓] ldvI_eq
theorem equalIn_ids (a b : List UInt8) (ha : a.length = 32) (hb : b.length = 32) (w : World) :
    (Op.equalIn 10000 37 (.agg (u8s a)) (.agg (u8s b))).run Try.prog w = .ok (decide (a = b)) w :=
  run_equalIn_bytes w 9998 Try.underlying37 (by kernel_rfl) Try.underlying5 (by kernel_rfl) (Option.isSome_iff_exists.1 (by kernel_rfl)) a b ha hb
set_option maxRecDepth 100000 in
set_option maxHeartbeats 4000000 in
theorem one_calls (l : List RefL) (hok : RefsOk l) (hbig : l.length ≤ 100000) (vl : Value) (u : List UpdL) (huok : UpdsOk u) (k : Nat) (hk : u.length = k + 1) (x : UpdL) (hx : u[k]? = some x) (vu : Value) (w : World)
    (base : Nat) (hbase : base ≤ w.heap.size) (hl : OwnRefs w base vl l) (hu : Upds w vu u) :
    Calls Try.prog 24 #[vl, vu] w fun e w' => ∃ v', e = .returned (.tuple #[v', .int .i64 (codeP l (u.take k) x : Nat)]) ∧ OwnRefs w' base v' (nextP l (u.take k) x) ∧ Below w.heap.size w w' := by
  obtain ⟨ZS, hzv, hzs⟩ := zeroUpd
  have hu0 := hu
  have hlen := hu.len
  have hxok : UpdOk x := huok x (List.mem_of_getElem? hx)
  have hright : ∀ W, Below w.heap.size w W → Hid (Calls Try.prog 36 #[vu] W fun e w' => e = .returned (.bool (rightOf (u.take k) x)) ∧ Below W.heap.size W w') := fun W hb => Lib.hid (right_calls u huok k hk x hx _ W (hu0.below hb))
  have hfind := fun W (hb : Below w.heap.size w W) => Lib.hid (find_calls l hok vl x.name W ((hl.refs hok).below hb))
  have hput := fun W (hb : Below w.heap.size w W) => Lib.hid (put_calls l hok hbig vl x.name x.new hxok.2.1 hxok.2.2 W ((hl.refs hok).below hb))
  obtain ⟨A, cap, rfl, hcap1, hcap2, hat⟩ := hu
  obtain ⟨gs, os, rfl, hgs, hcell⟩ := hat (by omega)
  have hx0 := hcell k x hx
  have hsub : IntKind.i64.wrap ((u.length : Int) - 1) = (k : Int) := by rw [IntKind.wrap_i64]; omega
  have hsub2 : (u.length : Int) - 1 = (k : Int) := by omega
  have hki : (k : Int) < (u.length : Int) := by omega
  have hq := fun W => equalIn_ids (findOr l x.name) x.old (findOr_len hok _) hxok.1 W
  have hfl := findOr_len hok x.name
  clear hu0 hx hcell hat hk
  generalize u.take k = p at *
  cases hr : rightOf p x
  · obtain ⟨e1, e2⟩ := code_wrong (l := l) hr
    have e1 := Lib.hid e1
    have e2 := Lib.hid e2
    rw [hr] at hright
    clear hfind hput hq hr
    go_enter Try.func24, Try.ntmps24
    go_wp2_with (first
      | ((with_reducible refine lit_load_upd (.tmp 14) gs (os + k * 65) x hxok hx0 ?_ ?_); rfl)
      | ((with_reducible refine lit_new_upd (.tmp 6) (.tmp 15) x hxok _ hzs ?_ ?_ ?_); rfl; rfl; intro W1 hb1 hbl1
         have hr1 := hright W1 hbl1)
      | (go_at_call 36; go_must (refine hr1.out.mono ?_); rintro e w2 ⟨rfl, hb2⟩))
    go_ret2
    have hbx := bthen hbl1 hbl1.size hb2
    exact ⟨vl, by rw [e1.out]; rfl, by rw [e2.out]; exact own_below hl hbx, hbx⟩
  · rw [hr] at hright
    by_cases he : findOr l x.name = x.old
    · have hq' := fun W => by
        have := hq W
        rwa [decide_eq_true he] at this
      clear hq
      by_cases h64 : (putL l x.name x.new).length ≤ 64
      · obtain ⟨e1, e2⟩ := code_ok hr he h64
        have e1 := Lib.hid e1
        have e2 := Lib.hid e2
        have h64i : ¬ (64 : Int) < ((putL l x.name x.new).length : Int) := by omega
        clear hr he h64
        go_enter Try.func24, Try.ntmps24
        go_wp2_with (first
          | ((with_reducible refine lit_load_upd (.tmp 14) gs (os + k * 65) x hxok hx0 ?_ ?_); rfl)
          | ((with_reducible refine lit_new_upd (.tmp 6) (.tmp 15) x hxok _ hzs ?_ ?_ ?_); rfl; rfl; intro W1 hb1 hbl1
             have hr1 := hright W1 hbl1)
          | (go_at_call 36; go_must (refine hr1.out.mono ?_); rintro e w2 ⟨rfl, hb2⟩
             have hS2 : UpdW w w.heap.size x w2 := (UpdW.mk hb1 hbl1).below hb2
             have hf2 := hfind w2 hS2.bel
             have q0 := hS2.name_
             clear hright hb1 hbl1 hb2 hr1)
          | (go_at_call 19; go_must (refine hf2.out.mono ?_); rintro e w3 ⟨rfl, hb3⟩
             have hS3 := hS2.below hb3
             clear hfind hS2 hf2 hb3 q0)
          | ((with_reducible refine lit_new_id (.tmp 7) (.tmp 25) (findOr l x.name) hfl _ ?_ ?_ ?_ ?_); rfl; rfl; rfl; intro W4 hb4 hbl4
             have hS4 := hS3.below hbl4
             have q1 := run_ldvI_mid (range_blk hb4) hfl
             have q2 := run_ldvI_mid hS4.old_ hxok.1
             have q0 := hS4.name_
             have q3 := run_ldvI_mid (hS4.new_ hxok) hxok.2.1
             have hp4 := hput W4 hS4.bel
             clear hS3 hput)
          | (go_at_call 37; go_must (refine hp4.out.mono ?_); rintro e w5 ⟨v5, rfl, ho5, hb5⟩
             obtain ⟨A5, cap5, rfl⟩ := own_form' ho5
             have hS5 := hS4.below hb5))
        go_ret2
        exact ⟨.slice A5 _ cap5, by rw [e1.out]; rfl, by rw [e2.out]; exact own_mono ho5 (Nat.le_trans hbase hS4.bel.size), hS5.bel⟩
      · obtain ⟨e1, e2⟩ := code_limit hr he h64
        have e1 := Lib.hid e1
        have e2 := Lib.hid e2
        have h64i : (64 : Int) < ((putL l x.name x.new).length : Int) := by omega
        clear hr he h64
        go_enter Try.func24, Try.ntmps24
        go_wp2_with (first
          | ((with_reducible refine lit_load_upd (.tmp 14) gs (os + k * 65) x hxok hx0 ?_ ?_); rfl)
          | ((with_reducible refine lit_new_upd (.tmp 6) (.tmp 15) x hxok _ hzs ?_ ?_ ?_); rfl; rfl; intro W1 hb1 hbl1
             have hr1 := hright W1 hbl1)
          | (go_at_call 36; go_must (refine hr1.out.mono ?_); rintro e w2 ⟨rfl, hb2⟩
             have hS2 : UpdW w w.heap.size x w2 := (UpdW.mk hb1 hbl1).below hb2
             have hf2 := hfind w2 hS2.bel
             have q0 := hS2.name_
             clear hright hb1 hbl1 hb2 hr1)
          | (go_at_call 19; go_must (refine hf2.out.mono ?_); rintro e w3 ⟨rfl, hb3⟩
             have hS3 := hS2.below hb3
             clear hfind hS2 hf2 hb3 q0)
          | ((with_reducible refine lit_new_id (.tmp 7) (.tmp 25) (findOr l x.name) hfl _ ?_ ?_ ?_ ?_); rfl; rfl; rfl; intro W4 hb4 hbl4
             have hS4 := hS3.below hbl4
             have q1 := run_ldvI_mid (range_blk hb4) hfl
             have q2 := run_ldvI_mid hS4.old_ hxok.1
             have q0 := hS4.name_
             have q3 := run_ldvI_mid (hS4.new_ hxok) hxok.2.1
             have hp4 := hput W4 hS4.bel
             clear hS3 hput)
          | (go_at_call 37; go_must (refine hp4.out.mono ?_); rintro e w5 ⟨v5, rfl, ho5, hb5⟩
             obtain ⟨A5, cap5, rfl⟩ := own_form' ho5
             have hS5 := hS4.below hb5))
        go_ret2
        exact ⟨vl, by rw [e1.out]; rfl, by rw [e2.out]; exact own_below hl hS5.bel, hS5.bel⟩
    · have hq' := fun W => by
        have := hq W
        rwa [decide_eq_false he] at this
      obtain ⟨e1, e2⟩ := code_lease hr he
      have e1 := Lib.hid e1
      have e2 := Lib.hid e2
      clear hr he hput hq
      go_enter Try.func24, Try.ntmps24
      go_wp2_with (first
        | ((with_reducible refine lit_load_upd (.tmp 14) gs (os + k * 65) x hxok hx0 ?_ ?_); rfl)
        | ((with_reducible refine lit_new_upd (.tmp 6) (.tmp 15) x hxok _ hzs ?_ ?_ ?_); rfl; rfl; intro W1 hb1 hbl1
           have hr1 := hright W1 hbl1)
        | (go_at_call 36; go_must (refine hr1.out.mono ?_); rintro e w2 ⟨rfl, hb2⟩
           have hS2 : UpdW w w.heap.size x w2 := (UpdW.mk hb1 hbl1).below hb2
           have hf2 := hfind w2 hS2.bel
           have q0 := hS2.name_
           clear hright hb1 hbl1 hb2 hr1)
        | (go_at_call 19; go_must (refine hf2.out.mono ?_); rintro e w3 ⟨rfl, hb3⟩
           have hS3 := hS2.below hb3
           clear hfind hS2 hf2 hb3 q0)
        | ((with_reducible refine lit_new_id (.tmp 7) (.tmp 25) (findOr l x.name) hfl _ ?_ ?_ ?_ ?_); rfl; rfl; rfl; intro W4 hb4 hbl4
           have hS4 := hS3.below hbl4
           have q1 := run_ldvI_mid (range_blk hb4) hfl
           have q2 := run_ldvI_mid hS4.old_ hxok.1
           clear hS3))
      go_ret2
      exact ⟨vl, by rw [e1.out]; rfl, by rw [e2.out]; exact own_below hl hS4.bel, hS4.bel⟩
end Go.Proofs.Ytlpiefopegjgjaa
