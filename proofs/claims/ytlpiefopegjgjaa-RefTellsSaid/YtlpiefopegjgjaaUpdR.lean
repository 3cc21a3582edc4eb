/- The walk of layer 9 (ref): right. No condition. -/
import Derived.Test.YtlpiefopegjgjaaUpdC
import Derived.Test.YtlpiefopegjgjaaRefG
namespace Go.Proofs.Ytlpiefopegjgjaa
open Go.RowKit
attribute [local go_sem ↓] ldvI_eq
theorem SliceAt.take {α : Type} {w : World} {k : Nat} {enc : α → List Value} {A : Option Addr} {n cap : Nat} {l : List α} (h : SliceAt w k enc (.slice A n cap) l) {m : Nat} (hm : m ≤ l.length) : SliceAt w k enc (.slice A m cap) (l.take m) := by
  obtain ⟨A', cap', he, h1, h2, h3⟩ := h
  injection he with e1 e2 e3
  subst e1 e2 e3
  refine ⟨A, cap, by rw [List.length_take, Nat.min_eq_left hm], by rw [List.length_take]; omega, h2, fun h0 => ?_⟩
  obtain ⟨g, o, e, hg, hc⟩ := h3 (by rw [List.length_take] at h0; omega)
  exact ⟨g, o, e, hg, fun i x hx => hc i x (by rw [List.getElem?_take] at hx; split at hx; exact hx; cases hx)⟩
def rightAt (l : List UpdL) (k : Nat) (x : UpdL) : Bool := nameOk x.name && !((l.take k).any (fun y => y.name == x.name)) && !(isNone x.old && isNone x.new)
/-- What lies there while an update is looked at. -/
structure UpdW (w : World) (g : Nat) (x : UpdL) (w' : World) : Prop where
  blk : Blk w' g 39 (updC x).toArray
  bel : Below w.heap.size w w'
theorem UpdW.name_ {w : World} {g : Nat} {x : UpdL} {w' : World} (h : UpdW w g x w') : w'.cell? ⟨g, 0, none⟩ = some (.string (B x.name)) := range_uname (range_blkUpd h.blk)
theorem UpdW.old_ {w : World} {g : Nat} {x : UpdL} {w' : World} (h : UpdW w g x w') : w'.rangeAt g 1 (u8s x.old).toList := range_old (range_blkUpd h.blk)
theorem UpdW.new_ {w : World} {g : Nat} {x : UpdL} (hx : UpdOk x) {w' : World} (h : UpdW w g x w') : w'.rangeAt g 33 (u8s x.new).toList := by
  have := range_new hx (range_blkUpd h.blk)
  rwa [Nat.zero_add] at this
theorem UpdW.drew {w : World} {g : Nat} {x : UpdL} {w' : World} (h : UpdW w g x w') : UpdW w g x w'.drew := ⟨h.blk, h.bel.drew⟩
theorem UpdW.below {w : World} {g : Nat} {x : UpdL} {w' w'' : World} (h : UpdW w g x w') (hb : Below w'.heap.size w' w'') : UpdW w g x w'' := ⟨h.blk.below hb h.blk.lt, bthen h.bel h.bel.size hb⟩
theorem keepU {w : World} {g : Nat} {x : UpdL} {f : FuncId} {args : Array Value} {v : Value} {w0 : World}
    (h : Calls Try.prog f args w0 fun e w' => e = .returned v ∧ Below w0.heap.size w0 w') (hS : UpdW w g x w0) :
    Calls Try.prog f args w0 fun e w' => e = .returned v ∧ UpdW w g x w' :=
  h.mono fun _ _ ⟨he, hb⟩ => ⟨he, hS.below hb⟩
theorem zeroUpd : ∃ ZS : Array Value, (∀ W, (zeroValue 39).run Try.prog W = .ok (.agg ZS) W) ∧ ZS.size = 65 := by
  obtain ⟨i, h1, h2, _⟩ := info_parts (P := Try.prog) (e := 39) (z := .agg (updC ⟨[], List.replicate 32 0, List.replicate 32 0⟩).toArray) (size := 65) (bytes := 80) (by kernel_rfl)
  refine ⟨(updC ⟨[], List.replicate 32 0, List.replicate 32 0⟩).toArray, fun W => ?_, rfl⟩
  simp [zeroValue, typeInfo, h1, h2]
set_option maxRecDepth 100000 in
set_option maxHeartbeats 4000000 in
theorem right_calls (l : List UpdL) (hok : UpdsOk l) (k : Nat) (hk : l.length = k + 1) (x : UpdL) (hx : l[k]? = some x) (v : Value) (w : World) (hv : Upds w v l) :
    Calls Try.prog 36 #[v] w fun e w' => e = .returned (.bool (rightAt l k x)) ∧ Below w.heap.size w w' := by
  obtain ⟨ZS, hzv, hzs⟩ := zeroUpd
  have hv0 := hv
  have hlen := hv.len
  have hxok : UpdOk x := hok x (List.mem_of_getElem? hx)
  obtain ⟨A, cap, rfl, hcap1, hcap2, hat⟩ := hv
  obtain ⟨gs, os, rfl, hgs, hcell⟩ := hat (by omega)
  have hx0 := hcell k x hx
  have hsub : IntKind.i64.wrap ((l.length : Int) - 1) = (k : Int) := by rw [IntKind.wrap_i64]; omega
  have hsub2 : (l.length : Int) - 1 = (k : Int) := by omega
  have hki : (k : Int) < (l.length : Int) := by omega
  have hkc : (k : Int) ≤ (cap : Int) := by omega
  have hnm := fun W => name_calls x.name hxok.2.2 W
  have hnO := fun W => none_calls x.old hxok.1 W
  have hnN := fun W => none_calls x.new hxok.2.1 W
  have hiO : (Try.prog.info? 37).map (·.size) = some (u8s x.old).toList.length := by rw [Array.length_toList, u8s_size, hxok.1]; exact sz32
  have hiN : (Try.prog.info? 37).map (·.size) = some (u8s x.new).toList.length := by rw [Array.length_toList, u8s_size, hxok.2.1]; exact sz32
  have hokt : UpdsOk (l.take k) := fun y hy => hok y (List.mem_of_mem_take hy)
  have hcon : ∀ W1, Blk W1 w.heap.size 39 (updC x).toArray → Below w.heap.size w W1 →
      Hid (Calls Try.prog 44 #[.slice (some ⟨gs, os, none⟩) k cap, .func (.func 45) #[] #[.pointer (some ⟨w.heap.size, 0, none⟩)]] W1 fun e w' => e = .returned (.bool ((l.take k).any (fun y => y.name == x.name))) ∧ Below W1.heap.size W1 w') := fun W1 hb1 hbl1 =>
    Lib.hid (contains_calls (l.take k) hokt _ W1 ((hv0.below hbl1).take (by omega)) 45 right1_func _ (fun y => y.name == x.name)
      (fun W y hy hb => right1_calls y (hokt y hy) w.heap.size x.name W (Nat.lt_of_lt_of_le hb1.lt hb.size) (range_uname (range_blkUpd (hb1.below hb hb1.lt)))))
  have hres : Hid (rightAt l k x = (nameOk x.name && !((l.take k).any (fun y => y.name == x.name)) && !(isNone x.old && isNone x.new))) := by show _ = _; rfl
  clear hv0 hokt hx hcell hat hok hk
  generalize (l.take k).any (fun y => y.name == x.name) = tw at *
  generalize rightAt l k x = rr at *
  generalize nameOk x.name = b1 at *
  generalize isNone x.old = b3 at *
  generalize isNone x.new = b4 at *
  have hres' : rr = (b1 && !tw && !(b3 && b4)) := hres.out
  clear hres
  cases b1
  · obtain rfl : rr = false := hres'
    clear hnO hnN
    go_enter Try.func36, Try.ntmps36
    go_wp2_with (first
      | (refine wpList_load_mid rfl 39 (.tmp 9) rfl gs (os + k * 65) rfl (updC x) _ hx0 Try.underlying39 rfl (sizedUpd hxok) ?_)
      | (refine wpList_store_newUpd rfl (.tmp 3) (.tmp 10) rfl x hxok _ rfl rfl hzs ?_; intro W1 hb1 hbl1
         have hc1 := hcon W1 hb1 hbl1)
      | (go_at_call 44; go_must (refine hc1.out.mono ?_); rintro e w2 ⟨rfl, hb2⟩
         have hS : UpdW w w.heap.size x w2 := (UpdW.mk hb1 hbl1).below hb2
         have q0 := hS.name_
         have q1 := run_ldvI_mid hS.old_ hxok.1
         clear hb1 hbl1 hb2 hc1 hcon hx0))
    go_at_call 21
    refine (hnm _).mono ?_
    rintro e w3 ⟨rfl, rfl⟩
    go_wp2_with (fail)
    go_ret
    exact ⟨rfl, hS.bel⟩
  · cases tw
    · cases b3
      · obtain rfl : rr = true := hres'
        clear hnN
        go_enter Try.func36, Try.ntmps36
        go_wp2_with (first
          | (refine wpList_load_mid rfl 39 (.tmp 9) rfl gs (os + k * 65) rfl (updC x) _ hx0 Try.underlying39 rfl (sizedUpd hxok) ?_)
          | (refine wpList_store_newUpd rfl (.tmp 3) (.tmp 10) rfl x hxok _ rfl rfl hzs ?_; intro W1 hb1 hbl1
             have hc1 := hcon W1 hb1 hbl1)
          | (go_at_call 44; go_must (refine hc1.out.mono ?_); rintro e w2 ⟨rfl, hb2⟩
             have hS : UpdW w w.heap.size x w2 := (UpdW.mk hb1 hbl1).below hb2
             have q0 := hS.name_
             have q1 := run_ldvI_mid hS.old_ hxok.1
             clear hb1 hbl1 hb2 hc1 hcon hx0))
        go_at_call 21
        refine (hnm _).mono ?_
        rintro e w3 ⟨rfl, rfl⟩
        go_wp2_with (fail)
        go_at_call 27
        refine (hnO _).mono ?_
        rintro e w4 ⟨rfl, hb3⟩
        have hS3 := hS.below hb3
        have q2 := run_ldvI_mid (hS3.new_ hxok) hxok.2.1
        go_wp2_with (fail)
        go_ret
        exact ⟨rfl, hS3.bel⟩
      · cases b4
        · obtain rfl : rr = true := hres'
          go_enter Try.func36, Try.ntmps36
          go_wp2_with (first
            | (refine wpList_load_mid rfl 39 (.tmp 9) rfl gs (os + k * 65) rfl (updC x) _ hx0 Try.underlying39 rfl (sizedUpd hxok) ?_)
            | (refine wpList_store_newUpd rfl (.tmp 3) (.tmp 10) rfl x hxok _ rfl rfl hzs ?_; intro W1 hb1 hbl1
               have hc1 := hcon W1 hb1 hbl1)
            | (go_at_call 44; go_must (refine hc1.out.mono ?_); rintro e w2 ⟨rfl, hb2⟩
               have hS : UpdW w w.heap.size x w2 := (UpdW.mk hb1 hbl1).below hb2
               have q0 := hS.name_
               have q1 := run_ldvI_mid hS.old_ hxok.1
               clear hb1 hbl1 hb2 hc1 hcon hx0))
          go_at_call 21
          refine (hnm _).mono ?_
          rintro e w3 ⟨rfl, rfl⟩
          go_wp2_with (fail)
          go_at_call 27
          refine (hnO _).mono ?_
          rintro e w4 ⟨rfl, hb3⟩
          have hS3 := hS.below hb3
          have q2 := run_ldvI_mid (hS3.new_ hxok) hxok.2.1
          go_wp2_with (fail)
          go_at_call 27
          refine (hnN _).mono ?_
          rintro e w6 ⟨rfl, hb4⟩
          have hS4 := hS3.below hb4
          go_wp2_with (fail)
          go_ret
          exact ⟨rfl, hS4.bel⟩
        · obtain rfl : rr = false := hres'
          go_enter Try.func36, Try.ntmps36
          go_wp2_with (first
            | (refine wpList_load_mid rfl 39 (.tmp 9) rfl gs (os + k * 65) rfl (updC x) _ hx0 Try.underlying39 rfl (sizedUpd hxok) ?_)
            | (refine wpList_store_newUpd rfl (.tmp 3) (.tmp 10) rfl x hxok _ rfl rfl hzs ?_; intro W1 hb1 hbl1
               have hc1 := hcon W1 hb1 hbl1)
            | (go_at_call 44; go_must (refine hc1.out.mono ?_); rintro e w2 ⟨rfl, hb2⟩
               have hS : UpdW w w.heap.size x w2 := (UpdW.mk hb1 hbl1).below hb2
               have q0 := hS.name_
               have q1 := run_ldvI_mid hS.old_ hxok.1
               clear hb1 hbl1 hb2 hc1 hcon hx0))
          go_at_call 21
          refine (hnm _).mono ?_
          rintro e w3 ⟨rfl, rfl⟩
          go_wp2_with (fail)
          go_at_call 27
          refine (hnO _).mono ?_
          rintro e w4 ⟨rfl, hb3⟩
          have hS3 := hS.below hb3
          have q2 := run_ldvI_mid (hS3.new_ hxok) hxok.2.1
          go_wp2_with (fail)
          go_at_call 27
          refine (hnN _).mono ?_
          rintro e w6 ⟨rfl, hb4⟩
          have hS4 := hS3.below hb4
          go_wp2_with (fail)
          go_ret
          exact ⟨rfl, hS4.bel⟩
    · obtain rfl : rr = false := by rw [hres']; cases b3 <;> cases b4 <;> rfl
      clear hnO hnN hres'
      go_enter Try.func36, Try.ntmps36
      go_wp2_with (first
        | (refine wpList_load_mid rfl 39 (.tmp 9) rfl gs (os + k * 65) rfl (updC x) _ hx0 Try.underlying39 rfl (sizedUpd hxok) ?_)
        | (refine wpList_store_newUpd rfl (.tmp 3) (.tmp 10) rfl x hxok _ rfl rfl hzs ?_; intro W1 hb1 hbl1
           have hc1 := hcon W1 hb1 hbl1)
        | (go_at_call 44; go_must (refine hc1.out.mono ?_); rintro e w2 ⟨rfl, hb2⟩
           have hS : UpdW w w.heap.size x w2 := (UpdW.mk hb1 hbl1).below hb2
           have q0 := hS.name_
           have q1 := run_ldvI_mid hS.old_ hxok.1
           clear hb1 hbl1 hb2 hc1 hcon hx0))
      go_at_call 21
      refine (hnm _).mono ?_
      rintro e w3 ⟨rfl, rfl⟩
      go_wp2_with (fail)
      go_ret
      exact ⟨rfl, hS.bel⟩
end Go.Proofs.Ytlpiefopegjgjaa
