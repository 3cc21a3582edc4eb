/- The walk of layer 9 (ref): Put. No condition. -/
import Derived.Test.YtlpiefopegjgjaaPutX
import Derived.Test.YtlpiefopegjgjaaBld
import Derived.Test.YtlpiefopegjgjaaShelf
import Derived.Test.YtlpiefopegjgjaaRefF
namespace Go.Proofs.Ytlpiefopegjgjaa
open Go.RowKit
attribute [local go_sem ↓] ldvI_eq
theorem ib_below {T e : TypeId} {B0 b : Nat} {bs : List Value} {w w' : World} (h : Lib.IsBuilder T e B0 b bs w) (hb : Below w.heap.size w w') : Lib.IsBuilder T e B0 b bs w' := by
  have key : ∀ p, Lib.BuilderAt T e B0 b p bs w → Lib.BuilderAt T e B0 b p bs w' := by
    rintro p ⟨hB, v, hh, ho, hne⟩
    have hlt : b < w.heap.size := (show Blk w b T #[p, v] from hh).lt
    exact ⟨hB, v, (hb.block b hlt).trans hh, own_below ho hb, hne⟩
  exact h.imp (key _) (key _)
theorem ib_lt {T e : TypeId} {B0 b : Nat} {bs : List Value} {w : World} (h : Lib.IsBuilder T e B0 b bs w) : b < w.heap.size := by
  rcases h with ⟨_, v, hh, _⟩ | ⟨_, v, hh, _⟩
  · exact (show Blk w b T #[_, v] from hh).lt
  · exact (show Blk w b T #[_, v] from hh).lt
structure PutD (w : World) (g b : Nat) (x : RefL) (ts ln : List UInt8) (listed : Array Bool) (w' : World) : Prop where
  blk : Blk w' g 54 (refC x).toArray
  bel : Below w.heap.size w w'
  wb : w.heap.size ≤ b
  gb : g ≠ b
  ib : Lib.IsBuilder 63 5 b b ((if listed.getD 8 false then ts ++ ln else ts).map u8v) w'
theorem PutD.same {w : World} {g b : Nat} {x : RefL} {ts ln : List UInt8} {listed : Array Bool} {w' : World} (h : PutD w g b x ts ln listed w') {i : Nat} (hi : i < listed.size) (h8 : i ≠ 8) : PutD w g b x ts ln (listed.setIfInBounds i true) w' :=
  ⟨h.blk, h.bel, h.wb, h.gb, by
    have e : (listed.setIfInBounds i true).getD 8 false = listed.getD 8 false := by rw [getD_set hi, if_neg (fun e => h8 e.symm)]
    rw [e]
    exact h.ib⟩
theorem PutD.below {w : World} {g b : Nat} {x : RefL} {ts ln : List UInt8} {listed : Array Bool} {w' w'' : World} (h : PutD w g b x ts ln listed w') (hb : Below w'.heap.size w' w'') : PutD w g b x ts ln listed w'' :=
  ⟨h.blk.below hb h.blk.lt, bthen h.bel h.bel.size hb, h.wb, h.gb, ib_below h.ib hb⟩
theorem PutD.id_ {w : World} {g b : Nat} {x : RefL} {ts ln : List UInt8} {listed : Array Bool} {w' : World} (h : PutD w g b x ts ln listed w') : w'.rangeAt g 1 (u8s x.id).toList := range_id (range_blkRef h.blk)
theorem PutD.name_ {w : World} {g b : Nat} {x : RefL} {ts ln : List UInt8} {listed : Array Bool} {w' : World} (h : PutD w g b x ts ln listed w') : w'.cell? ⟨g, 0, none⟩ = some (.string (B x.name)) := range_name (range_blkRef h.blk)
theorem PutD.ib_no {w : World} {g b : Nat} {x : RefL} {ts ln : List UInt8} {listed : Array Bool} {w' : World} (h : PutD w g b x ts ln listed w') (hl : listed.getD 8 false = false) : Lib.IsBuilder 63 5 b b (ts.map u8v) w' := by
  have := h.ib
  rw [hl] at this
  exact this
theorem PutD.b_lt {w : World} {g b : Nat} {x : RefL} {ts ln : List UInt8} {listed : Array Bool} {w' : World} (h : PutD w g b x ts ln listed w') : b < w'.heap.size := ib_lt h.ib
theorem PutD.wrote {w : World} {g b : Nat} {x : RefL} {ts ln : List UInt8} {listed : Array Bool} {w' w'' : World} (h : PutD w g b x ts ln listed w') (hs : 8 < listed.size) (hib : Lib.IsBuilder 63 5 b b ((ts ++ ln).map u8v) w'') (hb : Below b w' w'')
    (hfar : ∀ k T cs, Blk w' k T cs → 5 ≠ T → k ≠ b → Blk w'' k T cs) : PutD w g b x ts ln (listed.setIfInBounds 8 true) w'' :=
  ⟨hfar g _ _ h.blk (by decide) h.gb, h.bel.trans (hb.mono h.wb), h.wb, h.gb, by
    have e : (listed.setIfInBounds 8 true).getD 8 false = true := by rw [getD_set hs, if_pos rfl]
    rw [e]
    exact hib⟩
theorem PutD.drew {w : World} {g b : Nat} {x : RefL} {ts ln : List UInt8} {listed : Array Bool} {w' : World} (h : PutD w g b x ts ln listed w') : PutD w g b x ts ln listed w'.drew := h.below ((Below.refl _ _).drew)
theorem fine_names {l : List RefL} (h : fineL l = true) : ∀ r ∈ l, r.name.length ≤ 40 := fun r hr => by
  have := fine_each' h r hr
  simp only [nameOk, Bool.and_eq_true, decide_eq_true_eq] at this
  exact this.1.2
set_option maxRecDepth 100000 in
set_option maxHeartbeats 4000000 in
theorem put_text_calls (l : List RefL) (hok : RefsOk l) (v : Value) (w : World) (hv : Refs w v l) :
    Calls Try.prog 15 #[v] w fun e w' => e = .returned (.tuple #[.string (B (if fineL l then putT l else [])), .int .i64 (if fineL l then 0 else 1)]) ∧ Below w.heap.size w w' := by
  have hf0 := Lib.hid (fine_calls l hok v w hv)
  have hlen := hv.len
  obtain ⟨A, cap, rfl, hcap1, hcap2, hat⟩ := hv
  cases hfl : fineL l
  · rw [hfl] at hf0
    clear hat hfl
    go_enter Try.func15, Try.ntmps15
    go_wp2_with (first
      | (go_at_call 14; go_must (refine hf0.out.mono ?_); rintro e w1 ⟨rfl, hb1⟩))
    go_ret2
    exact ⟨rfl, hb1⟩
  · rw [hfl] at hf0
    have hn := fine_names hfl
    have hbig := (show l.length ≤ 64 by unfold fineL at hfl; rw [Bool.and_eq_true, decide_eq_true_eq] at hfl; exact hfl.1)
    clear hfl
    go_enter Try.func15, Try.ntmps15
    go_wp2_with (first
      | (go_at_call 14; go_must (refine hf0.out.mono ?_); rintro e w1 ⟨rfl, hb1⟩))
    have hib0 := bld_new w1
    have hbw := hb1.size
    have hbl0 : Below w.heap.size w (w1.alloc (.cells #[.pointer none, .slice none 0 0] 63)) := hb1.alloc hbw _
    generalize hbb : w1.heap.size = b at *
    go_loopw [12] (fun vi wr => ∃ k : Nat, vi = .int .i64 k ∧ k ≤ l.length ∧ Lib.IsBuilder 63 5 b b ((putT (l.take k)).map u8v) wr ∧ Below w.heap.size w wr) (fun vi _ => l.length - (intOf vi).toNat)
    case atStart => exact ⟨0, rfl, by omega, hib0, hbl0⟩
    case round =>
      clear hib0 hbl0
      obtain ⟨k, rfl, hk, hib, hbel⟩ := hrel
      have hsz := hbel.size
      by_cases hlt : k < l.length
      · have hki : (k : Int) < (l.length : Int) := by omega
        obtain ⟨gs, os, rfl, hgs, hcell⟩ := hat (by omega)
        obtain ⟨x, hx⟩ : ∃ x, l[k]? = some x := ⟨_, List.getElem?_eq_getElem hlt⟩
        have hxok : RefOk x := hok x (List.mem_of_getElem? hx)
        have hx0 := rangeAt_below (hcell k x hx) hgs hbel
        have hxn := hn x (List.mem_of_getElem? hx)
        have hmore := Lib.hid (putT_more hx)
        have htl : (putT (l.take k)).length ≤ 6784 := by
          have := putT_len (l := l.take k) (fun y hy => hok y (List.mem_of_mem_take hy)) (fun y hy => hn y (List.mem_of_mem_take hy))
          have h2 : (l.take k).length ≤ 64 := by rw [List.length_take]; omega
          omega
        have hhl : (hexOf x.id).length = 64 := by rw [hexOf_length, hxok.1]
        have hhl2 := Lib.hid hhl
        clear hx hcell hat hhl hn
        generalize putT (l.take k) = ts at *
        go_wp2_with (first
          | ((with_reducible refine lit_load_ref (.tmp 14) gs (os + k * 33) x hxok hx0 ?_ ?_); rfl)
          | (refine wpList_store_newRef rfl (.tmp 6) (.tmp 15) rfl x hxok _ rfl rfl rfl ?_; intro W1 hnb hbn))
        have hib1 := ib_below hib hbn
        have hblt := ib_lt hib
        have hgb : wr.heap.size ≠ b := by omega
        have hD0 : PutD w wr.heap.size b x ts (hexOf x.id ++ 32 :: (x.name ++ [10])) (Array.replicate 9 false) W1 := ⟨hnb, bthen hbel hsz hbn, hbw, hgb, hib1⟩
        generalize wr.heap.size = g at *
        obtain ⟨V, hV⟩ : ∃ V : Nat → Value, V = fun i => [(.pointer (some ⟨g, 1, none⟩)), (.agg (u8s x.id)), (.string (B (hexOf x.id))), (.string (B (hexOf x.id ++ [32]))), (.pointer (some ⟨g, 0, none⟩)), (.string (B x.name)), (.string (B (hexOf x.id ++ [32] ++ x.name))), (.string (B (hexOf x.id ++ 32 :: (x.name ++ [10])))), (.tuple #[.int .i64 ((hexOf x.id ++ 32 :: (x.name ++ [10])).length : Nat), .nilIface])].getD i undef := ⟨_, rfl⟩
        have v0 : V 0 = (.pointer (some ⟨g, 1, none⟩)) := by rw [hV]; rfl
        have v1 : V 1 = (.agg (u8s x.id)) := by rw [hV]; rfl
        have v2 : V 2 = (.string (B (hexOf x.id))) := by rw [hV]; rfl
        have v3 : V 3 = (.string (B (hexOf x.id ++ [32]))) := by rw [hV]; rfl
        have v4 : V 4 = (.pointer (some ⟨g, 0, none⟩)) := by rw [hV]; rfl
        have v5 : V 5 = (.string (B x.name)) := by rw [hV]; rfl
        have v6 : V 6 = (.string (B (hexOf x.id ++ [32] ++ x.name))) := by rw [hV]; rfl
        have v7 : V 7 = (.string (B (hexOf x.id ++ 32 :: (x.name ++ [10])))) := by rw [hV]; rfl
        have v8 : V 8 = (.tuple #[.int .i64 ((hexOf x.id ++ 32 :: (x.name ++ [10])).length : Nat), .nilIface]) := by rw [hV]; rfl
        clear hV
        refine wp_region_left (C := PutD w g b x ts (hexOf x.id ++ 32 :: (x.name ++ [10]))) (R := fun i v _ => v = V i) (by kernel_rfl) (by kernel_rfl) (by kernel_rfl) ?_ hD0.drew ?_ ?_
        · exact sizes_spec (n := 27) (by kernel_rfl)
        · intro i o listed a w1 ho hi hL
          have hin := (ready_spec hi).1
          match i, ho with
          | 0, ho =>
            obtain rfl := (Option.some.inj ho).symm
            have e0 : a.tmps[6]?.getD undef = (.pointer (some ⟨g, 0, none⟩)) := (slot_eval a 6).trans (hL.get_old hi (by kernel_rfl))
            have hc := hL.cls
            have hcs := hc.same (i := 0) (by rw [hL.size]; exact hin) (by omega)
            refine step_wp rfl rfl ?_
            clear hi ho hL hin
            refine wp_val (v := (.pointer (some ⟨g, 1, none⟩))) ?_ ⟨_, rfl, (id) v0.symm, hcs, fun _ _ h => h⟩
            clear v0 v1 v2 v3 v4 v5 v6 v7 v8  hc hcs
            unfold execOp
            go_simp
          | 1, ho =>
            obtain rfl := (Option.some.inj ho).symm
            have e0 : a.tmps[16]?.getD undef = (.pointer (some ⟨g, 1, none⟩)) := (slot_eval a 16).trans ((id (hL.get_new (j := 0) hi (by kernel_rfl))).trans v0)
            have hc := hL.cls
            have hcs := hc.same (i := 1) (by rw [hL.size]; exact hin) (by omega)
            refine step_wp rfl rfl ?_
            clear hi ho hL hin
            refine wp_val (v := (.agg (u8s x.id))) ?_ ⟨_, rfl, (id) v1.symm, hcs, fun _ _ h => h⟩
            have q2 := run_ldvI_mid hc.id_ hxok.1
            clear v0 v1 v2 v3 v4 v5 v6 v7 v8  hc hcs
            unfold execOp
            go_simp
          | 2, ho =>
            obtain rfl := (Option.some.inj ho).symm
            have e0 : a.tmps[17]?.getD undef = (.agg (u8s x.id)) := (slot_eval a 17).trans ((id (hL.get_new (j := 1) hi (by kernel_rfl))).trans v1)
            have hc := hL.cls
            have hcs := hc.same (i := 2) (by rw [hL.size]; exact hin) (by omega)
            refine step_wp rfl rfl ?_
            clear hi ho hL hin
            have hh := hex_calls x.id hxok.1 w1
            unfold Oper.wp execOp
            go_simp
            go_at_call 29
            refine hh.mono ?_
            rintro e w2 ⟨rfl, hb⟩
            first
              | exact ⟨_, rfl, v2.symm, hcs.below hb, fun _ _ h => h⟩
              | exact ⟨_, rfl, rfl, hcs.below hb⟩
          | 3, ho =>
            obtain rfl := (Option.some.inj ho).symm
            have e0 : a.tmps[18]?.getD undef = (.string (B (hexOf x.id))) := (slot_eval a 18).trans ((id (hL.get_new (j := 2) hi (by kernel_rfl))).trans v2)
            have hc := hL.cls
            have hcs := hc.same (i := 3) (by rw [hL.size]; exact hin) (by omega)
            refine step_wp rfl rfl ?_
            clear hi ho hL hin
            refine wp_val (v := (.string (B (hexOf x.id ++ [32])))) ?_ ⟨_, rfl, (id) v3.symm, hcs, fun _ _ h => h⟩
            clear v0 v1 v2 v3 v4 v5 v6 v7 v8  hc hcs
            unfold execOp
            go_simp
            have := hhl2.out
            omega
          | 4, ho =>
            obtain rfl := (Option.some.inj ho).symm
            have e0 : a.tmps[6]?.getD undef = (.pointer (some ⟨g, 0, none⟩)) := (slot_eval a 6).trans (hL.get_old hi (by kernel_rfl))
            have hc := hL.cls
            have hcs := hc.same (i := 4) (by rw [hL.size]; exact hin) (by omega)
            refine step_wp rfl rfl ?_
            clear hi ho hL hin
            refine wp_val (v := (.pointer (some ⟨g, 0, none⟩))) ?_ ⟨_, rfl, (id) v4.symm, hcs, fun _ _ h => h⟩
            clear v0 v1 v2 v3 v4 v5 v6 v7 v8  hc hcs
            unfold execOp
            go_simp
          | 5, ho =>
            obtain rfl := (Option.some.inj ho).symm
            have e0 : a.tmps[20]?.getD undef = (.pointer (some ⟨g, 0, none⟩)) := (slot_eval a 20).trans ((id (hL.get_new (j := 4) hi (by kernel_rfl))).trans v4)
            have hc := hL.cls
            have hcs := hc.same (i := 5) (by rw [hL.size]; exact hin) (by omega)
            refine step_wp rfl rfl ?_
            clear hi ho hL hin
            refine wp_val (v := (.string (B x.name))) ?_ ⟨_, rfl, (id) v5.symm, hcs, fun _ _ h => h⟩
            have q2 := hc.name_
            clear v0 v1 v2 v3 v4 v5 v6 v7 v8  hc hcs
            unfold execOp
            go_simp
          | 6, ho =>
            obtain rfl := (Option.some.inj ho).symm
            have e0 : a.tmps[19]?.getD undef = (.string (B (hexOf x.id ++ [32]))) := (slot_eval a 19).trans ((id (hL.get_new (j := 3) hi (by kernel_rfl))).trans v3)
            have e1 : a.tmps[21]?.getD undef = (.string (B x.name)) := (slot_eval a 21).trans ((id (hL.get_new (j := 5) hi (by kernel_rfl))).trans v5)
            have hc := hL.cls
            have hcs := hc.same (i := 6) (by rw [hL.size]; exact hin) (by omega)
            refine step_wp rfl rfl ?_
            clear hi ho hL hin
            refine wp_val (v := (.string (B (hexOf x.id ++ [32] ++ x.name)))) ?_ ⟨_, rfl, (id) v6.symm, hcs, fun _ _ h => h⟩
            clear v0 v1 v2 v3 v4 v5 v6 v7 v8  hc hcs
            unfold execOp
            go_simp
            have := hhl2.out
            omega
          | 7, ho =>
            obtain rfl := (Option.some.inj ho).symm
            have e0 : a.tmps[22]?.getD undef = (.string (B (hexOf x.id ++ [32] ++ x.name))) := (slot_eval a 22).trans ((id (hL.get_new (j := 6) hi (by kernel_rfl))).trans v6)
            have hc := hL.cls
            have hcs := hc.same (i := 7) (by rw [hL.size]; exact hin) (by omega)
            refine step_wp rfl rfl ?_
            clear hi ho hL hin
            refine wp_val (v := (.string (B (hexOf x.id ++ 32 :: (x.name ++ [10]))))) ?_ ⟨_, rfl, (id) v7.symm, hcs, fun _ _ h => h⟩
            clear v0 v1 v2 v3 v4 v5 v6 v7 v8  hc hcs
            unfold execOp
            go_simp
            have := hhl2.out
            omega
          | 8, ho =>
            obtain rfl := (Option.some.inj ho).symm
            have e0 : a.tmps[4]?.getD undef = (.pointer (some ⟨b, 0, none⟩)) := (slot_eval a 4).trans (hL.get_old hi (by kernel_rfl))
            have e1 : a.tmps[23]?.getD undef = (.string (B (hexOf x.id ++ 32 :: (x.name ++ [10])))) := (slot_eval a 23).trans ((id (hL.get_new (j := 7) hi (by kernel_rfl))).trans v7)
            have hc := hL.cls
            have hl8 : listed.getD 8 false = false := by rw [getD_of_size (by rw [hL.size]; exact hin)]; exact (ready_spec hi).2.1
            have hhl8 : 8 < listed.size := by rw [hL.size]; exact hin
            refine step_wp rfl rfl ?_
            clear hi ho hL hin
            have hws := writeString_calls b b ts (hexOf x.id ++ 32 :: (x.name ++ [10])) w1 (hc.ib_no hl8) (by have := hhl2.out; simp; omega) (Nat.le_of_lt (hc.b_lt))
            unfold Oper.wp execOp
            go_simp
            try simp only [List.append_assoc, List.cons_append, List.nil_append] at hws
            go_at_call 28
            refine hws.mono ?_
            rintro e w2 ⟨rfl, hib, hb, hfar⟩
            refine ⟨_, rfl, ?_, hc.wrote hhl8 (by simpa using hib) hb hfar⟩
            simp
          | (n + 9), ho => exact absurd hin (by simp)
        · intro a w1 listed hL hall
          have hc := hL.cls
          have h8 := hall 8 (by simp)
          have hib2 := hc.ib
          rw [h8] at hib2
          have hbel2 := hc.bel
          obtain ⟨vs, rfl, hR⟩ := hL.frame (by kernel_rfl) (sizes_spec (n := 27) (by kernel_rfl)) hall
          simp only [putAll, Act.put, List.setIfInBounds_toArray, List.set_cons_zero, List.set_cons_succ]
          clear hc hL hR
          go_wp2
          go_roundw
          case rel => exact ⟨k + 1, by go_num, by omega, by rw [hmore.out]; simpa [lineT] using hib2, hbel2⟩
          case measure => simp [intOf]; omega
      · have hki : ¬ (k : Int) < (l.length : Int) := by omega
        have hall : putT (l.take k) = putT l := by rw [List.take_of_length_le (by omega)]
        rw [hall] at hib
        have hst := Lib.hid (Try.Builder_String_any b b (putT l) wr hib (Nat.le_of_lt (ib_lt hib)))
        clear hat hall
        go_wp2_with (first
          | (go_at_call 30; go_must (refine hst.out.mono ?_); rintro e w2 ⟨rfl, hb2⟩))
        go_ret2
        exact ⟨rfl, hbel.trans (hb2.mono hbw)⟩
end Go.Proofs.Ytlpiefopegjgjaa
