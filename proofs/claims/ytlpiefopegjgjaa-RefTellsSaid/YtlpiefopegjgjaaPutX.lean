/- The walk of layer 9's reference: Put. No condition. -/
import Derived.Test.YtlpiefopegjgjaaPutP
import Derived.Test.YtlpiefopegjgjaaRefM
import Derived.Test.YtlpiefopegjgjaaHex
import Derived.Test.YtlpiefopegjgjaaInv
namespace Go.Proofs.Ytlpiefopegjgjaa
open Go.RowKit
attribute [local go_sem ↓] ldvI_eq
theorem lineT_len {r : RefL} (h : r.id.length = 32) : (lineT r).length = r.name.length + 66 := by
  simp [lineT, hexOf_length, h]; omega
theorem putT_len {l : List RefL} (h : RefsOk l) (hn : ∀ r ∈ l, r.name.length ≤ 40) : (putT l).length ≤ 106 * l.length := by
  induction l with
  | nil => simp [putT]
  | cons r l ih =>
    have h1 := lineT_len (h r (by simp)).1
    have h2 := hn r (by simp)
    have h3 := ih (fun x hx => h x (by simp [hx])) (fun x hx => hn x (by simp [hx]))
    rw [putT_cons, List.length_append, List.length_cons]
    omega
theorem putT_more {l : List RefL} {k : Nat} {x : RefL} (hx : l[k]? = some x) : putT (l.take (k + 1)) = putT (l.take k) ++ lineT x := by
  rw [List.take_add_one, hx, putT_append]
  simp [putT]
def PutR (V : Nat → Value) (i : Nat) (v : Value) (w : World) : Prop := if i = 15 then (∃ b, v = .slice (some ⟨b, 0, none⟩) 1 1 ∧ b < w.heap.size ∧ w.cell? ⟨b, 0, none⟩ = some (.int .u8 10)) else v = V i
theorem putR_below {V : Nat → Value} {w w' : World} (hb : Below w.heap.size w w') (j : Nat) (u : Value) (h : PutR V j u w) : PutR V j u w' := by
  unfold PutR at *
  split
  · rename_i hj
    rw [if_pos hj] at h
    obtain ⟨b, h1, h2, h3⟩ := h
    exact ⟨b, h1, Nat.lt_of_lt_of_le h2 hb.size, (hb.cell (p := ⟨b, 0, none⟩) h2).trans h3⟩
  · rename_i hj
    rw [if_neg hj] at h
    exact h
theorem putR_at {V : Nat → Value} {i : Nat} {v : Value} {w : World} (hi : i ≠ 15) (h : PutR V i v w) : v = V i := by
  unfold PutR at h
  rwa [if_neg hi] at h
theorem putR_mk {V : Nat → Value} {i : Nat} {v : Value} {w : World} (hi : i ≠ 15) (h : v = V i) : PutR V i v w := by
  unfold PutR
  rwa [if_neg hi]
theorem slot_eval (a : Act) (t : Nat) : a.tmps[t]?.getD undef = a.eval (.tmp t) := by simp [Act.eval]
theorem wp_val' {P : Program} {o : Oper} {a : Act} {w w' : World} {v : Value} {K : Act → World → Prop} {Q : Exit → Act → World → Prop} (hrun : (execOp a.eval o).run P w = .ok (.value v) w') (hK : K (a.put o.dst v) w') : o.wp P a w K Q := by
  unfold Oper.wp
  rw [hrun]
  exact hK
theorem wp_val {P : Program} {o : Oper} {a : Act} {w : World} {v : Value} {K : Act → World → Prop} {Q : Exit → Act → World → Prop} (hrun : (execOp a.eval o).run P w = .ok (.value v) w) (hK : K (a.put o.dst v) w) : o.wp P a w K Q := by
  unfold Oper.wp
  rw [hrun]
  exact hK
structure PutC (w : World) (gs o : Nat) (x : RefL) (w' : World) : Prop where
  at_ : w'.rangeAt gs o (refC x)
  gs_ : gs < w'.heap.size
  bel : Below w.heap.size w w'
theorem PutC.drew {w : World} {gs o : Nat} {x : RefL} {w' : World} (h : PutC w gs o x w') : PutC w gs o x w'.drew := ⟨h.at_, h.gs_, h.bel.drew⟩
theorem PutC.below {w : World} {gs o : Nat} {x : RefL} {w' w'' : World} (h : PutC w gs o x w') (hb : Below w'.heap.size w' w'') : PutC w gs o x w'' :=
  ⟨rangeAt_below h.at_ h.gs_ hb, Nat.lt_of_lt_of_le h.gs_ hb.size, bthen h.bel h.bel.size hb⟩
set_option maxRecDepth 100000 in
set_option maxHeartbeats 4000000 in
theorem refPut_calls (l : List RefL) (hok : RefsOk l) (hn : ∀ r ∈ l, r.name.length ≤ 40) (hbig : l.length ≤ 64) (v : Value) (w : World) (hv : Refs w v l) :
    Calls Try.prog 16 #[v] w fun e w' => e = .returned (.string (B (putT l))) ∧ Below w.heap.size w w' := by
  have hlen := hv.len
  obtain ⟨A, cap, rfl, hcap1, hcap2, hat⟩ := hv
  go_enter Try.func16, Try.ntmps16
  go_wp2
  go_loopw [3, 4] (fun vs vi wr => ∃ k : Nat, vi = .int .i64 k ∧ k ≤ l.length ∧ vs = .string (B (putT (l.take k))) ∧ Below w.heap.size w wr) (fun _ vi _ => l.length - (intOf vi).toNat)
  case atStart => exact ⟨0, rfl, by omega, rfl, Below.refl _ _⟩
  case round =>
    obtain ⟨k, rfl, hk, rfl, hbel⟩ := hrel
    by_cases hlt : k < l.length
    · have hki : (k : Int) < (l.length : Int) := by omega
      obtain ⟨gs, os, rfl, hgs, hcell⟩ := hat (by omega)
      obtain ⟨x, hx⟩ : ∃ x, l[k]? = some x := ⟨_, List.getElem?_eq_getElem hlt⟩
      have hxok : RefOk x := hok x (List.mem_of_getElem? hx)
      have hx0 := rangeAt_below (hcell k x hx) hgs hbel.drew
      have hgs2 := Nat.lt_of_lt_of_le hgs hbel.size
      have c1 : wr.drew.cell? ⟨gs, os + k * 33, none⟩ = some (.string (B x.name)) := range_name hx0
      have q1 : (ldvI ⟨gs, os + k * 33 + 1, none⟩).run Try.prog wr.drew = .ok (.agg (u8s x.id)) wr.drew := run_ldvI_mid (range_id hx0) hxok.1
      have hxn := hn x (List.mem_of_getElem? hx)
      have hmore := Lib.hid (putT_more hx)
      have htl : (putT (l.take k)).length ≤ 6784 := by
        have := putT_len (l := l.take k) (fun y hy => hok y (List.mem_of_mem_take hy)) (fun y hy => hn y (List.mem_of_mem_take hy))
        have h2 : (l.take k).length ≤ 64 := by rw [List.length_take]; omega
        omega
      have hhl : (hexOf x.id).length = 64 := by rw [hexOf_length, hxok.1]
      have hhl2 := Lib.hid hhl
      have hhex := fun W => Lib.hid (refHex_calls x.id hxok.1 W)
      clear hx hcell hat hhl
      generalize putT (l.take k) = ts at *
      obtain ⟨V, hV⟩ : ∃ V : Nat → Value, V = fun i => [.string (B ts), .slice (some ⟨gs, os, none⟩) l.length cap, .int .i64 k, .pointer (some ⟨gs, os + k * 33, none⟩), .pointer (some ⟨gs, os + k * 33 + 1, none⟩), .agg (u8s x.id), .string (B (hexOf x.id)), .string (B (ts ++ hexOf x.id)), .string (B (ts ++ hexOf x.id ++ [32])),
        .slice (some ⟨gs, os, none⟩) l.length cap, .int .i64 k, .pointer (some ⟨gs, os + k * 33, none⟩), .pointer (some ⟨gs, os + k * 33, none⟩), .string (B x.name), .string (B (ts ++ hexOf x.id ++ [32] ++ x.name)), undef, .string (B [10]), .string (B (ts ++ hexOf x.id ++ [32] ++ x.name ++ [10])), .string (B (ts ++ hexOf x.id ++ [32] ++ x.name ++ [10]))].getD i undef := ⟨_, rfl⟩
      have hC0 : PutC w gs (os + k * 33) x wr := ⟨hx0, hgs2, hbel⟩
      have v0 : V 0 = (.string (B ts)) := by rw [hV]; rfl
      have v1 : V 1 = (.slice (some ⟨gs, os, none⟩) l.length cap) := by rw [hV]; rfl
      have v2 : V 2 = (.int .i64 k) := by rw [hV]; rfl
      have v3 : V 3 = (.pointer (some ⟨gs, os + k * 33, none⟩)) := by rw [hV]; rfl
      have v4 : V 4 = (.pointer (some ⟨gs, os + k * 33 + 1, none⟩)) := by rw [hV]; rfl
      have v5 : V 5 = (.agg (u8s x.id)) := by rw [hV]; rfl
      have v6 : V 6 = (.string (B (hexOf x.id))) := by rw [hV]; rfl
      have v7 : V 7 = (.string (B (ts ++ hexOf x.id))) := by rw [hV]; rfl
      have v8 : V 8 = (.string (B (ts ++ hexOf x.id ++ [32]))) := by rw [hV]; rfl
      have v9 : V 9 = (.slice (some ⟨gs, os, none⟩) l.length cap) := by rw [hV]; rfl
      have v10 : V 10 = (.int .i64 k) := by rw [hV]; rfl
      have v11 : V 11 = (.pointer (some ⟨gs, os + k * 33, none⟩)) := by rw [hV]; rfl
      have v12 : V 12 = (.pointer (some ⟨gs, os + k * 33, none⟩)) := by rw [hV]; rfl
      have v13 : V 13 = (.string (B x.name)) := by rw [hV]; rfl
      have v14 : V 14 = (.string (B (ts ++ hexOf x.id ++ [32] ++ x.name))) := by rw [hV]; rfl
      have v16 : V 16 = (.string (B [10])) := by rw [hV]; rfl
      have v17 : V 17 = (.string (B (ts ++ hexOf x.id ++ [32] ++ x.name ++ [10]))) := by rw [hV]; rfl
      have v18 : V 18 = (.string (B (ts ++ hexOf x.id ++ [32] ++ x.name ++ [10]))) := by rw [hV]; rfl
      clear hV
      go_wp2
      refine wp_region_left (C := fun _ => PutC w gs (os + k * 33) x) (R := PutR V) (by kernel_rfl) (by kernel_rfl) (by kernel_rfl) ?_ hC0.drew ?_ ?_
      · exact sizes_spec (n := 30) (by kernel_rfl)
      · intro i o listed a w1 ho hi hL
        have hin := (ready_spec hi).1
        match i, ho with
        | 0, ho =>
          obtain rfl := (Option.some.inj ho).symm
          have e0 : a.tmps[3]?.getD undef = (.string (B ts)) := (slot_eval a 3).trans (hL.get_old hi (by kernel_rfl))
          have hc := hL.cls
          refine step_wp rfl rfl ?_
          clear hi ho hL hin
          refine wp_val (v := (.string (B ts))) ?_ ⟨_, rfl, putR_mk (by omega) v0.symm, hc, fun _ _ h => h⟩
          clear v0 v1 v2 v3 v4 v5 v6 v7 v8 v9 v10 v11 v12 v13 v14 v16 v17 v18 c1 q1 hc
          unfold execOp
          go_simp
        | 1, ho =>
          obtain rfl := (Option.some.inj ho).symm
          have e0 : a.tmps[0]?.getD undef = (.slice (some ⟨gs, os, none⟩) l.length cap) := (slot_eval a 0).trans (hL.get_old hi (by kernel_rfl))
          have hc := hL.cls
          refine step_wp rfl rfl ?_
          clear hi ho hL hin
          refine wp_val (v := (.slice (some ⟨gs, os, none⟩) l.length cap)) ?_ ⟨_, rfl, putR_mk (by omega) v1.symm, hc, fun _ _ h => h⟩
          clear v0 v1 v2 v3 v4 v5 v6 v7 v8 v9 v10 v11 v12 v13 v14 v16 v17 v18 c1 q1 hc
          unfold execOp
          go_simp
        | 2, ho =>
          obtain rfl := (Option.some.inj ho).symm
          have e0 : a.tmps[4]?.getD undef = (.int .i64 k) := (slot_eval a 4).trans (hL.get_old hi (by kernel_rfl))
          have hc := hL.cls
          refine step_wp rfl rfl ?_
          clear hi ho hL hin
          refine wp_val (v := (.int .i64 k)) ?_ ⟨_, rfl, putR_mk (by omega) v2.symm, hc, fun _ _ h => h⟩
          clear v0 v1 v2 v3 v4 v5 v6 v7 v8 v9 v10 v11 v12 v13 v14 v16 v17 v18 c1 q1 hc
          unfold execOp
          go_simp
        | 3, ho =>
          obtain rfl := (Option.some.inj ho).symm
          have e0 : a.tmps[12]?.getD undef = (.slice (some ⟨gs, os, none⟩) l.length cap) := (slot_eval a 12).trans ((putR_at (by omega) (hL.get_new (j := 1) hi (by kernel_rfl))).trans v1)
          have e1 : a.tmps[13]?.getD undef = (.int .i64 k) := (slot_eval a 13).trans ((putR_at (by omega) (hL.get_new (j := 2) hi (by kernel_rfl))).trans v2)
          have hc := hL.cls
          refine step_wp rfl rfl ?_
          clear hi ho hL hin
          refine wp_val (v := (.pointer (some ⟨gs, os + k * 33, none⟩))) ?_ ⟨_, rfl, putR_mk (by omega) v3.symm, hc, fun _ _ h => h⟩
          clear v0 v1 v2 v3 v4 v5 v6 v7 v8 v9 v10 v11 v12 v13 v14 v16 v17 v18 c1 q1 hc
          unfold execOp
          go_simp
        | 4, ho =>
          obtain rfl := (Option.some.inj ho).symm
          have e0 : a.tmps[14]?.getD undef = (.pointer (some ⟨gs, os + k * 33, none⟩)) := (slot_eval a 14).trans ((putR_at (by omega) (hL.get_new (j := 3) hi (by kernel_rfl))).trans v3)
          have hc := hL.cls
          refine step_wp rfl rfl ?_
          clear hi ho hL hin
          refine wp_val (v := (.pointer (some ⟨gs, os + k * 33 + 1, none⟩))) ?_ ⟨_, rfl, putR_mk (by omega) v4.symm, hc, fun _ _ h => h⟩
          clear v0 v1 v2 v3 v4 v5 v6 v7 v8 v9 v10 v11 v12 v13 v14 v16 v17 v18 c1 q1 hc
          unfold execOp
          go_simp
        | 5, ho =>
          obtain rfl := (Option.some.inj ho).symm
          have e0 : a.tmps[15]?.getD undef = (.pointer (some ⟨gs, os + k * 33 + 1, none⟩)) := (slot_eval a 15).trans ((putR_at (by omega) (hL.get_new (j := 4) hi (by kernel_rfl))).trans v4)
          have hc := hL.cls
          refine step_wp rfl rfl ?_
          clear hi ho hL hin
          refine wp_val (v := (.agg (u8s x.id))) ?_ ⟨_, rfl, putR_mk (by omega) v5.symm, hc, fun _ _ h => h⟩
          have q2 := run_ldvI_mid (range_id hc.at_) hxok.1
          clear v0 v1 v2 v3 v4 v5 v6 v7 v8 v9 v10 v11 v12 v13 v14 v16 v17 v18 c1 q1 hc
          unfold execOp
          go_simp
        | 6, ho =>
          obtain rfl := (Option.some.inj ho).symm
          have e0 : a.tmps[16]?.getD undef = (.agg (u8s x.id)) := (slot_eval a 16).trans ((putR_at (by omega) (hL.get_new (j := 5) hi (by kernel_rfl))).trans v5)
          have hc := hL.cls
          refine step_wp rfl rfl ?_
          clear hi ho hL hin
          have hh := hhex w1
          unfold Oper.wp execOp
          go_simp
          go_at_call 31
          refine hh.out.mono ?_
          rintro e w2 ⟨rfl, hb⟩
          exact ⟨_, rfl, putR_mk (by omega) v6.symm, hc.below hb, putR_below hb⟩
        | 7, ho =>
          obtain rfl := (Option.some.inj ho).symm
          have e0 : a.tmps[11]?.getD undef = (.string (B ts)) := (slot_eval a 11).trans ((putR_at (by omega) (hL.get_new (j := 0) hi (by kernel_rfl))).trans v0)
          have e1 : a.tmps[17]?.getD undef = (.string (B (hexOf x.id))) := (slot_eval a 17).trans ((putR_at (by omega) (hL.get_new (j := 6) hi (by kernel_rfl))).trans v6)
          have hc := hL.cls
          refine step_wp rfl rfl ?_
          clear hi ho hL hin
          refine wp_val (v := (.string (B (ts ++ hexOf x.id)))) ?_ ⟨_, rfl, putR_mk (by omega) v7.symm, hc, fun _ _ h => h⟩
          clear v0 v1 v2 v3 v4 v5 v6 v7 v8 v9 v10 v11 v12 v13 v14 v16 v17 v18 c1 q1 hc
          unfold execOp
          go_simp
          have := hhl2.out
          omega
        | 8, ho =>
          obtain rfl := (Option.some.inj ho).symm
          have e0 : a.tmps[18]?.getD undef = (.string (B (ts ++ hexOf x.id))) := (slot_eval a 18).trans ((putR_at (by omega) (hL.get_new (j := 7) hi (by kernel_rfl))).trans v7)
          have hc := hL.cls
          refine step_wp rfl rfl ?_
          clear hi ho hL hin
          refine wp_val (v := (.string (B (ts ++ hexOf x.id ++ [32])))) ?_ ⟨_, rfl, putR_mk (by omega) v8.symm, hc, fun _ _ h => h⟩
          clear v0 v1 v2 v3 v4 v5 v6 v7 v8 v9 v10 v11 v12 v13 v14 v16 v17 v18 c1 q1 hc
          unfold execOp
          go_simp
          have := hhl2.out
          omega
        | 9, ho =>
          obtain rfl := (Option.some.inj ho).symm
          have e0 : a.tmps[0]?.getD undef = (.slice (some ⟨gs, os, none⟩) l.length cap) := (slot_eval a 0).trans (hL.get_old hi (by kernel_rfl))
          have hc := hL.cls
          refine step_wp rfl rfl ?_
          clear hi ho hL hin
          refine wp_val (v := (.slice (some ⟨gs, os, none⟩) l.length cap)) ?_ ⟨_, rfl, putR_mk (by omega) v9.symm, hc, fun _ _ h => h⟩
          clear v0 v1 v2 v3 v4 v5 v6 v7 v8 v9 v10 v11 v12 v13 v14 v16 v17 v18 c1 q1 hc
          unfold execOp
          go_simp
        | 10, ho =>
          obtain rfl := (Option.some.inj ho).symm
          have e0 : a.tmps[4]?.getD undef = (.int .i64 k) := (slot_eval a 4).trans (hL.get_old hi (by kernel_rfl))
          have hc := hL.cls
          refine step_wp rfl rfl ?_
          clear hi ho hL hin
          refine wp_val (v := (.int .i64 k)) ?_ ⟨_, rfl, putR_mk (by omega) v10.symm, hc, fun _ _ h => h⟩
          clear v0 v1 v2 v3 v4 v5 v6 v7 v8 v9 v10 v11 v12 v13 v14 v16 v17 v18 c1 q1 hc
          unfold execOp
          go_simp
        | 11, ho =>
          obtain rfl := (Option.some.inj ho).symm
          have e0 : a.tmps[20]?.getD undef = (.slice (some ⟨gs, os, none⟩) l.length cap) := (slot_eval a 20).trans ((putR_at (by omega) (hL.get_new (j := 9) hi (by kernel_rfl))).trans v9)
          have e1 : a.tmps[21]?.getD undef = (.int .i64 k) := (slot_eval a 21).trans ((putR_at (by omega) (hL.get_new (j := 10) hi (by kernel_rfl))).trans v10)
          have hc := hL.cls
          refine step_wp rfl rfl ?_
          clear hi ho hL hin
          refine wp_val (v := (.pointer (some ⟨gs, os + k * 33, none⟩))) ?_ ⟨_, rfl, putR_mk (by omega) v11.symm, hc, fun _ _ h => h⟩
          clear v0 v1 v2 v3 v4 v5 v6 v7 v8 v9 v10 v11 v12 v13 v14 v16 v17 v18 c1 q1 hc
          unfold execOp
          go_simp
        | 12, ho =>
          obtain rfl := (Option.some.inj ho).symm
          have e0 : a.tmps[22]?.getD undef = (.pointer (some ⟨gs, os + k * 33, none⟩)) := (slot_eval a 22).trans ((putR_at (by omega) (hL.get_new (j := 11) hi (by kernel_rfl))).trans v11)
          have hc := hL.cls
          refine step_wp rfl rfl ?_
          clear hi ho hL hin
          refine wp_val (v := (.pointer (some ⟨gs, os + k * 33, none⟩))) ?_ ⟨_, rfl, putR_mk (by omega) v12.symm, hc, fun _ _ h => h⟩
          clear v0 v1 v2 v3 v4 v5 v6 v7 v8 v9 v10 v11 v12 v13 v14 v16 v17 v18 c1 q1 hc
          unfold execOp
          go_simp
        | 13, ho =>
          obtain rfl := (Option.some.inj ho).symm
          have e0 : a.tmps[23]?.getD undef = (.pointer (some ⟨gs, os + k * 33, none⟩)) := (slot_eval a 23).trans ((putR_at (by omega) (hL.get_new (j := 12) hi (by kernel_rfl))).trans v12)
          have hc := hL.cls
          refine step_wp rfl rfl ?_
          clear hi ho hL hin
          refine wp_val (v := (.string (B x.name))) ?_ ⟨_, rfl, putR_mk (by omega) v13.symm, hc, fun _ _ h => h⟩
          have q2 := range_name hc.at_
          clear v0 v1 v2 v3 v4 v5 v6 v7 v8 v9 v10 v11 v12 v13 v14 v16 v17 v18 c1 q1 hc
          unfold execOp
          go_simp
        | 14, ho =>
          obtain rfl := (Option.some.inj ho).symm
          have e0 : a.tmps[19]?.getD undef = (.string (B (ts ++ hexOf x.id ++ [32]))) := (slot_eval a 19).trans ((putR_at (by omega) (hL.get_new (j := 8) hi (by kernel_rfl))).trans v8)
          have e1 : a.tmps[24]?.getD undef = (.string (B x.name)) := (slot_eval a 24).trans ((putR_at (by omega) (hL.get_new (j := 13) hi (by kernel_rfl))).trans v13)
          have hc := hL.cls
          refine step_wp rfl rfl ?_
          clear hi ho hL hin
          refine wp_val (v := (.string (B (ts ++ hexOf x.id ++ [32] ++ x.name)))) ?_ ⟨_, rfl, putR_mk (by omega) v14.symm, hc, fun _ _ h => h⟩
          clear v0 v1 v2 v3 v4 v5 v6 v7 v8 v9 v10 v11 v12 v13 v14 v16 v17 v18 c1 q1 hc
          unfold execOp
          go_simp
          have := hhl2.out
          omega
        | 15, ho =>
          obtain rfl := (Option.some.inj ho).symm
          have hc := hL.cls
          refine step_wp rfl rfl ?_
          clear hi ho hL hin
          have hbA : Below w1.heap.size w1 (w1.alloc (.cells #[.int .u8 10] 5)) := (Below.refl _ _).alloc (Nat.le_refl _) _
          refine wp_val' (v := .slice (some ⟨w1.heap.size, 0, none⟩) 1 1) (w' := w1.alloc (.cells #[.int .u8 10] 5)) ?_ ⟨_, rfl, ?_, hc.below hbA, putR_below hbA⟩
          · unfold execOp
            go_simp
          · unfold PutR
            rw [if_pos rfl]
            exact ⟨w1.heap.size, rfl, by rw [size_alloc']; omega, cell_new1 _ _ _⟩
        | 16, ho =>
          obtain rfl := (Option.some.inj ho).symm
          have e0 := hL.get_new (j := 15) (t := 26) hi (by kernel_rfl)
          have hc := hL.cls
          refine step_wp rfl rfl ?_
          clear hi ho hL hin
          unfold PutR at e0
          rw [if_pos rfl] at e0
          obtain ⟨b, e1, hb1, hb2⟩ := e0
          have e1 := (slot_eval a 26).trans e1
          have hcv : (convert 61 9 (.slice (some ⟨b, 0, none⟩) 1 1)).run Try.prog w1 = .ok (.string (B [10])) w1 := by
            rw [run_convert_bytes_arg _ 61 5 Try.underlying61 Try.underlying5 b 0 1 1 [10] rfl (fun i hi => by
              have : i = 0 := by omega
              subst this
              rw [hb2]; rfl) 9 Try.underlying9]
            rfl
          refine wp_val (v := .string (B [10])) ?_ ⟨_, rfl, putR_mk (by omega) v16.symm, hc, fun _ _ h => h⟩
          clear hc c1 q1
          unfold execOp
          go_simp
        | 17, ho =>
          obtain rfl := (Option.some.inj ho).symm
          have e0 : a.tmps[25]?.getD undef = (.string (B (ts ++ hexOf x.id ++ [32] ++ x.name))) := (slot_eval a 25).trans ((putR_at (by omega) (hL.get_new (j := 14) hi (by kernel_rfl))).trans v14)
          have e1 : a.tmps[27]?.getD undef = (.string (B [10])) := (slot_eval a 27).trans ((putR_at (by omega) (hL.get_new (j := 16) hi (by kernel_rfl))).trans v16)
          have hc := hL.cls
          refine step_wp rfl rfl ?_
          clear hi ho hL hin
          refine wp_val (v := (.string (B (ts ++ hexOf x.id ++ [32] ++ x.name ++ [10])))) ?_ ⟨_, rfl, putR_mk (by omega) v17.symm, hc, fun _ _ h => h⟩
          clear v0 v1 v2 v3 v4 v5 v6 v7 v8 v9 v10 v11 v12 v13 v14 v16 v17 v18 c1 q1 hc
          unfold execOp
          go_simp
          have := hhl2.out
          omega
        | 18, ho =>
          obtain rfl := (Option.some.inj ho).symm
          have e0 : a.tmps[28]?.getD undef = (.string (B (ts ++ hexOf x.id ++ [32] ++ x.name ++ [10]))) := (slot_eval a 28).trans ((putR_at (by omega) (hL.get_new (j := 17) hi (by kernel_rfl))).trans v17)
          have hc := hL.cls
          refine step_wp rfl rfl ?_
          clear hi ho hL hin
          refine wp_val (v := (.string (B (ts ++ hexOf x.id ++ [32] ++ x.name ++ [10])))) ?_ ⟨_, rfl, putR_mk (by omega) v18.symm, hc, fun _ _ h => h⟩
          clear v0 v1 v2 v3 v4 v5 v6 v7 v8 v9 v10 v11 v12 v13 v14 v16 v17 v18 c1 q1 hc
          unfold execOp
          go_simp
        | (n + 19), ho => exact absurd hin (by simp)
      · intro a w1 listed hL hall
        have hc := hL.cls
        obtain ⟨vs, rfl, hR⟩ := hL.frame (by kernel_rfl) (sizes_spec (n := 30) (by kernel_rfl)) hall
        have h18 := (putR_at (by omega) (hR 18 _ _ rfl rfl)).trans v18
        simp only [putAll, Act.put, List.setIfInBounds_toArray, List.set_cons_zero, List.set_cons_succ]
        simp only [Nat.zero_add, Nat.reduceAdd]
        rw [h18]
        go_wp2
        go_roundw
        case rel => exact ⟨k + 1, by go_num, by omega, by rw [hmore.out]; simp [lineT], hc.bel⟩
        case measure => simp [intOf]; omega
    · have hki : ¬ (k : Int) < (l.length : Int) := by omega
      have hall : Hid (putT (l.take k) = putT l) := by show _ = _; rw [List.take_of_length_le (by omega)]
      clear hat
      go_wp2
      go_ret
      exact ⟨by rw [← hall.out]; rfl, hbel⟩
end Go.Proofs.Ytlpiefopegjgjaa
