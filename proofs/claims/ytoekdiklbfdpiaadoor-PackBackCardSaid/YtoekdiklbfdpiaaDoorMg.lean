/- Lemmas and walks of this seat, laid together: PkY, PkK, PkZ, PkH, PkL, PkO. -/
import Derived.Test.YtoekdiklbfdpiaaDoorMf
/- The walk of layer 15's law: As. No condition. -/
namespace Go.Proofs.YtoekdiklbfdpiaaDoor
open Go.RowKit
attribute [local go_sem ↓] ldvI_eq
theorem parts4 {a : Act} {i j k m : Nat} {x y z q : Operand} {v u t s : Value} (h : a.eval x = v) (h2 : a.eval y = u) (h3 : a.eval z = t) (h4 : a.eval q = s) : ((#[(i, x), (j, y), (k, z), (m, q)] : Array (Nat × Operand)).map fun (i, x) => (i, a.eval x)).toList = [(i, v), (j, u), (k, t), (m, s)] := by simp [h, h2, h3, h4]
/-- The document's items of ours: they lie nowhere. -/
def asL (l : List PItL) : List Pl := l.map fun x => (x, 0, 0)
theorem asL_fst (l : List PItL) : (asL l).map (·.1) = l := by
  unfold asL
  rw [List.map_map]
  exact (List.map_congr_left (g := id) (fun x _ => rfl)).trans (List.map_id l)
theorem asL_ok {l : List PItL} (h : PitsOk l) : ∀ p ∈ asL l, p.1.base.length = 32 := fun p hp => by
  obtain ⟨x, hx, rfl⟩ := List.mem_map.1 hp
  exact h x hx
set_option maxRecDepth 100000 in
set_option maxHeartbeats 4000000 in
theorem as_calls15 (l : List PItL) (hok : PitsOk l) (hll : l.length ≤ 1000000) (va : Value) (w : World) (ha : Pits w va l) :
    Calls Tryd.prog 9 #[va] w fun e w' => ∃ v, e = .returned v ∧ OwnRits w' w.heap.size v (asL l) ∧ Below w.heap.size w w' := by
  have hla := ha.len
  obtain ⟨A, capa, rfl, ha1, ha2, hata⟩ := ha
  go_enter Tryd.func9, Tryd.ntmps9
  go_wp2
  go_loopw [3, 4] (fun vo i wr => ∃ k : Nat, i = .int .i64 k ∧ k ≤ l.length ∧ wr.ownsRow w.heap.size 45 37 vo k (rowsOf (fun x : PItL => ritC (x, 0, 0)) (l.take k)) ∧ Below w.heap.size w wr) (fun _ i _ => l.length - (intOf i).toNat)
  case atStart => exact ⟨0, rfl, by omega, World.ownsRow_nil _ _ _ _, Below.refl _ _⟩
  case round =>
    obtain ⟨k, rfl, hk, hown, hbel⟩ := hrel
    by_cases hlt : k < l.length
    · have hki : (k : Int) < (l.length : Int) := by omega
      obtain ⟨ga, oa, rfl, hga, hca⟩ := hata (by omega)
      obtain ⟨x, hx⟩ : ∃ x, l[k]? = some x := ⟨_, List.getElem?_eq_getElem hlt⟩
      have hx32 : x.base.length = 32 := hok x (List.mem_of_getElem? hx)
      have hca := hca k x hx
      have hmore : Hid (rowsOf (fun x : PItL => ritC (x, 0, 0)) (l.take k) ++ ritC (x, 0, 0) = rowsOf (fun x : PItL => ritC (x, 0, 0)) (l.take (k + 1))) := by
        show _ = _
        rw [List.take_add_one, hx, rowsOf_append]
        simp [rowsOf]
      have k1 : k + 1 ≤ 9223372036854775807 := by omega
      have k2 : (k + 1) * 80 ≤ 140737488355328 := by omega
      clear hx hata hok
      go_wp2
      have hC0 : ApC w 23 45 37 u3 k (rowsOf (fun x : PItL => ritC (x, 0, 0)) (l.take k)) (Array.replicate 25 false) wr := ⟨hbel, fun _ => hown⟩
      clear hown hbel
      obtain ⟨V, hV⟩ : ∃ V : Nat → Value, V = fun i => [u3, (.slice (some ⟨ga, oa, none⟩) l.length capa), (.int .i64 k), (.pointer (some ⟨ga, oa + k * 35, none⟩)), (.pointer (some ⟨ga, oa + k * 35, none⟩)), (.int .i64 x.kind), (.slice (some ⟨ga, oa, none⟩) l.length capa), (.int .i64 k), (.pointer (some ⟨ga, oa + k * 35, none⟩)), (.pointer (some ⟨ga, oa + k * 35 + 1, none⟩)), (.int .i64 x.back), (.slice (some ⟨ga, oa, none⟩) l.length capa), (.int .i64 k), (.pointer (some ⟨ga, oa + k * 35, none⟩)), (.pointer (some ⟨ga, oa + k * 35 + 2, none⟩)), (.agg (u8s x.base)), (.slice (some ⟨ga, oa, none⟩) l.length capa), (.int .i64 k), (.pointer (some ⟨ga, oa + k * 35, none⟩)), (.pointer (some ⟨ga, oa + k * 35 + 34, none⟩)), (.string (B x.data)), (.agg (ritC (x, 0, 0)).toArray), undef, undef, undef].getD i undef := ⟨_, rfl⟩
      have v0 : V 0 = u3 := by rw [hV]; rfl
      have v1 : V 1 = (.slice (some ⟨ga, oa, none⟩) l.length capa) := by rw [hV]; rfl
      have v2 : V 2 = (.int .i64 k) := by rw [hV]; rfl
      have v3 : V 3 = (.pointer (some ⟨ga, oa + k * 35, none⟩)) := by rw [hV]; rfl
      have v4 : V 4 = (.pointer (some ⟨ga, oa + k * 35, none⟩)) := by rw [hV]; rfl
      have v5 : V 5 = (.int .i64 x.kind) := by rw [hV]; rfl
      have v6 : V 6 = (.slice (some ⟨ga, oa, none⟩) l.length capa) := by rw [hV]; rfl
      have v7 : V 7 = (.int .i64 k) := by rw [hV]; rfl
      have v8 : V 8 = (.pointer (some ⟨ga, oa + k * 35, none⟩)) := by rw [hV]; rfl
      have v9 : V 9 = (.pointer (some ⟨ga, oa + k * 35 + 1, none⟩)) := by rw [hV]; rfl
      have v10 : V 10 = (.int .i64 x.back) := by rw [hV]; rfl
      have v11 : V 11 = (.slice (some ⟨ga, oa, none⟩) l.length capa) := by rw [hV]; rfl
      have v12 : V 12 = (.int .i64 k) := by rw [hV]; rfl
      have v13 : V 13 = (.pointer (some ⟨ga, oa + k * 35, none⟩)) := by rw [hV]; rfl
      have v14 : V 14 = (.pointer (some ⟨ga, oa + k * 35 + 2, none⟩)) := by rw [hV]; rfl
      have v15 : V 15 = (.agg (u8s x.base)) := by rw [hV]; rfl
      have v16 : V 16 = (.slice (some ⟨ga, oa, none⟩) l.length capa) := by rw [hV]; rfl
      have v17 : V 17 = (.int .i64 k) := by rw [hV]; rfl
      have v18 : V 18 = (.pointer (some ⟨ga, oa + k * 35, none⟩)) := by rw [hV]; rfl
      have v19 : V 19 = (.pointer (some ⟨ga, oa + k * 35 + 34, none⟩)) := by rw [hV]; rfl
      have v20 : V 20 = (.string (B x.data)) := by rw [hV]; rfl
      have v21 : V 21 = (.agg (ritC (x, 0, 0)).toArray) := by rw [hV]; rfl
      clear hV
      refine wp_region_listed (C := ApC w 23 45 37 u3 k (rowsOf (fun x : PItL => ritC (x, 0, 0)) (l.take k))) (R := ApR V 22 w.heap.size 45 37 u3 k (rowsOf (fun x : PItL => ritC (x, 0, 0)) (l.take k)) (ritC (x, 0, 0))) (by kernel_rfl) (by kernel_rfl) (by kernel_rfl) ?_ hC0.drew ?_ ?_
      · exact sizes_spec (n := 36) (by kernel_rfl)
      · intro i o listed a w1 ho hi hL
        have hin := (ready_spec hi).1
        have hsz : listed.size = 25 := hL.size
        match i, ho with
        | 0, ho =>
          obtain rfl := (Option.some.inj ho).symm
          have e0 : a.tmps[3]?.getD undef = u3 := (slot_eval a 3).trans (hL.get_old hi (by kernel_rfl))
          have hc := hL.cls
          refine step_wp rfl rfl ?_
          clear ho hL
          refine wp_val (v := u3) ?_ ⟨_, rfl, ApR.mk (by decide) v0.symm, hc.same (by rw [hsz]; decide) (by decide), fun _ _ _ h => h⟩
          clear hi hin hsz v0 v1 v2 v3 v4 v5 v6 v7 v8 v9 v10 v11 v12 v13 v14 v15 v16 v17 v18 v19 v20 v21  hc
          unfold execOp
          go_simp
        | 1, ho =>
          obtain rfl := (Option.some.inj ho).symm
          have e0 : a.tmps[0]?.getD undef = (.slice (some ⟨ga, oa, none⟩) l.length capa) := (slot_eval a 0).trans (hL.get_old hi (by kernel_rfl))
          have hc := hL.cls
          refine step_wp rfl rfl ?_
          clear ho hL
          refine wp_val (v := (.slice (some ⟨ga, oa, none⟩) l.length capa)) ?_ ⟨_, rfl, ApR.mk (by decide) v1.symm, hc.same (by rw [hsz]; decide) (by decide), fun _ _ _ h => h⟩
          clear hi hin hsz v0 v1 v2 v3 v4 v5 v6 v7 v8 v9 v10 v11 v12 v13 v14 v15 v16 v17 v18 v19 v20 v21  hc
          unfold execOp
          go_simp
        | 2, ho =>
          obtain rfl := (Option.some.inj ho).symm
          have e0 : a.tmps[4]?.getD undef = (.int .i64 k) := (slot_eval a 4).trans (hL.get_old hi (by kernel_rfl))
          have hc := hL.cls
          refine step_wp rfl rfl ?_
          clear ho hL
          refine wp_val (v := (.int .i64 k)) ?_ ⟨_, rfl, ApR.mk (by decide) v2.symm, hc.same (by rw [hsz]; decide) (by decide), fun _ _ _ h => h⟩
          clear hi hin hsz v0 v1 v2 v3 v4 v5 v6 v7 v8 v9 v10 v11 v12 v13 v14 v15 v16 v17 v18 v19 v20 v21  hc
          unfold execOp
          go_simp
        | 3, ho =>
          obtain rfl := (Option.some.inj ho).symm
          have e0 : a.tmps[12]?.getD undef = (.slice (some ⟨ga, oa, none⟩) l.length capa) := (slot_eval a 12).trans ((ApR.at_ (hi := by decide) (hL.get_new (j := 1) hi (by kernel_rfl))).trans v1)
          have e1 : a.tmps[13]?.getD undef = (.int .i64 k) := (slot_eval a 13).trans ((ApR.at_ (hi := by decide) (hL.get_new (j := 2) hi (by kernel_rfl))).trans v2)
          have hc := hL.cls
          refine step_wp rfl rfl ?_
          clear ho hL
          refine wp_val (v := (.pointer (some ⟨ga, oa + k * 35, none⟩))) ?_ ⟨_, rfl, ApR.mk (by decide) v3.symm, hc.same (by rw [hsz]; decide) (by decide), fun _ _ _ h => h⟩
          clear hi hin hsz v0 v1 v2 v3 v4 v5 v6 v7 v8 v9 v10 v11 v12 v13 v14 v15 v16 v17 v18 v19 v20 v21  hc
          unfold execOp
          go_simp
        | 4, ho =>
          obtain rfl := (Option.some.inj ho).symm
          have e0 : a.tmps[14]?.getD undef = (.pointer (some ⟨ga, oa + k * 35, none⟩)) := (slot_eval a 14).trans ((ApR.at_ (hi := by decide) (hL.get_new (j := 3) hi (by kernel_rfl))).trans v3)
          have hc := hL.cls
          refine step_wp rfl rfl ?_
          clear ho hL
          refine wp_val (v := (.pointer (some ⟨ga, oa + k * 35, none⟩))) ?_ ⟨_, rfl, ApR.mk (by decide) v4.symm, hc.same (by rw [hsz]; decide) (by decide), fun _ _ _ h => h⟩
          clear hi hin hsz v0 v1 v2 v3 v4 v5 v6 v7 v8 v9 v10 v11 v12 v13 v14 v15 v16 v17 v18 v19 v20 v21  hc
          unfold execOp
          go_simp
        | 5, ho =>
          obtain rfl := (Option.some.inj ho).symm
          have e0 : a.tmps[15]?.getD undef = (.pointer (some ⟨ga, oa + k * 35, none⟩)) := (slot_eval a 15).trans ((ApR.at_ (hi := by decide) (hL.get_new (j := 4) hi (by kernel_rfl))).trans v4)
          have hc := hL.cls
          refine step_wp rfl rfl ?_
          clear ho hL
          refine wp_val (v := (.int .i64 x.kind)) ?_ ⟨_, rfl, ApR.mk (by decide) v5.symm, hc.same (by rw [hsz]; decide) (by decide), fun _ _ _ h => h⟩
          have hrw := rangeAt_below hca hga hc.bel
          have q := pit_kind hrw
          clear hi hin hsz v0 v1 v2 v3 v4 v5 v6 v7 v8 v9 v10 v11 v12 v13 v14 v15 v16 v17 v18 v19 v20 v21  hc
          unfold execOp
          go_simp
        | 6, ho =>
          obtain rfl := (Option.some.inj ho).symm
          have e0 : a.tmps[0]?.getD undef = (.slice (some ⟨ga, oa, none⟩) l.length capa) := (slot_eval a 0).trans (hL.get_old hi (by kernel_rfl))
          have hc := hL.cls
          refine step_wp rfl rfl ?_
          clear ho hL
          refine wp_val (v := (.slice (some ⟨ga, oa, none⟩) l.length capa)) ?_ ⟨_, rfl, ApR.mk (by decide) v6.symm, hc.same (by rw [hsz]; decide) (by decide), fun _ _ _ h => h⟩
          clear hi hin hsz v0 v1 v2 v3 v4 v5 v6 v7 v8 v9 v10 v11 v12 v13 v14 v15 v16 v17 v18 v19 v20 v21  hc
          unfold execOp
          go_simp
        | 7, ho =>
          obtain rfl := (Option.some.inj ho).symm
          have e0 : a.tmps[4]?.getD undef = (.int .i64 k) := (slot_eval a 4).trans (hL.get_old hi (by kernel_rfl))
          have hc := hL.cls
          refine step_wp rfl rfl ?_
          clear ho hL
          refine wp_val (v := (.int .i64 k)) ?_ ⟨_, rfl, ApR.mk (by decide) v7.symm, hc.same (by rw [hsz]; decide) (by decide), fun _ _ _ h => h⟩
          clear hi hin hsz v0 v1 v2 v3 v4 v5 v6 v7 v8 v9 v10 v11 v12 v13 v14 v15 v16 v17 v18 v19 v20 v21  hc
          unfold execOp
          go_simp
        | 8, ho =>
          obtain rfl := (Option.some.inj ho).symm
          have e0 : a.tmps[17]?.getD undef = (.slice (some ⟨ga, oa, none⟩) l.length capa) := (slot_eval a 17).trans ((ApR.at_ (hi := by decide) (hL.get_new (j := 6) hi (by kernel_rfl))).trans v6)
          have e1 : a.tmps[18]?.getD undef = (.int .i64 k) := (slot_eval a 18).trans ((ApR.at_ (hi := by decide) (hL.get_new (j := 7) hi (by kernel_rfl))).trans v7)
          have hc := hL.cls
          refine step_wp rfl rfl ?_
          clear ho hL
          refine wp_val (v := (.pointer (some ⟨ga, oa + k * 35, none⟩))) ?_ ⟨_, rfl, ApR.mk (by decide) v8.symm, hc.same (by rw [hsz]; decide) (by decide), fun _ _ _ h => h⟩
          clear hi hin hsz v0 v1 v2 v3 v4 v5 v6 v7 v8 v9 v10 v11 v12 v13 v14 v15 v16 v17 v18 v19 v20 v21  hc
          unfold execOp
          go_simp
        | 9, ho =>
          obtain rfl := (Option.some.inj ho).symm
          have e0 : a.tmps[19]?.getD undef = (.pointer (some ⟨ga, oa + k * 35, none⟩)) := (slot_eval a 19).trans ((ApR.at_ (hi := by decide) (hL.get_new (j := 8) hi (by kernel_rfl))).trans v8)
          have hc := hL.cls
          refine step_wp rfl rfl ?_
          clear ho hL
          refine wp_val (v := (.pointer (some ⟨ga, oa + k * 35 + 1, none⟩))) ?_ ⟨_, rfl, ApR.mk (by decide) v9.symm, hc.same (by rw [hsz]; decide) (by decide), fun _ _ _ h => h⟩
          clear hi hin hsz v0 v1 v2 v3 v4 v5 v6 v7 v8 v9 v10 v11 v12 v13 v14 v15 v16 v17 v18 v19 v20 v21  hc
          unfold execOp
          go_simp
        | 10, ho =>
          obtain rfl := (Option.some.inj ho).symm
          have e0 : a.tmps[20]?.getD undef = (.pointer (some ⟨ga, oa + k * 35 + 1, none⟩)) := (slot_eval a 20).trans ((ApR.at_ (hi := by decide) (hL.get_new (j := 9) hi (by kernel_rfl))).trans v9)
          have hc := hL.cls
          refine step_wp rfl rfl ?_
          clear ho hL
          refine wp_val (v := (.int .i64 x.back)) ?_ ⟨_, rfl, ApR.mk (by decide) v10.symm, hc.same (by rw [hsz]; decide) (by decide), fun _ _ _ h => h⟩
          have hrw := rangeAt_below hca hga hc.bel
          have q := pit_back hrw
          clear hi hin hsz v0 v1 v2 v3 v4 v5 v6 v7 v8 v9 v10 v11 v12 v13 v14 v15 v16 v17 v18 v19 v20 v21  hc
          unfold execOp
          go_simp
        | 11, ho =>
          obtain rfl := (Option.some.inj ho).symm
          have e0 : a.tmps[0]?.getD undef = (.slice (some ⟨ga, oa, none⟩) l.length capa) := (slot_eval a 0).trans (hL.get_old hi (by kernel_rfl))
          have hc := hL.cls
          refine step_wp rfl rfl ?_
          clear ho hL
          refine wp_val (v := (.slice (some ⟨ga, oa, none⟩) l.length capa)) ?_ ⟨_, rfl, ApR.mk (by decide) v11.symm, hc.same (by rw [hsz]; decide) (by decide), fun _ _ _ h => h⟩
          clear hi hin hsz v0 v1 v2 v3 v4 v5 v6 v7 v8 v9 v10 v11 v12 v13 v14 v15 v16 v17 v18 v19 v20 v21  hc
          unfold execOp
          go_simp
        | 12, ho =>
          obtain rfl := (Option.some.inj ho).symm
          have e0 : a.tmps[4]?.getD undef = (.int .i64 k) := (slot_eval a 4).trans (hL.get_old hi (by kernel_rfl))
          have hc := hL.cls
          refine step_wp rfl rfl ?_
          clear ho hL
          refine wp_val (v := (.int .i64 k)) ?_ ⟨_, rfl, ApR.mk (by decide) v12.symm, hc.same (by rw [hsz]; decide) (by decide), fun _ _ _ h => h⟩
          clear hi hin hsz v0 v1 v2 v3 v4 v5 v6 v7 v8 v9 v10 v11 v12 v13 v14 v15 v16 v17 v18 v19 v20 v21  hc
          unfold execOp
          go_simp
        | 13, ho =>
          obtain rfl := (Option.some.inj ho).symm
          have e0 : a.tmps[22]?.getD undef = (.slice (some ⟨ga, oa, none⟩) l.length capa) := (slot_eval a 22).trans ((ApR.at_ (hi := by decide) (hL.get_new (j := 11) hi (by kernel_rfl))).trans v11)
          have e1 : a.tmps[23]?.getD undef = (.int .i64 k) := (slot_eval a 23).trans ((ApR.at_ (hi := by decide) (hL.get_new (j := 12) hi (by kernel_rfl))).trans v12)
          have hc := hL.cls
          refine step_wp rfl rfl ?_
          clear ho hL
          refine wp_val (v := (.pointer (some ⟨ga, oa + k * 35, none⟩))) ?_ ⟨_, rfl, ApR.mk (by decide) v13.symm, hc.same (by rw [hsz]; decide) (by decide), fun _ _ _ h => h⟩
          clear hi hin hsz v0 v1 v2 v3 v4 v5 v6 v7 v8 v9 v10 v11 v12 v13 v14 v15 v16 v17 v18 v19 v20 v21  hc
          unfold execOp
          go_simp
        | 14, ho =>
          obtain rfl := (Option.some.inj ho).symm
          have e0 : a.tmps[24]?.getD undef = (.pointer (some ⟨ga, oa + k * 35, none⟩)) := (slot_eval a 24).trans ((ApR.at_ (hi := by decide) (hL.get_new (j := 13) hi (by kernel_rfl))).trans v13)
          have hc := hL.cls
          refine step_wp rfl rfl ?_
          clear ho hL
          refine wp_val (v := (.pointer (some ⟨ga, oa + k * 35 + 2, none⟩))) ?_ ⟨_, rfl, ApR.mk (by decide) v14.symm, hc.same (by rw [hsz]; decide) (by decide), fun _ _ _ h => h⟩
          clear hi hin hsz v0 v1 v2 v3 v4 v5 v6 v7 v8 v9 v10 v11 v12 v13 v14 v15 v16 v17 v18 v19 v20 v21  hc
          unfold execOp
          go_simp
        | 15, ho =>
          obtain rfl := (Option.some.inj ho).symm
          have e0 : a.tmps[25]?.getD undef = (.pointer (some ⟨ga, oa + k * 35 + 2, none⟩)) := (slot_eval a 25).trans ((ApR.at_ (hi := by decide) (hL.get_new (j := 14) hi (by kernel_rfl))).trans v14)
          have hc := hL.cls
          refine step_wp rfl rfl ?_
          clear ho hL
          refine wp_val (v := (.agg (u8s x.base))) ?_ ⟨_, rfl, ApR.mk (by decide) v15.symm, hc.same (by rw [hsz]; decide) (by decide), fun _ _ _ h => h⟩
          have hrw := rangeAt_below hca hga hc.bel
          have q := run_ldvI15 (pit_base hrw) hx32
          clear hi hin hsz v0 v1 v2 v3 v4 v5 v6 v7 v8 v9 v10 v11 v12 v13 v14 v15 v16 v17 v18 v19 v20 v21  hc
          unfold execOp
          go_simp
        | 16, ho =>
          obtain rfl := (Option.some.inj ho).symm
          have e0 : a.tmps[0]?.getD undef = (.slice (some ⟨ga, oa, none⟩) l.length capa) := (slot_eval a 0).trans (hL.get_old hi (by kernel_rfl))
          have hc := hL.cls
          refine step_wp rfl rfl ?_
          clear ho hL
          refine wp_val (v := (.slice (some ⟨ga, oa, none⟩) l.length capa)) ?_ ⟨_, rfl, ApR.mk (by decide) v16.symm, hc.same (by rw [hsz]; decide) (by decide), fun _ _ _ h => h⟩
          clear hi hin hsz v0 v1 v2 v3 v4 v5 v6 v7 v8 v9 v10 v11 v12 v13 v14 v15 v16 v17 v18 v19 v20 v21  hc
          unfold execOp
          go_simp
        | 17, ho =>
          obtain rfl := (Option.some.inj ho).symm
          have e0 : a.tmps[4]?.getD undef = (.int .i64 k) := (slot_eval a 4).trans (hL.get_old hi (by kernel_rfl))
          have hc := hL.cls
          refine step_wp rfl rfl ?_
          clear ho hL
          refine wp_val (v := (.int .i64 k)) ?_ ⟨_, rfl, ApR.mk (by decide) v17.symm, hc.same (by rw [hsz]; decide) (by decide), fun _ _ _ h => h⟩
          clear hi hin hsz v0 v1 v2 v3 v4 v5 v6 v7 v8 v9 v10 v11 v12 v13 v14 v15 v16 v17 v18 v19 v20 v21  hc
          unfold execOp
          go_simp
        | 18, ho =>
          obtain rfl := (Option.some.inj ho).symm
          have e0 : a.tmps[27]?.getD undef = (.slice (some ⟨ga, oa, none⟩) l.length capa) := (slot_eval a 27).trans ((ApR.at_ (hi := by decide) (hL.get_new (j := 16) hi (by kernel_rfl))).trans v16)
          have e1 : a.tmps[28]?.getD undef = (.int .i64 k) := (slot_eval a 28).trans ((ApR.at_ (hi := by decide) (hL.get_new (j := 17) hi (by kernel_rfl))).trans v17)
          have hc := hL.cls
          refine step_wp rfl rfl ?_
          clear ho hL
          refine wp_val (v := (.pointer (some ⟨ga, oa + k * 35, none⟩))) ?_ ⟨_, rfl, ApR.mk (by decide) v18.symm, hc.same (by rw [hsz]; decide) (by decide), fun _ _ _ h => h⟩
          clear hi hin hsz v0 v1 v2 v3 v4 v5 v6 v7 v8 v9 v10 v11 v12 v13 v14 v15 v16 v17 v18 v19 v20 v21  hc
          unfold execOp
          go_simp
        | 19, ho =>
          obtain rfl := (Option.some.inj ho).symm
          have e0 : a.tmps[29]?.getD undef = (.pointer (some ⟨ga, oa + k * 35, none⟩)) := (slot_eval a 29).trans ((ApR.at_ (hi := by decide) (hL.get_new (j := 18) hi (by kernel_rfl))).trans v18)
          have hc := hL.cls
          refine step_wp rfl rfl ?_
          clear ho hL
          refine wp_val (v := (.pointer (some ⟨ga, oa + k * 35 + 34, none⟩))) ?_ ⟨_, rfl, ApR.mk (by decide) v19.symm, hc.same (by rw [hsz]; decide) (by decide), fun _ _ _ h => h⟩
          clear hi hin hsz v0 v1 v2 v3 v4 v5 v6 v7 v8 v9 v10 v11 v12 v13 v14 v15 v16 v17 v18 v19 v20 v21  hc
          unfold execOp
          go_simp
        | 20, ho =>
          obtain rfl := (Option.some.inj ho).symm
          have e0 : a.tmps[30]?.getD undef = (.pointer (some ⟨ga, oa + k * 35 + 34, none⟩)) := (slot_eval a 30).trans ((ApR.at_ (hi := by decide) (hL.get_new (j := 19) hi (by kernel_rfl))).trans v19)
          have hc := hL.cls
          refine step_wp rfl rfl ?_
          clear ho hL
          refine wp_val (v := (.string (B x.data))) ?_ ⟨_, rfl, ApR.mk (by decide) v20.symm, hc.same (by rw [hsz]; decide) (by decide), fun _ _ _ h => h⟩
          have hrw := rangeAt_below hca hga hc.bel
          have q := pit_data hx32 hrw
          clear hi hin hsz v0 v1 v2 v3 v4 v5 v6 v7 v8 v9 v10 v11 v12 v13 v14 v15 v16 v17 v18 v19 v20 v21  hc
          unfold execOp
          go_simp
        | 21, ho =>
          obtain rfl := (Option.some.inj ho).symm
          have e0 : a.tmps[16]?.getD undef = (.int .i64 x.kind) := (slot_eval a 16).trans ((ApR.at_ (hi := by decide) (hL.get_new (j := 5) hi (by kernel_rfl))).trans v5)
          have e1 : a.tmps[21]?.getD undef = (.int .i64 x.back) := (slot_eval a 21).trans ((ApR.at_ (hi := by decide) (hL.get_new (j := 10) hi (by kernel_rfl))).trans v10)
          have e2 : a.tmps[26]?.getD undef = (.agg (u8s x.base)) := (slot_eval a 26).trans ((ApR.at_ (hi := by decide) (hL.get_new (j := 15) hi (by kernel_rfl))).trans v15)
          have e3 : a.tmps[31]?.getD undef = (.string (B x.data)) := (slot_eval a 31).trans ((ApR.at_ (hi := by decide) (hL.get_new (j := 20) hi (by kernel_rfl))).trans v20)
          have hc := hL.cls
          refine step_wp rfl rfl ?_
          clear ho hL
          refine build_step rfl (built_rit x hx32) (parts4 (slot_is e0) (slot_is e1) (slot_is e2) (slot_is e3)) ⟨_, rfl, ApR.mk (by decide) v21.symm, hc.same (by rw [hsz]; decide) (by decide), fun _ _ _ h => h⟩
        | 22, ho =>
          obtain rfl := (Option.some.inj ho).symm
          have e0 : a.tmps[32]?.getD undef = (.agg (ritC (x, 0, 0)).toArray) := (slot_eval a 32).trans ((ApR.at_ (hi := by decide) (hL.get_new (j := 21) hi (by kernel_rfl))).trans v21)
          have hc := hL.cls
          have hla := hL.later (j := 23) hi (by kernel_rfl)
          clear ho hL
          refine step_wp rfl rfl ?_
          refine slice_step rfl Tryd.ritTy (by decide) (ritC_len hx32) (.inl (slot_is e0)) ⟨_, rfl, ApR.lit (Blk.new _ _ _) (hc.fresh hla), (hc.same (by rw [hsz]; decide) (by decide)).alloc _, fun j u _ h => h.alloc _⟩
        | 23, ho =>
          obtain rfl := (Option.some.inj ho).symm
          have e0 : a.tmps[11]?.getD undef = u3 := (slot_eval a 11).trans ((ApR.at_ (hi := by decide) (hL.get_new (j := 0) hi (by kernel_rfl))).trans v0)
          have e1 := hL.get_new (j := 22) (t := 33) hi (by kernel_rfl)
          have hc := hL.cls
          have hla : listed.getD 23 false = false := by rw [getD_of_size (by rw [hsz]; exact hin)]; exact (ready_spec hi).2.1
          have hlb := hL.later (j := 24) hi (by kernel_rfl)
          obtain ⟨b5, h5, hb5, hne5⟩ := ApR.litAt e1
          clear ho hL
          refine step_wp rfl rfl ?_
          refine wp_append_blk (.tmp 11) (.tmp 33) _ rfl _ _ 37 80 Tryd.ritTy w.heap.size u3 k (rowsOf (fun x : PItL => ritC (x, 0, 0)) (l.take k)) (slot_is e0) (hc.own hla) b5 1 1 _ _ h5 hb5 (ritC_size hx32) (by intro u hu; rw [List.toList_toArray] at hu; exact ritC_one _ u hu) k1 k2 w hc.bel hc.bel.size ?_
          intro v6 w6 hown6 hbel6 hg6
          refine ⟨_, rfl, ApR.own (by decide) hown6, hc.grown (by rw [hsz]; decide) hbel6, fun j u hj h => ApR.append ?_ h hg6⟩
          intro hj6
          have : j = 23 ∨ j = 24 ∨ 25 ≤ j := by omega
          rcases this with rfl | rfl | h8
          · rw [hla] at hj; cases hj
          · rw [hlb] at hj; cases hj
          · simp [Array.getD, hsz, show ¬ j < 25 by omega] at hj
        | 24, ho =>
          obtain rfl := (Option.some.inj ho).symm
          have e0 := hL.get_new (j := 23) (t := 34) hi (by kernel_rfl)
          have hc := hL.cls
          clear ho hL
          refine step_wp rfl rfl ?_
          have e1 : a.tmps[34]?.getD undef = a.eval (.tmp 34) := slot_eval a 34
          generalize a.eval (.tmp 34) = vz at e0 e1
          refine wp_val (v := vz) ?_ ⟨_, rfl, ApR.own (by decide) (ApR.ownAt (by decide) e0), hc.same (by rw [hsz]; decide) (by decide), fun _ _ _ h => h⟩
          clear hc hi hin hsz v0 v1 v2 v3 v4 v5 v6 v7 v8 v9 v10 v11 v12 v13 v14 v15 v16 v17 v18 v19 v20 v21 e0
          unfold execOp
          go_simp
        | (n + 25), ho => exact absurd hin (by simp)
      · intro a w1 listed hL hall
        have hc := hL.cls
        obtain ⟨vs, rfl, hR⟩ := hL.frame (by kernel_rfl) (sizes_spec (n := 36) (by kernel_rfl)) hall
        simp only [putAll, Act.put, List.setIfInBounds_toArray, List.set_cons_zero, List.set_cons_succ]
        simp only [Nat.zero_add, Nat.reduceAdd]
        have hend := ApR.ownAt (by decide) (hR 24 _ 3 rfl rfl)
        have hbel5 := hc.bel
        generalize vs 24 = v7 at hend
        clear hR hc hL
        rw [hmore.out] at hend
        go_wp2
        go_roundw
        case rel => exact ⟨k + 1, by go_num, by omega, hend, hbel5⟩
        case measure => simp [intOf]; omega
    · have hki : ¬ (k : Int) < (l.length : Int) := by omega
      obtain rfl : k = l.length := by omega
      rw [List.take_length] at hown
      go_wp2
      go_ret
      refine ⟨_, rfl, ?_, hbel⟩
      unfold OwnRits asL
      rw [rowsOf_map, List.length_map]
      exact hown
end Go.Proofs.YtoekdiklbfdpiaaDoor
/- The walks of layer 15's law: knows, few. Condition: the table of constants is as the program lays it. -/
namespace Go.Proofs.YtoekdiklbfdpiaaDoor
open Go.RowKit
attribute [local go_sem ↓] ldvI_eq
def kn6 : Txt := [75, 78, 65, 80, 1, 0]
theorem kn_enc (e : Ending) (h : EncR [] e) : e = .returned (.tuple #[.string (B (kn6 ++ shaOf kn6)), .int .i64 0]) := by
  have hf : fineP [] = true := rfl
  unfold EncR at h
  rw [if_pos hf] at h
  obtain ⟨s, ⟨t, ht, hs⟩, he⟩ := h
  obtain rfl : t = [] := ht
  have h6 : pk5 ++ put ([] : List PItL).length ++ [] = kn6 := by rfl
  rw [h6] at hs
  have hl : ¬ 262144 < s.length := by rw [hs, List.length_append, shaOf_length]; decide
  rw [if_neg hl, hs] at he
  exact he
theorem kn_dec : decP [75, 78, 65, 80] = ([], 2) := by
  unfold decP openP
  rfl
set_option maxRecDepth 100000 in
set_option maxHeartbeats 4000000 in
theorem knows_calls15 (w : World) (hK : TabK w) : Calls Tryd.prog 7 #[] w fun e w' => e = .returned (.bool true) ∧ Below w.heap.size w w' := by
  have he := Lib.hid ((encode_calls15 [] (fun x hx => by simp at hx) (.slice none 0 0) w hK SliceAt.nil).mono fun e w' h => (⟨kn_enc e h.1, h.2⟩ : e = .returned (.tuple #[.string (B (kn6 ++ shaOf kn6)), .int .i64 0]) ∧ Below w.heap.size w w'))
  have hd := fun W (hb : Below w.heap.size w W) => packDecode_calls [75, 78, 65, 80] (by decide) W (hK.below hb)
  rw [kn_dec] at hd
  have hd : ∀ W, Below w.heap.size w W → Calls Tryd.prog 10 #[.string ⟨#[75, 78, 65, 80]⟩] W fun e w' => ∃ v, e = .returned (.tuple #[v, .int .i64 2]) ∧ OwnPits w' W.heap.size v [] ∧ Below W.heap.size W w' := hd
  have hsum := fun W => refSum_calls kn6 W (by decide)
  have hl32 := shaOf_length kn6
  have hsI := sz32
  have hD32 : (u8s (shaOf kn6)).size = 32 := by rw [u8s_size, hl32]
  have hDone := u8s_one (shaOf kn6)
  have hstr := fun (W : World) (g : Nat) (h : Blk W g 36 (u8s (shaOf kn6))) => by
    have := str_of_blk W h
    rw [hl32] at this
    exact this
  have hzI : ∀ W : World, (zeroValue 36).run Tryd.prog W = .ok (.agg (u8s noId')) W := fun W => by
    have h : (Tryd.prog.info? 36).map (·.zero) = some (some (.agg (u8s noId'))) := by kernel_rfl
    obtain ⟨i, h1, h2⟩ := Option.map_eq_some_iff.1 h
    simp [zeroValue, typeInfo, h1, h2]
  have hzl : (u8s noId').size = 32 := by rw [u8s_size, noId_len']
  generalize shaOf kn6 = SH at *
  generalize u8s noId' = ZI at *
  obtain ⟨ZS, hZS⟩ : ∃ ZS, kn6 ++ SH = ZS := ⟨_, rfl⟩
  rw [hZS] at he
  have hZS2 : (75 :: 78 :: 65 :: 80 :: 1 :: 0 :: SH : List UInt8) = ZS := hZS
  have hk6 : kn6 = [75, 78, 65, 80, 1, 0] := rfl
  rw [hk6] at hsum
  have hsum : ∀ W, Calls Tryd.prog 13 #[.string ⟨#[75, 78, 65, 80, 1, 0]⟩] W fun e w' => e = .returned (.agg (u8s SH)) ∧ Below W.heap.size W w' := hsum
  clear hZS hk6
  go_enter Tryd.func7, Tryd.ntmps7
  go_wp2_with (first
    | ((with_reducible refine he.out.mono ?_); rintro e w1 ⟨rfl, b1⟩)
    | ((with_reducible refine (hd _ b1).mono ?_); rintro e w2 ⟨v, rfl, o2, b2⟩
       have bb2 := bthen b1 b1.size b2)
    | ((with_reducible refine (hsum _).mono ?_); rintro e w3 ⟨rfl, b3⟩
       have bb3 := bthen bb2 bb2.size b3)
    | ((with_reducible refine lit_new 36 (.tmp 5) (.tmp 14) (u8s SH) 32 hsI hD32 hDone _ ?_ ?_ ?_ ?_)
       · first | exact hzl | rfl
       · rfl
       · rfl
       intro W4 hb4 hbl4
       have bb4 := bthen bb3 bb3.size hbl4
       have hcv := hstr W4 w3.heap.size hb4))
  all_goals try (exfalso; omega)
  go_ret
  exact ⟨rfl, bb4⟩
def Few15 (l : List PItL) (e : Ending) : Prop := ∃ b, e = .returned (.bool b) ∧ (b = true → l.length ≤ 20 ∧ ∀ x ∈ l, x.data.length ≤ 5000)
set_option maxRecDepth 100000 in
set_option maxHeartbeats 4000000 in
theorem few_calls15 (l : List PItL) (hok : PitsOk l) (va : Value) (w : World) (ha : Pits w va l) : Calls Tryd.prog 6 #[va] w fun e w' => Few15 l e ∧ Below w.heap.size w w' := by
  have hla := ha.len
  obtain ⟨A, capa, rfl, ha1, ha2, hata⟩ := ha
  go_enter Tryd.func6, Tryd.ntmps6
  go_wp2
  go_loopw [3] (fun i wr => ∃ k : Nat, i = .int .i64 k ∧ k ≤ l.length ∧ k ≤ 20 ∧ (∀ j x, j < k → l[j]? = some x → x.data.length ≤ 5000) ∧ Below w.heap.size w wr) (fun i _ => l.length - (intOf i).toNat)
  case atStart => exact ⟨0, rfl, by omega, by omega, fun j x hj => by omega, Below.refl _ _⟩
  case round =>
    obtain ⟨k, rfl, hk, hk20, hall, hbel⟩ := hrel
    by_cases hlt : k < l.length
    · have hki : (k : Int) < (l.length : Int) := by omega
      by_cases h20 : k < 20
      · have hk2 : (k : Int) < 20 := by omega
        obtain ⟨ga, oa, rfl, hga, hca⟩ := hata (by omega)
        obtain ⟨x, hx⟩ : ∃ x, l[k]? = some x := ⟨_, List.getElem?_eq_getElem hlt⟩
        have hx32 : x.base.length = 32 := hok x (List.mem_of_getElem? hx)
        have q3 := pit_data hx32 (rangeAt_below (hca k x hx) hga hbel)
        by_cases hd : x.data.length ≤ 5000
        · have d1 : ¬ (5000 : Int) < (x.data.length : Int) := by omega
          have hall2 : ∀ j y, j < k + 1 → l[j]? = some y → y.data.length ≤ 5000 := fun j y hj hy => by
            by_cases e : j = k
            · subst e
              rw [hx] at hy
              injection hy with hy
              rw [← hy]; exact hd
            · exact hall j y (by omega) hy
          clear hx hata hca hd hall
          go_wp2
          all_goals try (exfalso; omega)
          go_roundw
          case rel => exact ⟨k + 1, by go_num, by omega, by omega, hall2, hbel⟩
          case measure => simp [intOf]; omega
        · have d1 : (5000 : Int) < (x.data.length : Int) := by omega
          clear hx hata hca hd hall
          go_wp2
          all_goals try (exfalso; omega)
          go_ret
          exact ⟨⟨false, rfl, fun h => by cases h⟩, hbel⟩
      · have hk2 : ¬ (k : Int) < 20 := by omega
        have hno : ¬ (l.length : Int) ≤ 20 := by omega
        go_wp2
        all_goals try (exfalso; omega)
        go_ret
        exact ⟨⟨_, rfl, fun h => by simp at h⟩, hbel⟩
    · have hki : ¬ (k : Int) < (l.length : Int) := by omega
      have h20 : (l.length : Int) ≤ 20 := by omega
      go_wp2
      all_goals try (exfalso; omega)
      go_ret
      refine ⟨⟨_, rfl, fun _ => ⟨by omega, fun x hx => ?_⟩⟩, hbel⟩
      obtain ⟨j, hj, rfl⟩ := List.getElem_of_mem hx
      exact hall j _ (by omega) (List.getElem?_eq_getElem hj)
end Go.Proofs.YtoekdiklbfdpiaaDoor
/- The walk of layer 15's law: PackDecodes. Condition: the table of constants is as the program lays it. -/
namespace Go.Proofs.YtoekdiklbfdpiaaDoor
open Go.RowKit
attribute [local go_sem ↓] ldvI_eq
theorem readP_count (E : Nat) : ∀ (n i : Nat) (rest : Txt) (acc : List Pl), (readP E n i rest acc).1.length ≤ acc.length + n
  | 0, i, rest, acc => by
    rw [readP]
    split <;> simp
  | n + 1, i, rest, acc => by
    rw [readP]
    split
    · exact Nat.zero_le _
    · refine Nat.le_trans (readP_count E n _ _ _) ?_
      rw [List.length_append]
      simp only [List.length_cons, List.length_nil]
      omega
theorem decP_few (s : Txt) : (decP s).1.length ≤ 400 := by
  unfold decP
  split
  · simp
  · rename_i n r h
    have := readP_count (s.length - 32) n 0 r []
    have := (openP_ok h).1
    simp only [List.length_nil] at *
    omega
theorem decP_items (s : Txt) : ∀ p ∈ (decP s).1, p.1.base.length = 32 := by
  unfold decP
  split
  · intro p hp; simp at hp
  · exact readP_items _ _ _ _ _ (fun p hp => by simp at hp)
/-- What lies there while places and items are looked at. -/
structure PlC (w : World) (ga oa gb ob : Nat) (x : Pl) (w' : World) : Prop where
  a_ : w'.rangeAt ga oa (plC x)
  b_ : w'.rangeAt gb ob (ritC x)
  bel : Below w.heap.size w w'
theorem PlC.drew {w : World} {ga oa gb ob : Nat} {x : Pl} {w' : World} (h : PlC w ga oa gb ob x w') : PlC w ga oa gb ob x w'.drew := ⟨h.a_, h.b_, h.bel.drew⟩
set_option maxRecDepth 100000 in
set_option maxHeartbeats 8000000 in
theorem packDecodes_calls (s : Txt) (hs : s.length ≤ 9223372036854775807) (seal_ : Bool) (w : World) (hK : TabK w) : Calls Tryd.prog 4 #[.string (B s), .bool seal_] w fun e w' => e = .returned (.bool true) ∧ Below w.heap.size w w' := by
  have hkn := fun W (hb : Below w.heap.size w W) => Lib.hid (knows_calls15 W (hK.below hb))
  by_cases h500 : s.length ≤ 500
  · have i1 : ¬ (500 : Int) < (s.length : Int) := by omega
    cases seal_
    · obtain ⟨S, hS⟩ : ∃ S, s = S := ⟨_, rfl⟩
      subst hS
      have hsl : s.length ≤ 1000 := by omega
      have hdc := fun W (hb : Below w.heap.size w W) => packDecode_calls s (by omega) W (hK.below hb)
      have hpc := fun W (hb : Below w.heap.size w W) => packPlaces_calls s (by omega) W (hK.below hb)
      have hrc := fun W => refDecode_calls s (by omega) W
      have hfew := decP_few s
      have hit := decP_items s
      obtain ⟨⟨X, xe⟩, hX⟩ : ∃ X, decP s = X := ⟨_, rfl⟩
      rw [hX] at hdc hpc hrc hfew hit
      simp only at hdc hpc hrc hfew hit
      clear hX
      have hokX : PitsOk (X.map (·.1)) := fun x hx => by
        obtain ⟨p, hp, rfl⟩ := List.mem_map.1 hx
        exact hit p hp
      have has := fun v W (h : Pits W v (X.map (·.1))) => as_calls15 (X.map (·.1)) hokX (by rw [List.length_map]; omega) v W h
      have hsm := fun v1 v2 W (h1 : Rits W v1 (asL (X.map (·.1)))) (h2 : Rits W v2 X) => same_calls15 (asL (X.map (·.1))) X (asL_fst _) (asL_ok hokX) v1 v2 W h1 h2
      go_enter Tryd.func4, Tryd.ntmps4
      go_wp2_with (first
        | ((with_reducible refine (hdc _ (Below.refl _ _)).mono ?_); rintro e w5 ⟨v5, rfl, o5, b5⟩
           have bb5 := bthen (Below.refl _ _) (Nat.le_refl _) b5
           have p5 := OwnPits.pits hit o5)
        | ((with_reducible refine (hpc _ bb5).mono ?_); rintro e w6 ⟨v6, rfl, o6, b6⟩
           have bb6 := bthen bb5 bb5.size b6
           have q6 := OwnPls.pls o6
           have p6 := p5.below b6)
        | ((with_reducible refine (hrc _).mono ?_); rintro e w7 ⟨v7, rfl, o7, b7⟩
           have bb7 := bthen bb6 bb6.size b7
           have q7 := q6.below b7
           have p7 := p6.below b7
           have r7 := OwnRits.rits hit o7)
        | ((with_reducible refine (has _ _ p7).mono ?_); rintro e w8 ⟨v8, rfl, o8, b8⟩
           have bb8 := bthen bb7 bb7.size b8
           have q8 := q7.below b8
           have r8 := r7.below b8
           have s8 := OwnRits.rits (asL_ok hokX) o8
           obtain ⟨A6, k6, e6⟩ := own_form' o6
           obtain ⟨A7, k7, e7⟩ := own_form' o7
           subst e6 e7)
        | ((with_reducible refine (hsm _ _ _ s8 r8).mono ?_); rintro e w9 ⟨rfl, b9⟩
           have bb9 := bthen bb8 bb8.size b9
           have q9 := q8.below b9
           have r9 := r8.below b9))
      all_goals try (exfalso; omega)
      clear o5 o6 o7 o8 p5 p6 p7 q6 q7 q8 r7 r8 s8 b5 b6 b7 b8 b9 bb5 bb6 bb7 bb8 hdc hpc hrc has hsm
      obtain ⟨_, _, e1, ha1, ha2, hata⟩ := q9
      obtain ⟨_, _, e2, hb1, hb2, hatb⟩ := r9
      cases e1
      cases e2
      obtain ⟨W9, hW9⟩ : ∃ W, w9 = W := ⟨_, rfl⟩
      go_loopw [13] (fun i wr => ∃ k : Nat, i = .int .i64 k ∧ k ≤ X.length ∧ Below W9.heap.size W9 wr) (fun i _ => X.length - (intOf i).toNat)
      case atStart => exact ⟨0, rfl, by omega, by rw [hW9]; exact Below.refl _ _⟩
      case round =>
        obtain ⟨k, rfl, hk, hbel⟩ := hrel
        have bbr := bthen (hW9 ▸ bb9) (hW9 ▸ bb9).size hbel
        by_cases hlt : k < X.length
        · have hki : (k : Int) < (X.length : Int) := by omega
          obtain ⟨ga, oa, rfl, hga, hca⟩ := hata (by omega)
          obtain ⟨gb, ob, rfl, hgb, hcb⟩ := hatb (by omega)
          obtain ⟨x, hx⟩ : ∃ x, X[k]? = some x := ⟨_, List.getElem?_eq_getElem hlt⟩
          have hx32 : x.1.base.length = 32 := hit _ (List.mem_of_getElem? hx)
          subst hW9
          have hS : PlC w9 ga (oa + k * 2) gb (ob + k * 37) x wr := ⟨rangeAt_below (hca k x hx) hga hbel, rangeAt_below (hcb k x hx) hgb hbel, hbel⟩
          clear hx hata hatb hca hcb hbel hit bbr
          go_wp2
          refine wp_region_class (C := PlC w9 ga (oa + k * 2) gb (ob + k * 37) x) (by kernel_rfl) (by kernel_rfl) hS.drew ?_
          repeat
            first
              | ((with_reducible refine wpQuiet_ex ?_ ?_)
                 · (go_simp; done)
                 apply Exists.intro
                 refine ⟨fun W hW => ?_, ?_⟩
                 · (have q0 : W.cell? ⟨ga, oa + k * 2, none⟩ = some (.int .i64 x.2.1) := by have := hW.a_ 0 _ rfl; rwa [Nat.add_zero] at this
                    have q1 : W.cell? ⟨ga, oa + k * 2 + 1, none⟩ = some (.int .i64 x.2.2) := hW.a_ 1 _ rfl
                    have r0 := rit_at hx32 hW.b_
                    have r1 := rit_len hx32 hW.b_
                    go_simp
                    first
                      | rfl)
                 simp only [Act.put, List.setIfInBounds_toArray, List.set_cons_zero, List.set_cons_succ])
              | ((with_reducible refine wpQuiet_pass ?_ ?_)
                 · (first | rfl | (go_simp; done))
                 simp only [Act.put, List.setIfInBounds_toArray, List.set_cons_zero, List.set_cons_succ])
          with_reducible refine wpQuiet_nil ?_
          intro w5 hW5
          go_wp2
          go_roundw
          case rel => exact ⟨k + 1, by go_num, by omega, hW5.bel⟩
          case measure => simp [intOf]; omega
        · have hki : ¬ (k : Int) < (X.length : Int) := by omega
          have hkf := hkn _ bbr
          go_wp2_with (first
            | ((with_reducible refine hkf.out.mono ?_); rintro e w12 ⟨rfl, b12⟩))
          go_ret
          exact ⟨rfl, bthen bbr bbr.size b12⟩
    · have hsum := Lib.hid (refSum_calls s w (by omega))
      have hl32 := shaOf_length s
      have hsI := sz32
      have hD32 : (u8s (shaOf s)).size = 32 := by rw [u8s_size, hl32]
      have hDone := u8s_one (shaOf s)
      have hstr := fun (W : World) (g : Nat) (h : Blk W g 36 (u8s (shaOf s))) => by
        have := str_of_blk W h
        rw [hl32] at this
        exact this
      have hzI : ∀ W : World, (zeroValue 36).run Tryd.prog W = .ok (.agg (u8s noId')) W := fun W => by
        have h : (Tryd.prog.info? 36).map (·.zero) = some (some (.agg (u8s noId'))) := by kernel_rfl
        obtain ⟨i, h1, h2⟩ := Option.map_eq_some_iff.1 h
        simp [zeroValue, typeInfo, h1, h2]
      have hzl : (u8s noId').size = 32 := by rw [u8s_size, noId_len']
      obtain ⟨S, hS⟩ : ∃ S, s ++ shaOf s = S := ⟨_, rfl⟩
      have hsl : S.length ≤ 1000 := by rw [← hS, List.length_append, hl32]; omega
      have hdc := fun W (hb : Below w.heap.size w W) => packDecode_calls S (by omega) W (hK.below hb)
      have hpc := fun W (hb : Below w.heap.size w W) => packPlaces_calls S (by omega) W (hK.below hb)
      have hrc := fun W => refDecode_calls S (by omega) W
      have hfew := decP_few S
      have hit := decP_items S
      obtain ⟨⟨X, xe⟩, hX⟩ : ∃ X, decP S = X := ⟨_, rfl⟩
      rw [hX] at hdc hpc hrc hfew hit
      simp only at hdc hpc hrc hfew hit
      clear hX
      have hokX : PitsOk (X.map (·.1)) := fun x hx => by
        obtain ⟨p, hp, rfl⟩ := List.mem_map.1 hx
        exact hit p hp
      have has := fun v W (h : Pits W v (X.map (·.1))) => as_calls15 (X.map (·.1)) hokX (by rw [List.length_map]; omega) v W h
      have hsm := fun v1 v2 W (h1 : Rits W v1 (asL (X.map (·.1)))) (h2 : Rits W v2 X) => same_calls15 (asL (X.map (·.1))) X (asL_fst _) (asL_ok hokX) v1 v2 W h1 h2
      generalize shaOf s = SH at *
      generalize u8s noId' = ZI at *
      go_enter Tryd.func4, Tryd.ntmps4
      go_wp2_with (first
        | ((with_reducible refine hsum.out.mono ?_); rintro e w3 ⟨rfl, b3⟩)
        | ((with_reducible refine lit_new 36 (.tmp 5) (.tmp 20) (u8s SH) 32 hsI hD32 hDone _ ?_ ?_ ?_ ?_)
           · first | exact hzl | rfl
           · rfl
           · rfl
           intro W4 hb4 hbl4
           have bb4 := bthen b3 b3.size hbl4
           have hcv := hstr W4 w3.heap.size hb4)
        | ((with_reducible refine (hdc _ bb4).mono ?_); rintro e w5 ⟨v5, rfl, o5, b5⟩
           have bb5 := bthen bb4 bb4.size b5
           have p5 := OwnPits.pits hit o5)
        | ((with_reducible refine (hpc _ bb5).mono ?_); rintro e w6 ⟨v6, rfl, o6, b6⟩
           have bb6 := bthen bb5 bb5.size b6
           have q6 := OwnPls.pls o6
           have p6 := p5.below b6)
        | ((with_reducible refine (hrc _).mono ?_); rintro e w7 ⟨v7, rfl, o7, b7⟩
           have bb7 := bthen bb6 bb6.size b7
           have q7 := q6.below b7
           have p7 := p6.below b7
           have r7 := OwnRits.rits hit o7)
        | ((with_reducible refine (has _ _ p7).mono ?_); rintro e w8 ⟨v8, rfl, o8, b8⟩
           have bb8 := bthen bb7 bb7.size b8
           have q8 := q7.below b8
           have r8 := r7.below b8
           have s8 := OwnRits.rits (asL_ok hokX) o8
           obtain ⟨A6, k6, e6⟩ := own_form' o6
           obtain ⟨A7, k7, e7⟩ := own_form' o7
           subst e6 e7)
        | ((with_reducible refine (hsm _ _ _ s8 r8).mono ?_); rintro e w9 ⟨rfl, b9⟩
           have bb9 := bthen bb8 bb8.size b9
           have q9 := q8.below b9
           have r9 := r8.below b9))
      all_goals try (exfalso; omega)
      clear hsum hsI hD32 hDone hstr hzI hzl
      clear o5 o6 o7 o8 p5 p6 p7 q6 q7 q8 r7 r8 s8 b5 b6 b7 b8 b9 bb5 bb6 bb7 bb8 hdc hpc hrc has hsm
      obtain ⟨_, _, e1, ha1, ha2, hata⟩ := q9
      obtain ⟨_, _, e2, hb1, hb2, hatb⟩ := r9
      cases e1
      cases e2
      obtain ⟨W9, hW9⟩ : ∃ W, w9 = W := ⟨_, rfl⟩
      go_loopw [13] (fun i wr => ∃ k : Nat, i = .int .i64 k ∧ k ≤ X.length ∧ Below W9.heap.size W9 wr) (fun i _ => X.length - (intOf i).toNat)
      case atStart => exact ⟨0, rfl, by omega, by rw [hW9]; exact Below.refl _ _⟩
      case round =>
        obtain ⟨k, rfl, hk, hbel⟩ := hrel
        have bbr := bthen (hW9 ▸ bb9) (hW9 ▸ bb9).size hbel
        by_cases hlt : k < X.length
        · have hki : (k : Int) < (X.length : Int) := by omega
          obtain ⟨ga, oa, rfl, hga, hca⟩ := hata (by omega)
          obtain ⟨gb, ob, rfl, hgb, hcb⟩ := hatb (by omega)
          obtain ⟨x, hx⟩ : ∃ x, X[k]? = some x := ⟨_, List.getElem?_eq_getElem hlt⟩
          have hx32 : x.1.base.length = 32 := hit _ (List.mem_of_getElem? hx)
          subst hW9
          have hS : PlC w9 ga (oa + k * 2) gb (ob + k * 37) x wr := ⟨rangeAt_below (hca k x hx) hga hbel, rangeAt_below (hcb k x hx) hgb hbel, hbel⟩
          clear hx hata hatb hca hcb hbel hit bbr
          go_wp2
          refine wp_region_class (C := PlC w9 ga (oa + k * 2) gb (ob + k * 37) x) (by kernel_rfl) (by kernel_rfl) hS.drew ?_
          repeat
            first
              | ((with_reducible refine wpQuiet_ex ?_ ?_)
                 · (go_simp; done)
                 apply Exists.intro
                 refine ⟨fun W hW => ?_, ?_⟩
                 · (have q0 : W.cell? ⟨ga, oa + k * 2, none⟩ = some (.int .i64 x.2.1) := by have := hW.a_ 0 _ rfl; rwa [Nat.add_zero] at this
                    have q1 : W.cell? ⟨ga, oa + k * 2 + 1, none⟩ = some (.int .i64 x.2.2) := hW.a_ 1 _ rfl
                    have r0 := rit_at hx32 hW.b_
                    have r1 := rit_len hx32 hW.b_
                    go_simp
                    first
                      | rfl)
                 simp only [Act.put, List.setIfInBounds_toArray, List.set_cons_zero, List.set_cons_succ])
              | ((with_reducible refine wpQuiet_pass ?_ ?_)
                 · (first | rfl | (go_simp; done))
                 simp only [Act.put, List.setIfInBounds_toArray, List.set_cons_zero, List.set_cons_succ])
          with_reducible refine wpQuiet_nil ?_
          intro w5 hW5
          go_wp2
          go_roundw
          case rel => exact ⟨k + 1, by go_num, by omega, hW5.bel⟩
          case measure => simp [intOf]; omega
        · have hki : ¬ (k : Int) < (X.length : Int) := by omega
          have hkf := hkn _ bbr
          go_wp2_with (first
            | ((with_reducible refine hkf.out.mono ?_); rintro e w12 ⟨rfl, b12⟩))
          go_ret
          exact ⟨rfl, bthen bbr bbr.size b12⟩
  · have i1 : (500 : Int) < (s.length : Int) := by omega
    go_enter Tryd.func4, Tryd.ntmps4
    go_wp2_with (first
      | ((with_reducible refine (hkn _ (Below.refl _ _)).out.mono ?_); rintro e w9 ⟨rfl, b9⟩))
    all_goals try (exfalso; omega)
    go_ret
    exact ⟨rfl, b9⟩
end Go.Proofs.YtoekdiklbfdpiaaDoor
/- The walk of layer 15's document: Fine. No condition. -/
namespace Go.Proofs.YtoekdiklbfdpiaaDoor
open Go.RowKit
attribute [local go_sem ↓] ldvI_eq ldvR15_eq
set_option maxRecDepth 100000 in
set_option maxHeartbeats 8000000 in
theorem refFine_calls15 (l : List Pl) (hok : ∀ p ∈ l, p.1.base.length = 32) (va : Value) (w : World) (ha : Rits w va l) : Calls Tryd.prog 16 #[va] w fun e w' => e = .returned (.bool (fineP (l.map (·.1)))) ∧ Below w.heap.size w w' := by
  have hla := ha.len
  obtain ⟨A, capa, rfl, ha1, ha2, hata⟩ := ha
  have hzl : (ritC zRit).toArray.size = 37 := ritC_size noId_len'
  have hzv := zeroRit
  obtain ⟨F, hF⟩ : ∃ F, Hid (fineP (l.map (·.1)) = F) := ⟨_, Lib.hid rfl⟩
  rw [hF.out]
  go_enter Tryd.func16, Tryd.ntmps16
  go_wp2
  go_loopw [3] (fun i wr => ∃ k : Nat, i = .int .i64 k ∧ k ≤ l.length ∧ Hid (fineFrom 0 ((l.map (·.1)).take k) = true) ∧ Below w.heap.size w wr) (fun i _ => l.length - (intOf i).toNat)
  case atStart => exact ⟨0, rfl, by omega, by show _ = _; rw [List.take_zero]; rfl, Below.refl _ _⟩
  case round =>
    obtain ⟨k, rfl, hk, hfk, hbel⟩ := hrel
    by_cases hlt : k < l.length
    · have hki : (k : Int) < (l.length : Int) := by omega
      obtain ⟨ga, oa, rfl, hga, hca⟩ := hata (by omega)
      obtain ⟨⟨⟨xk, xb, xi, xd⟩, xa, xl⟩, hx⟩ : ∃ x, l[k]? = some x := ⟨_, List.getElem?_eq_getElem hlt⟩
      have hx32 : xi.length = 32 := hok _ (List.mem_of_getElem? hx)
      have hxm : (l.map (·.1))[k]? = some ⟨xk, xb, xi, xd⟩ := by rw [List.getElem?_map, hx]; rfl
      have hca := rangeAt_below (hca k _ hx) hga hbel
      have ldx := run_ldvR15 hca hx32
      have hc37 : (ritC (⟨xk, xb, xi, xd⟩, xa, xl)).toArray.size = 37 := ritC_size hx32
      have hcone := ritC_all (⟨xk, xb, xi, xd⟩, xa, xl)
      have heq := fun W => run_equalIn_zid W xi hx32
      have hcs : ∀ W g, Blk W g 45 (ritC (⟨xk, xb, xi, xd⟩, xa, xl)).toArray → W.cell? ⟨g, 0, none⟩ = some (.int .i64 xk) ∧ W.cell? ⟨g, 1, none⟩ = some (.int .i64 xb) ∧ (ldvI ⟨g, 2, none⟩).run Tryd.prog W = .ok (.agg (u8s xi)) W ∧ W.cell? ⟨g, 34, none⟩ = some (.string (B xd)) := fun W g h => by
        have hb : RitB W g (⟨xk, xb, xi, xd⟩, xa, xl) := ⟨h, hx32⟩
        exact ⟨hb.kind, hb.back, run_ldvI15 hb.baseR hx32, hb.data⟩
      have hyes : itFine ⟨xk, xb, xi, xd⟩ k = true → Hid (fineFrom 0 ((l.map (·.1)).take (k + 1)) = true) := fun h => by
        show _ = _
        rw [List.take_add_one, hxm, fineFrom_append, hfk.out, List.length_take, Nat.min_eq_left (by rw [List.length_map]; omega)]
        simp [fineFrom, h]
      have hno : itFine ⟨xk, xb, xi, xd⟩ k = false → Hid (F = false) := fun h => by
        show _ = _
        rw [← hF.out, Bool.eq_false_iff]
        intro h2
        unfold fineP at h2
        rw [Bool.and_eq_true] at h2
        have := fineFrom_at h2.2 hxm
        rw [Nat.zero_add, h] at this
        cases this
      obtain ⟨CS, hCS⟩ : ∃ CS, (ritC (⟨xk, xb, xi, xd⟩, xa, xl)).toArray = CS := ⟨_, rfl⟩
      rw [hCS] at ldx hc37 hcone hcs
      obtain ⟨BX, hBX⟩ : ∃ BX, u8s xi = BX := ⟨_, rfl⟩
      rw [hBX] at heq hcs
      clear hCS hBX hca hx hxm hata hfk hF hok hx32
      by_cases n0 : xk < 0
      · have hd : True := trivial
        have k0 : ¬ xk = 0 := by omega
        have k1 : ¬ xk = 1 := by omega
        have k2 : ¬ xk = 2 := by omega
        have hfv : Hid (itFine ⟨xk, xb, xi, xd⟩ k = false) := by show _ = _; unfold itFine; simp [k0, k1, k2]
        clear k0 k1 k2
        go_wp2_with (first
          | ((with_reducible refine lit_new 45 (.tmp 4) (.tmp 14) CS 37 szRit hc37 hcone _ ?_ ?_ ?_ ?_)
             · first | exact hzl | rfl
             · rfl
             · rfl
             intro W3 hb3 hbl3
             have b3 := bthen hbel hbel.size hbl3
             obtain ⟨c0, c1, c2, c3⟩ := hcs _ _ hb3))
        all_goals try (exfalso; omega)
        go_ret
        have hno2 := hno hfv.out
        exact ⟨by rw [hno2.out]; rfl, b3⟩
      · by_cases n2 : 2 < xk
        · have hd : True := trivial
          have k0 : ¬ xk = 0 := by omega
          have k1 : ¬ xk = 1 := by omega
          have k2 : ¬ xk = 2 := by omega
          have hfv : Hid (itFine ⟨xk, xb, xi, xd⟩ k = false) := by show _ = _; unfold itFine; simp [k0, k1, k2]
          clear k0 k1 k2
          go_wp2_with (first
            | ((with_reducible refine lit_new 45 (.tmp 4) (.tmp 14) CS 37 szRit hc37 hcone _ ?_ ?_ ?_ ?_)
               · first | exact hzl | rfl
               · rfl
               · rfl
               intro W3 hb3 hbl3
               have b3 := bthen hbel hbel.size hbl3
               obtain ⟨c0, c1, c2, c3⟩ := hcs _ _ hb3))
          all_goals try (exfalso; omega)
          go_ret
          have hno2 := hno hfv.out
          exact ⟨by rw [hno2.out]; rfl, b3⟩
        · by_cases hd : xd.length ≤ 4096
          · have d1 : ¬ (4096 : Int) < (xd.length : Int) := by omega
            by_cases k2 : xk = 2
            · have e2 : (xk == 2) = true := by simp [k2]
              have e2n : (xk != 2) = false := by simp [k2]
              have e1 : (xk == 1) = false := by simp [k2]
              have e1n : (xk != 1) = true := by simp [k2]
              by_cases hb : xb = 0
              · have eb : (xb == 0) = true := by simp [hb]
                have ebn : (xb != 0) = false := by simp [hb]
                have hfv : Hid (itFine ⟨xk, xb, xi, xd⟩ k = true) := by show _ = _; unfold itFine; simp [k2, hb, hd]
                clear k2 hb hd
                go_wp2_with (first
                  | ((with_reducible refine lit_new 45 (.tmp 4) (.tmp 14) CS 37 szRit hc37 hcone _ ?_ ?_ ?_ ?_)
                     · first | exact hzl | rfl
                     · rfl
                     · rfl
                     intro W3 hb3 hbl3
                     have b3 := bthen hbel hbel.size hbl3
                     obtain ⟨c0, c1, c2, c3⟩ := hcs _ _ hb3))
                all_goals try (exfalso; omega)
                have hfk2 := hyes (hfv.out)
                go_roundw
                case rel => exact ⟨k + 1, by go_num, by omega, hfk2, b3⟩
                case measure => simp [intOf]; omega
              · have eb : (xb == 0) = false := by simp [hb]
                have ebn : (xb != 0) = true := by simp [hb]
                have hfv : Hid (itFine ⟨xk, xb, xi, xd⟩ k = false) := by show _ = _; unfold itFine; simp [k2, hb]
                clear k2 hb hd
                go_wp2_with (first
                  | ((with_reducible refine lit_new 45 (.tmp 4) (.tmp 14) CS 37 szRit hc37 hcone _ ?_ ?_ ?_ ?_)
                     · first | exact hzl | rfl
                     · rfl
                     · rfl
                     intro W3 hb3 hbl3
                     have b3 := bthen hbel hbel.size hbl3
                     obtain ⟨c0, c1, c2, c3⟩ := hcs _ _ hb3))
                all_goals try (exfalso; omega)
                go_ret
                have hno2 := hno hfv.out
                exact ⟨by rw [hno2.out]; rfl, b3⟩
            · have e2 : (xk == 2) = false := by simp [k2]
              have e2n : (xk != 2) = true := by simp [k2]
              by_cases hi : xi = noId'
              · rw [decide_eq_true hi] at heq
                by_cases k1 : xk = 1
                · have e1 : (xk == 1) = true := by simp [k1]
                  have e1n : (xk != 1) = false := by simp [k1]
                  by_cases hb1 : xb < 1
                  · have hb1n : ¬ 1 ≤ xb := by omega
                    have hfv : Hid (itFine ⟨xk, xb, xi, xd⟩ k = false) := by show _ = _; unfold itFine; simp [k1, hb1n]
                    clear k1 k2 hi hb1n hd
                    go_wp2_with (first
                      | ((with_reducible refine lit_new 45 (.tmp 4) (.tmp 14) CS 37 szRit hc37 hcone _ ?_ ?_ ?_ ?_)
                         · first | exact hzl | rfl
                         · rfl
                         · rfl
                         intro W3 hb3 hbl3
                         have b3 := bthen hbel hbel.size hbl3
                         obtain ⟨c0, c1, c2, c3⟩ := hcs _ _ hb3))
                    all_goals try (exfalso; omega)
                    go_ret
                    have hno2 := hno hfv.out
                    exact ⟨by rw [hno2.out]; rfl, b3⟩
                  · by_cases hb2 : (k : Int) < xb
                    · have hb2n : ¬ xb ≤ (k : Int) := by omega
                      have hfv : Hid (itFine ⟨xk, xb, xi, xd⟩ k = false) := by show _ = _; unfold itFine; simp [k1, hb2n]
                      clear k1 k2 hi hb2n hd
                      go_wp2_with (first
                        | ((with_reducible refine lit_new 45 (.tmp 4) (.tmp 14) CS 37 szRit hc37 hcone _ ?_ ?_ ?_ ?_)
                           · first | exact hzl | rfl
                           · rfl
                           · rfl
                           intro W3 hb3 hbl3
                           have b3 := bthen hbel hbel.size hbl3
                           obtain ⟨c0, c1, c2, c3⟩ := hcs _ _ hb3))
                      all_goals try (exfalso; omega)
                      go_ret
                      have hno2 := hno hfv.out
                      exact ⟨by rw [hno2.out]; rfl, b3⟩
                    · have hb1n : 1 ≤ xb := by omega
                      have hb2n : xb ≤ (k : Int) := by omega
                      have hfv : Hid (itFine ⟨xk, xb, xi, xd⟩ k = true) := by show _ = _; unfold itFine; simp [k1, hi, hb1n, hb2n, hd]
                      clear k1 k2 hi hb1n hb2n hd
                      go_wp2_with (first
                        | ((with_reducible refine lit_new 45 (.tmp 4) (.tmp 14) CS 37 szRit hc37 hcone _ ?_ ?_ ?_ ?_)
                           · first | exact hzl | rfl
                           · rfl
                           · rfl
                           intro W3 hb3 hbl3
                           have b3 := bthen hbel hbel.size hbl3
                           obtain ⟨c0, c1, c2, c3⟩ := hcs _ _ hb3))
                      all_goals try (exfalso; omega)
                      have hfk2 := hyes (hfv.out)
                      go_roundw
                      case rel => exact ⟨k + 1, by go_num, by omega, hfk2, b3⟩
                      case measure => simp [intOf]; omega
                · have e1 : (xk == 1) = false := by simp [k1]
                  have e1n : (xk != 1) = true := by simp [k1]
                  have k0 : xk = 0 := by omega
                  by_cases hb : xb = 0
                  · have eb : (xb == 0) = true := by simp [hb]
                    have ebn : (xb != 0) = false := by simp [hb]
                    have hfv : Hid (itFine ⟨xk, xb, xi, xd⟩ k = true) := by show _ = _; unfold itFine; simp [k0, hi, hb, hd]
                    clear k0 k1 k2 hi hb hd
                    go_wp2_with (first
                      | ((with_reducible refine lit_new 45 (.tmp 4) (.tmp 14) CS 37 szRit hc37 hcone _ ?_ ?_ ?_ ?_)
                         · first | exact hzl | rfl
                         · rfl
                         · rfl
                         intro W3 hb3 hbl3
                         have b3 := bthen hbel hbel.size hbl3
                         obtain ⟨c0, c1, c2, c3⟩ := hcs _ _ hb3))
                    all_goals try (exfalso; omega)
                    have hfk2 := hyes (hfv.out)
                    go_roundw
                    case rel => exact ⟨k + 1, by go_num, by omega, hfk2, b3⟩
                    case measure => simp [intOf]; omega
                  · have eb : (xb == 0) = false := by simp [hb]
                    have ebn : (xb != 0) = true := by simp [hb]
                    have hfv : Hid (itFine ⟨xk, xb, xi, xd⟩ k = false) := by show _ = _; unfold itFine; simp [k0, hi, hb]
                    clear k0 k1 k2 hi hb hd
                    go_wp2_with (first
                      | ((with_reducible refine lit_new 45 (.tmp 4) (.tmp 14) CS 37 szRit hc37 hcone _ ?_ ?_ ?_ ?_)
                         · first | exact hzl | rfl
                         · rfl
                         · rfl
                         intro W3 hb3 hbl3
                         have b3 := bthen hbel hbel.size hbl3
                         obtain ⟨c0, c1, c2, c3⟩ := hcs _ _ hb3))
                    all_goals try (exfalso; omega)
                    go_ret
                    have hno2 := hno hfv.out
                    exact ⟨by rw [hno2.out]; rfl, b3⟩
              · rw [decide_eq_false hi] at heq
                have hfv : Hid (itFine ⟨xk, xb, xi, xd⟩ k = false) := by show _ = _; unfold itFine; simp [k2, hi]
                clear k2 hi hd
                go_wp2_with (first
                  | ((with_reducible refine lit_new 45 (.tmp 4) (.tmp 14) CS 37 szRit hc37 hcone _ ?_ ?_ ?_ ?_)
                     · first | exact hzl | rfl
                     · rfl
                     · rfl
                     intro W3 hb3 hbl3
                     have b3 := bthen hbel hbel.size hbl3
                     obtain ⟨c0, c1, c2, c3⟩ := hcs _ _ hb3))
                all_goals try (exfalso; omega)
                go_ret
                have hno2 := hno hfv.out
                exact ⟨by rw [hno2.out]; rfl, b3⟩
          · have d1 : (4096 : Int) < (xd.length : Int) := by omega
            have hfv : Hid (itFine ⟨xk, xb, xi, xd⟩ k = false) := by show _ = _; unfold itFine; simp [hd]
            clear hd
            go_wp2_with (first
              | ((with_reducible refine lit_new 45 (.tmp 4) (.tmp 14) CS 37 szRit hc37 hcone _ ?_ ?_ ?_ ?_)
                 · first | exact hzl | rfl
                 · rfl
                 · rfl
                 intro W3 hb3 hbl3
                 have b3 := bthen hbel hbel.size hbl3
                 obtain ⟨c0, c1, c2, c3⟩ := hcs _ _ hb3))
            all_goals try (exfalso; omega)
            go_ret
            have hno2 := hno hfv.out
            exact ⟨by rw [hno2.out]; rfl, b3⟩
    · have hki : ¬ (k : Int) < (l.length : Int) := by omega
      obtain rfl : k = l.length := by omega
      have hfin : Hid (F = decide ((l.length : Int) ≤ 400)) := by
        show _ = _
        rw [← hF.out]
        have h2 := hfk.out
        rw [List.take_of_length_le (by rw [List.length_map]; omega)] at h2
        unfold fineP
        rw [h2, Bool.and_true, List.length_map]
        by_cases h : l.length ≤ 400
        · rw [decide_eq_true h, decide_eq_true (by omega)]
        · rw [decide_eq_false h, decide_eq_false (by omega)]
      clear hF hfk
      go_wp2
      go_ret
      exact ⟨by rw [hfin.out]; rfl, hbel⟩
end Go.Proofs.YtoekdiklbfdpiaaDoor
/- Layer 15 (pack): the plain law of what is encoded and decoded. No condition; no program. -/
namespace Go.Proofs.YtoekdiklbfdpiaaDoor
open Go.RowKit
theorem PackOk.wide {s p : List UInt8} (h : PackOk s p) {m : Nat} (hm : s.length ≤ m) : unp p m = (s, 0) := by
  rcases h.way with rfl | ⟨e, rfl, he⟩
  · exact unp_stored (by omega) rfl (by omega)
  · rw [unp_steps (by omega) rfl, Int.toNat_natCast]
    have := he.2.1 [] m (by omega)
    rw [List.append_nil] at this
    exact this.trans (un_nil _ _)
theorem takeP_text (p r : Txt) (hp : p.length ≤ 18446744073709551615) : takeP (textE p ++ r) = some (p, r) := by
  have hg : get (textE p ++ r) = some (p.length, (put p.length).length) := by
    unfold textE
    rw [List.append_assoc]
    exact get_put p.length hp (p ++ r)
  have hd : (textE p ++ r).drop (put p.length).length = p ++ r := by
    unfold textE
    rw [List.append_assoc, List.drop_left]
  rw [takeP_yes hg (by rw [hd, List.length_append]; omega), hd, List.take_left, List.drop_left]
theorem itemP_bytes {x : PItL} {b r : Txt} {i : Nat} (hx : x.base.length = 32) (hi : i ≤ 1000000) (hf : itFine x i = true) (hb : BytesIs x b) : itemP (b ++ r) i = .inl (x, r) := by
  obtain ⟨p, hp, rfl⟩ := hb
  have hd := itFine_data hf
  have hpl : p.length ≤ 18446744073709551615 := by have := hp.most; omega
  have ht := takeP_text p r hpl
  have hu := hp.wide (m := 4096) hd
  obtain ⟨xk, xb, xi, xd⟩ := x
  unfold itFine at hf
  simp only [Bool.and_eq_true, Bool.or_eq_true, decide_eq_true_eq] at hf hx hd hu
  have key : ∀ (c : UInt8) (h rest : Txt) (n : Nat), baseP c.toNat (h ++ (textE p ++ r)) i = some (n, xi, textE p ++ r) → (c.toNat : Int) = xk → (n : Int) = xb → itemP (c :: (h ++ (textE p ++ r))) i = .inl (⟨xk, xb, xi, xd⟩, r) := by
    intro c h rest n h1 h2 h3
    unfold itemP
    simp only [h1, ht]
    have hu' : unp p 4096 = (xd, 0) := hu
    rw [hu']
    simp only [if_true, h2, h3]
  rcases hf.2 with (⟨⟨h0, hn⟩, h00⟩ | ⟨⟨⟨h1, hn⟩, hb1⟩, hb2⟩) | ⟨h2, hb0⟩
  · subst h0 h00 hn
    have e : headB ⟨0, 0, noId', xd⟩ ++ textE p ++ r = (0 : UInt8) :: ([] ++ (textE p ++ r)) := by unfold headB; simp
    rw [e]
    exact key 0 [] [] 0 rfl rfl rfl
  · subst h1 hn
    obtain ⟨n, rfl⟩ := Int.eq_ofNat_of_zero_le (show 0 ≤ xb by omega)
    have e : headB ⟨1, n, noId', xd⟩ ++ textE p ++ r = (1 : UInt8) :: (put n ++ (textE p ++ r)) := by unfold headB; simp
    rw [e]
    refine key 1 (put n) [] n ?_ rfl rfl
    have hg := get_put n (by omega) (textE p ++ r)
    show baseP 1 (put n ++ (textE p ++ r)) i = _
    unfold baseP
    rw [if_neg (by decide), if_pos rfl, hg]
    simp only
    rw [if_neg (by omega), List.drop_left]
  · subst h2 hb0
    have e : headB ⟨2, 0, xi, xd⟩ ++ textE p ++ r = (2 : UInt8) :: (xi ++ (textE p ++ r)) := by unfold headB; simp
    rw [e]
    refine key 2 xi [] 0 ?_ rfl rfl
    show baseP 2 (xi ++ (textE p ++ r)) i = _
    unfold baseP
    rw [if_neg (by decide), if_neg (by decide), if_pos rfl, if_neg (by rw [List.length_append]; omega), ← hx, List.take_left, List.drop_left]
/-- Places one behind the other, from a to e. -/
def PlChain : Nat → List Pl → Nat → Prop
  | a, [], e => a = e
  | a, p :: P, e => p.2.1 = a ∧ 1 ≤ p.2.2 ∧ PlChain (a + p.2.2) P e
theorem readP_body (E : Nat) : ∀ (l : List PItL) (i : Nat) (t : Txt) (acc : List Pl), BodyIs l t → PitsOk l → fineFrom i l = true → i + l.length ≤ 1000000 → t.length ≤ E →
    ∃ Q, readP E l.length i t acc = (acc ++ Q, 0) ∧ Q.map (·.1) = l ∧ PlChain (E - t.length) Q E
  | [], i, t, acc, hb, _, _, _, _ => by
    obtain rfl : t = [] := hb
    exact ⟨[], by rw [List.length_nil, readP, if_pos rfl, List.append_nil], rfl, by show E - ([] : Txt).length = E; simp⟩
  | x :: l, i, t, acc, hb, hok, hf, hi, hE => by
    obtain ⟨b, r, h1, rfl, h2⟩ := hb
    rw [fineFrom, Bool.and_eq_true] at hf
    rw [List.length_cons] at hi
    have hit := itemP_bytes (r := r) (hok x (by simp)) (by omega) hf.1 h1
    have hl := itemP_len hit
    rw [List.length_append] at hE hl
    obtain ⟨Q, e1, e2, e3⟩ := readP_body E l (i + 1) r (acc ++ [(x, E - (b ++ r).length, (b ++ r).length - r.length)]) h2 (fun y hy => hok y (by simp [hy])) hf.2 (by omega) (by omega)
    refine ⟨(x, E - (b ++ r).length, (b ++ r).length - r.length) :: Q, ?_, ?_, ?_⟩
    · rw [List.length_cons, readP, hit]
      simp only
      rw [e1, List.append_assoc]
      rfl
    · rw [List.map_cons, e2]
    · refine ⟨rfl, ?_, ?_⟩
      · show 1 ≤ (b ++ r).length - r.length
        rw [List.length_append]; omega
      · show PlChain (E - (b ++ r).length + ((b ++ r).length - r.length)) Q E
        rw [show E - (b ++ r).length + ((b ++ r).length - r.length) = E - r.length from by rw [List.length_append]; omega]
        exact e3
/-- What is encoded is decoded as it was; its items lie one behind the other. -/
theorem dec_enc15 {l : List PItL} {s : Txt} (h : EncIs l s) (hf : fineP l = true) (hok : PitsOk l) (hs : s.length ≤ 262144) :
    ∃ Q, decP s = (Q, 0) ∧ Q.map (·.1) = l ∧ PlChain (5 + (put l.length).length) Q (s.length - 32) := by
  obtain ⟨t, hb, rfl⟩ := h
  unfold fineP at hf
  rw [Bool.and_eq_true, decide_eq_true_eq] at hf
  obtain ⟨Z, hZ⟩ : ∃ Z, pk5 ++ put l.length ++ t = Z := ⟨_, rfl⟩
  have hsl := shaOf_length Z
  have hpl : 1 ≤ (put l.length).length := by
    rcases Nat.eq_zero_or_pos (put l.length).length with h | h
    · have := put_ne l.length []
      rw [List.append_nil] at this
      exact absurd (List.length_eq_zero_iff.1 h) this
    · exact h
  rw [hZ] at hs ⊢
  rw [List.length_append, hsl] at hs
  have hE : (Z ++ shaOf Z).length - 32 = Z.length := by rw [List.length_append, hsl]; omega
  have hZl : Z.length = 5 + (put l.length).length + t.length := by rw [← hZ, List.length_append, List.length_append]; rfl
  have hd5 : Z.drop 5 = put l.length ++ t := by rw [← hZ, List.append_assoc]; rfl
  have hg := get_put l.length (by omega) t
  have hop : openP (Z ++ shaOf Z) = .inl (l.length, t) := by
    unfold openP
    rw [if_neg (by rw [List.length_append, hsl]; omega), if_neg, hE, List.take_left, List.drop_left, if_neg (by simp), hd5, hg]
    · simp only
      rw [if_neg (by omega), List.drop_left]
    · rintro (h | h)
      · rw [List.length_append, hsl] at h; omega
      · apply h
        rw [← hZ, List.append_assoc, List.append_assoc, List.append_assoc]
        rfl
  obtain ⟨Q, e1, e2, e3⟩ := readP_body Z.length l 0 t [] hb hok hf.2 (by omega) (by omega)
  refine ⟨Q, ?_, e2, ?_⟩
  · unfold decP
    rw [hop]
    simp only
    rw [hE, e1, List.nil_append]
  · rw [hE]
    rwa [show Z.length - t.length = 5 + (put l.length).length from by omega] at e3
/-- A byte ahead of the sum taken out: no pack, or another sum. -/
theorem dec_cut {s : Txt} {k E : Nat} (hE : s.length = E + 32) (hk : k < E) (hs : s.length ≤ 262144) :
    (decP (s.take k ++ s.drop (k + 1))).2 = 2 ∨ (decP (s.take k ++ s.drop (k + 1))).2 = 5 ∨ shaOf (s.take k ++ (s.take E).drop (k + 1)) = s.drop E := by
  obtain ⟨u, hu⟩ : ∃ u, s.take k ++ s.drop (k + 1) = u := ⟨_, rfl⟩
  have hul : u.length = E + 31 := by rw [← hu, List.length_append, List.length_take, List.length_drop]; omega
  have hsp : u = (s.take k ++ (s.take E).drop (k + 1)) ++ s.drop E := by
    rw [← hu, List.append_assoc]
    congr 1
    have h1 : s.drop (k + 1) = (s.drop (k + 1)).take (E - (k + 1)) ++ (s.drop (k + 1)).drop (E - (k + 1)) := (List.take_append_drop _ _).symm
    rw [h1, List.drop_drop, show k + 1 + (E - (k + 1)) = E from by omega, List.drop_take]
  have hcl : (s.take k ++ (s.take E).drop (k + 1)).length = E - 1 := by rw [List.length_append, List.length_take, List.length_drop, List.length_take]; omega
  rw [hu]
  by_cases h5 : u.length < 37 ∨ u.take 5 ≠ pk5
  · left
    unfold decP openP
    rw [if_neg (by omega), if_pos h5]
  · by_cases hsh : shaOf (s.take k ++ (s.take E).drop (k + 1)) = s.drop E
    · exact .inr (.inr hsh)
    · right; left
      have e1 : u.take (u.length - 32) = s.take k ++ (s.take E).drop (k + 1) := by
        rw [hul, show E + 31 - 32 = (s.take k ++ (s.take E).drop (k + 1)).length from by omega]
        conv => lhs; rw [hsp]
        exact List.take_left
      have e2 : u.drop (u.length - 32) = s.drop E := by
        rw [hul, show E + 31 - 32 = (s.take k ++ (s.take E).drop (k + 1)).length from by omega]
        conv => lhs; rw [hsp]
        exact List.drop_left
      unfold decP openP
      rw [if_neg (by omega), if_neg h5, e1, e2, if_pos hsh]
end Go.Proofs.YtoekdiklbfdpiaaDoor
/- The walk of layer 15's law: clash. No condition. -/
namespace Go.Proofs.YtoekdiklbfdpiaaDoor
open Go.RowKit
set_option maxRecDepth 100000 in
set_option maxHeartbeats 2000000 in
theorem clash_calls15 (cut whole s : Txt) (hc : cut.length ≤ 1000000) (hw : whole.length ≤ s.length) (hs : s.length ≤ 1000000) (w : World) :
    Calls Tryd.prog 17 #[.string (B cut), .string (B whole), .string (B s)] w fun e w' => e = .returned (.bool (shaOf cut == s.drop whole.length)) ∧ Below w.heap.size w w' := by
  have hsum := Lib.hid (refSum_calls cut w (by omega))
  have hl32 := shaOf_length cut
  have hsI := sz32
  have hD32 : (u8s (shaOf cut)).size = 32 := by rw [u8s_size, hl32]
  have hDone := u8s_one (shaOf cut)
  have hstr := fun (W : World) (g : Nat) (h : Blk W g 36 (u8s (shaOf cut))) => by
    have := str_of_blk W.drew (h.drewN 1)
    rw [hl32] at this
    exact this
  have hzI : ∀ W : World, (zeroValue 36).run Tryd.prog W = .ok (.agg (u8s noId')) W := fun W => by
    have h : (Tryd.prog.info? 36).map (·.zero) = some (some (.agg (u8s noId'))) := by kernel_rfl
    obtain ⟨i, h1, h2⟩ := Option.map_eq_some_iff.1 h
    simp [zeroValue, typeInfo, h1, h2]
  have hzl : (u8s noId').size = 32 := by rw [u8s_size, noId_len']
  have j1 : (whole.length : Int) ≤ (s.length : Int) := by omega
  have x1 : (B s).extract whole.length s.length = B (s.drop whole.length) := extract_B_from s _
  generalize shaOf cut = SH at *
  generalize u8s noId' = ZI at *
  go_enter Tryd.func17, Tryd.ntmps17
  go_wp2_with (first
    | ((with_reducible refine hsum.out.mono ?_); rintro e w3 ⟨rfl, b3⟩)
    | ((with_reducible refine lit_new 36 (.tmp 7) (.tmp 9) (u8s SH) 32 hsI hD32 hDone _ ?_ ?_ ?_ ?_)
       · first | exact hzl | rfl
       · rfl
       · rfl
       intro W4 hb4 hbl4
       have b4 := bthen b3 b3.size hbl4
       have hcv := hstr W4 w3.heap.size hb4))
  all_goals try (exfalso; omega)
  go_region
  all_goals go_wp2
  all_goals go_ret
  all_goals exact ⟨rfl, b4.drew⟩
end Go.Proofs.YtoekdiklbfdpiaaDoor
