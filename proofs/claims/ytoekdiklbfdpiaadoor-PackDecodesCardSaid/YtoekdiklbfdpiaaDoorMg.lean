/- Lemmas and walks of this seat, laid together: PkY, PkK, PkZ, Tab. -/
import Derived.Test.YtoekdiklbfdpiaaDoorMf
import Derived.Test.YtoekdiklbfdpiaaDoorCards
import Derived.WalkKit
import Derived.ProofKit
import Derived.OpenShut
import Derived.Deep.DeepHandedRow
import Derived.Lib.LaidTab
/- The walk of layer 15's law: As. No condition. -/
namespace Go.Proofs.YtoekdiklbfdpiaaDoor
open Go.RowKit
attribute [local go_sem ↓] ldvI_eq
theorem parts4 {a : Act} {i j k m : Nat} {x y z q : Operand} {v u t s : Value} (h : a.eval x = v) (h2 : a.eval y = u) (h3 : a.eval z = t) (h4 : a.eval q = s) : ((#[(i, x), (j, y), (k, z), (m, q)] : Array (Nat × Operand)).map fun (i, x) => (i, a.eval x)).toList = [(i, v), (j, u), (k, t), (m, s)] := by simp [h, h2, h3, h4]
/-- The document's items of ours: they lie nowhere. -/
def asL (l : List PItL) : List Pl := l.map fun x => (x, 0, 0)
theorem asL_fst (l : List PItL) : (asL l).map (·.1) = l := by
  unfold asL
  rw [List.map_map]
  exact (List.map_congr_left (g := id) (fun x _ => rfl)).trans (List.map_id l)
theorem asL_ok {l : List PItL} (h : PitsOk l) : ∀ p ∈ asL l, p.1.base.length = 32 := fun p hp => by
  obtain ⟨x, hx, rfl⟩ := List.mem_map.1 hp
  exact h x hx
set_option maxRecDepth 100000 in
set_option maxHeartbeats 4000000 in
theorem as_calls15 (l : List PItL) (hok : PitsOk l) (hll : l.length ≤ 1000000) (va : Value) (w : World) (ha : Pits w va l) :
    Calls Tryd.prog 9 #[va] w fun e w' => ∃ v, e = .returned v ∧ OwnRits w' w.heap.size v (asL l) ∧ Below w.heap.size w w' := by
  have hla := ha.len
  obtain ⟨A, capa, rfl, ha1, ha2, hata⟩ := ha
  go_enter Tryd.func9, Tryd.ntmps9
  go_wp2
  go_loopw [3, 4] (fun vo i wr => ∃ k : Nat, i = .int .i64 k ∧ k ≤ l.length ∧ wr.ownsRow w.heap.size 45 37 vo k (rowsOf (fun x : PItL => ritC (x, 0, 0)) (l.take k)) ∧ Below w.heap.size w wr) (fun _ i _ => l.length - (intOf i).toNat)
  case atStart => exact ⟨0, rfl, by omega, World.ownsRow_nil _ _ _ _, Below.refl _ _⟩
  case round =>
    obtain ⟨k, rfl, hk, hown, hbel⟩ := hrel
    by_cases hlt : k < l.length
    · have hki : (k : Int) < (l.length : Int) := by omega
      obtain ⟨ga, oa, rfl, hga, hca⟩ := hata (by omega)
      obtain ⟨x, hx⟩ : ∃ x, l[k]? = some x := ⟨_, List.getElem?_eq_getElem hlt⟩
      have hx32 : x.base.length = 32 := hok x (List.mem_of_getElem? hx)
      have hca := hca k x hx
      have hmore : Hid (rowsOf (fun x : PItL => ritC (x, 0, 0)) (l.take k) ++ ritC (x, 0, 0) = rowsOf (fun x : PItL => ritC (x, 0, 0)) (l.take (k + 1))) := by
        show _ = _
        rw [List.take_add_one, hx, rowsOf_append]
        simp [rowsOf]
      have k1 : k + 1 ≤ 9223372036854775807 := by omega
      have k2 : (k + 1) * 80 ≤ 140737488355328 := by omega
      clear hx hata hok
      go_wp2
      have hC0 : ApC w 23 45 37 u3 k (rowsOf (fun x : PItL => ritC (x, 0, 0)) (l.take k)) (Array.replicate 25 false) wr := ⟨hbel, fun _ => hown⟩
      clear hown hbel
      obtain ⟨V, hV⟩ : ∃ V : Nat → Value, V = fun i => [u3, (.slice (some ⟨ga, oa, none⟩) l.length capa), (.int .i64 k), (.pointer (some ⟨ga, oa + k * 35, none⟩)), (.pointer (some ⟨ga, oa + k * 35, none⟩)), (.int .i64 x.kind), (.slice (some ⟨ga, oa, none⟩) l.length capa), (.int .i64 k), (.pointer (some ⟨ga, oa + k * 35, none⟩)), (.pointer (some ⟨ga, oa + k * 35 + 1, none⟩)), (.int .i64 x.back), (.slice (some ⟨ga, oa, none⟩) l.length capa), (.int .i64 k), (.pointer (some ⟨ga, oa + k * 35, none⟩)), (.pointer (some ⟨ga, oa + k * 35 + 2, none⟩)), (.agg (u8s x.base)), (.slice (some ⟨ga, oa, none⟩) l.length capa), (.int .i64 k), (.pointer (some ⟨ga, oa + k * 35, none⟩)), (.pointer (some ⟨ga, oa + k * 35 + 34, none⟩)), (.string (B x.data)), (.agg (ritC (x, 0, 0)).toArray), undef, undef, undef].getD i undef := ⟨_, rfl⟩
      have v0 : V 0 = u3 := by rw [hV]; rfl
      have v1 : V 1 = (.slice (some ⟨ga, oa, none⟩) l.length capa) := by rw [hV]; rfl
      have v2 : V 2 = (.int .i64 k) := by rw [hV]; rfl
      have v3 : V 3 = (.pointer (some ⟨ga, oa + k * 35, none⟩)) := by rw [hV]; rfl
      have v4 : V 4 = (.pointer (some ⟨ga, oa + k * 35, none⟩)) := by rw [hV]; rfl
      have v5 : V 5 = (.int .i64 x.kind) := by rw [hV]; rfl
      have v6 : V 6 = (.slice (some ⟨ga, oa, none⟩) l.length capa) := by rw [hV]; rfl
      have v7 : V 7 = (.int .i64 k) := by rw [hV]; rfl
      have v8 : V 8 = (.pointer (some ⟨ga, oa + k * 35, none⟩)) := by rw [hV]; rfl
      have v9 : V 9 = (.pointer (some ⟨ga, oa + k * 35 + 1, none⟩)) := by rw [hV]; rfl
      have v10 : V 10 = (.int .i64 x.back) := by rw [hV]; rfl
      have v11 : V 11 = (.slice (some ⟨ga, oa, none⟩) l.length capa) := by rw [hV]; rfl
      have v12 : V 12 = (.int .i64 k) := by rw [hV]; rfl
      have v13 : V 13 = (.pointer (some ⟨ga, oa + k * 35, none⟩)) := by rw [hV]; rfl
      have v14 : V 14 = (.pointer (some ⟨ga, oa + k * 35 + 2, none⟩)) := by rw [hV]; rfl
      have v15 : V 15 = (.agg (u8s x.base)) := by rw [hV]; rfl
      have v16 : V 16 = (.slice (some ⟨ga, oa, none⟩) l.length capa) := by rw [hV]; rfl
      have v17 : V 17 = (.int .i64 k) := by rw [hV]; rfl
      have v18 : V 18 = (.pointer (some ⟨ga, oa + k * 35, none⟩)) := by rw [hV]; rfl
      have v19 : V 19 = (.pointer (some ⟨ga, oa + k * 35 + 34, none⟩)) := by rw [hV]; rfl
      have v20 : V 20 = (.string (B x.data)) := by rw [hV]; rfl
      have v21 : V 21 = (.agg (ritC (x, 0, 0)).toArray) := by rw [hV]; rfl
      clear hV
      refine wp_region_listed (C := ApC w 23 45 37 u3 k (rowsOf (fun x : PItL => ritC (x, 0, 0)) (l.take k))) (R := ApR V 22 w.heap.size 45 37 u3 k (rowsOf (fun x : PItL => ritC (x, 0, 0)) (l.take k)) (ritC (x, 0, 0))) (by kernel_rfl) (by kernel_rfl) (by kernel_rfl) ?_ hC0.drew ?_ ?_
      · exact sizes_spec (n := 36) (by kernel_rfl)
      · intro i o listed a w1 ho hi hL
        have hin := (ready_spec hi).1
        have hsz : listed.size = 25 := hL.size
        match i, ho with
        | 0, ho =>
          obtain rfl := (Option.some.inj ho).symm
          have e0 : a.tmps[3]?.getD undef = u3 := (slot_eval a 3).trans (hL.get_old hi (by kernel_rfl))
          have hc := hL.cls
          refine step_wp rfl rfl ?_
          clear ho hL
          refine wp_val (v := u3) ?_ ⟨_, rfl, ApR.mk (by decide) v0.symm, hc.same (by rw [hsz]; decide) (by decide), fun _ _ _ h => h⟩
          clear hi hin hsz v0 v1 v2 v3 v4 v5 v6 v7 v8 v9 v10 v11 v12 v13 v14 v15 v16 v17 v18 v19 v20 v21  hc
          unfold execOp
          go_simp
        | 1, ho =>
          obtain rfl := (Option.some.inj ho).symm
          have e0 : a.tmps[0]?.getD undef = (.slice (some ⟨ga, oa, none⟩) l.length capa) := (slot_eval a 0).trans (hL.get_old hi (by kernel_rfl))
          have hc := hL.cls
          refine step_wp rfl rfl ?_
          clear ho hL
          refine wp_val (v := (.slice (some ⟨ga, oa, none⟩) l.length capa)) ?_ ⟨_, rfl, ApR.mk (by decide) v1.symm, hc.same (by rw [hsz]; decide) (by decide), fun _ _ _ h => h⟩
          clear hi hin hsz v0 v1 v2 v3 v4 v5 v6 v7 v8 v9 v10 v11 v12 v13 v14 v15 v16 v17 v18 v19 v20 v21  hc
          unfold execOp
          go_simp
        | 2, ho =>
          obtain rfl := (Option.some.inj ho).symm
          have e0 : a.tmps[4]?.getD undef = (.int .i64 k) := (slot_eval a 4).trans (hL.get_old hi (by kernel_rfl))
          have hc := hL.cls
          refine step_wp rfl rfl ?_
          clear ho hL
          refine wp_val (v := (.int .i64 k)) ?_ ⟨_, rfl, ApR.mk (by decide) v2.symm, hc.same (by rw [hsz]; decide) (by decide), fun _ _ _ h => h⟩
          clear hi hin hsz v0 v1 v2 v3 v4 v5 v6 v7 v8 v9 v10 v11 v12 v13 v14 v15 v16 v17 v18 v19 v20 v21  hc
          unfold execOp
          go_simp
        | 3, ho =>
          obtain rfl := (Option.some.inj ho).symm
          have e0 : a.tmps[12]?.getD undef = (.slice (some ⟨ga, oa, none⟩) l.length capa) := (slot_eval a 12).trans ((ApR.at_ (hi := by decide) (hL.get_new (j := 1) hi (by kernel_rfl))).trans v1)
          have e1 : a.tmps[13]?.getD undef = (.int .i64 k) := (slot_eval a 13).trans ((ApR.at_ (hi := by decide) (hL.get_new (j := 2) hi (by kernel_rfl))).trans v2)
          have hc := hL.cls
          refine step_wp rfl rfl ?_
          clear ho hL
          refine wp_val (v := (.pointer (some ⟨ga, oa + k * 35, none⟩))) ?_ ⟨_, rfl, ApR.mk (by decide) v3.symm, hc.same (by rw [hsz]; decide) (by decide), fun _ _ _ h => h⟩
          clear hi hin hsz v0 v1 v2 v3 v4 v5 v6 v7 v8 v9 v10 v11 v12 v13 v14 v15 v16 v17 v18 v19 v20 v21  hc
          unfold execOp
          go_simp
        | 4, ho =>
          obtain rfl := (Option.some.inj ho).symm
          have e0 : a.tmps[14]?.getD undef = (.pointer (some ⟨ga, oa + k * 35, none⟩)) := (slot_eval a 14).trans ((ApR.at_ (hi := by decide) (hL.get_new (j := 3) hi (by kernel_rfl))).trans v3)
          have hc := hL.cls
          refine step_wp rfl rfl ?_
          clear ho hL
          refine wp_val (v := (.pointer (some ⟨ga, oa + k * 35, none⟩))) ?_ ⟨_, rfl, ApR.mk (by decide) v4.symm, hc.same (by rw [hsz]; decide) (by decide), fun _ _ _ h => h⟩
          clear hi hin hsz v0 v1 v2 v3 v4 v5 v6 v7 v8 v9 v10 v11 v12 v13 v14 v15 v16 v17 v18 v19 v20 v21  hc
          unfold execOp
          go_simp
        | 5, ho =>
          obtain rfl := (Option.some.inj ho).symm
          have e0 : a.tmps[15]?.getD undef = (.pointer (some ⟨ga, oa + k * 35, none⟩)) := (slot_eval a 15).trans ((ApR.at_ (hi := by decide) (hL.get_new (j := 4) hi (by kernel_rfl))).trans v4)
          have hc := hL.cls
          refine step_wp rfl rfl ?_
          clear ho hL
          refine wp_val (v := (.int .i64 x.kind)) ?_ ⟨_, rfl, ApR.mk (by decide) v5.symm, hc.same (by rw [hsz]; decide) (by decide), fun _ _ _ h => h⟩
          have hrw := rangeAt_below hca hga hc.bel
          have q := pit_kind hrw
          clear hi hin hsz v0 v1 v2 v3 v4 v5 v6 v7 v8 v9 v10 v11 v12 v13 v14 v15 v16 v17 v18 v19 v20 v21  hc
          unfold execOp
          go_simp
        | 6, ho =>
          obtain rfl := (Option.some.inj ho).symm
          have e0 : a.tmps[0]?.getD undef = (.slice (some ⟨ga, oa, none⟩) l.length capa) := (slot_eval a 0).trans (hL.get_old hi (by kernel_rfl))
          have hc := hL.cls
          refine step_wp rfl rfl ?_
          clear ho hL
          refine wp_val (v := (.slice (some ⟨ga, oa, none⟩) l.length capa)) ?_ ⟨_, rfl, ApR.mk (by decide) v6.symm, hc.same (by rw [hsz]; decide) (by decide), fun _ _ _ h => h⟩
          clear hi hin hsz v0 v1 v2 v3 v4 v5 v6 v7 v8 v9 v10 v11 v12 v13 v14 v15 v16 v17 v18 v19 v20 v21  hc
          unfold execOp
          go_simp
        | 7, ho =>
          obtain rfl := (Option.some.inj ho).symm
          have e0 : a.tmps[4]?.getD undef = (.int .i64 k) := (slot_eval a 4).trans (hL.get_old hi (by kernel_rfl))
          have hc := hL.cls
          refine step_wp rfl rfl ?_
          clear ho hL
          refine wp_val (v := (.int .i64 k)) ?_ ⟨_, rfl, ApR.mk (by decide) v7.symm, hc.same (by rw [hsz]; decide) (by decide), fun _ _ _ h => h⟩
          clear hi hin hsz v0 v1 v2 v3 v4 v5 v6 v7 v8 v9 v10 v11 v12 v13 v14 v15 v16 v17 v18 v19 v20 v21  hc
          unfold execOp
          go_simp
        | 8, ho =>
          obtain rfl := (Option.some.inj ho).symm
          have e0 : a.tmps[17]?.getD undef = (.slice (some ⟨ga, oa, none⟩) l.length capa) := (slot_eval a 17).trans ((ApR.at_ (hi := by decide) (hL.get_new (j := 6) hi (by kernel_rfl))).trans v6)
          have e1 : a.tmps[18]?.getD undef = (.int .i64 k) := (slot_eval a 18).trans ((ApR.at_ (hi := by decide) (hL.get_new (j := 7) hi (by kernel_rfl))).trans v7)
          have hc := hL.cls
          refine step_wp rfl rfl ?_
          clear ho hL
          refine wp_val (v := (.pointer (some ⟨ga, oa + k * 35, none⟩))) ?_ ⟨_, rfl, ApR.mk (by decide) v8.symm, hc.same (by rw [hsz]; decide) (by decide), fun _ _ _ h => h⟩
          clear hi hin hsz v0 v1 v2 v3 v4 v5 v6 v7 v8 v9 v10 v11 v12 v13 v14 v15 v16 v17 v18 v19 v20 v21  hc
          unfold execOp
          go_simp
        | 9, ho =>
          obtain rfl := (Option.some.inj ho).symm
          have e0 : a.tmps[19]?.getD undef = (.pointer (some ⟨ga, oa + k * 35, none⟩)) := (slot_eval a 19).trans ((ApR.at_ (hi := by decide) (hL.get_new (j := 8) hi (by kernel_rfl))).trans v8)
          have hc := hL.cls
          refine step_wp rfl rfl ?_
          clear ho hL
          refine wp_val (v := (.pointer (some ⟨ga, oa + k * 35 + 1, none⟩))) ?_ ⟨_, rfl, ApR.mk (by decide) v9.symm, hc.same (by rw [hsz]; decide) (by decide), fun _ _ _ h => h⟩
          clear hi hin hsz v0 v1 v2 v3 v4 v5 v6 v7 v8 v9 v10 v11 v12 v13 v14 v15 v16 v17 v18 v19 v20 v21  hc
          unfold execOp
          go_simp
        | 10, ho =>
          obtain rfl := (Option.some.inj ho).symm
          have e0 : a.tmps[20]?.getD undef = (.pointer (some ⟨ga, oa + k * 35 + 1, none⟩)) := (slot_eval a 20).trans ((ApR.at_ (hi := by decide) (hL.get_new (j := 9) hi (by kernel_rfl))).trans v9)
          have hc := hL.cls
          refine step_wp rfl rfl ?_
          clear ho hL
          refine wp_val (v := (.int .i64 x.back)) ?_ ⟨_, rfl, ApR.mk (by decide) v10.symm, hc.same (by rw [hsz]; decide) (by decide), fun _ _ _ h => h⟩
          have hrw := rangeAt_below hca hga hc.bel
          have q := pit_back hrw
          clear hi hin hsz v0 v1 v2 v3 v4 v5 v6 v7 v8 v9 v10 v11 v12 v13 v14 v15 v16 v17 v18 v19 v20 v21  hc
          unfold execOp
          go_simp
        | 11, ho =>
          obtain rfl := (Option.some.inj ho).symm
          have e0 : a.tmps[0]?.getD undef = (.slice (some ⟨ga, oa, none⟩) l.length capa) := (slot_eval a 0).trans (hL.get_old hi (by kernel_rfl))
          have hc := hL.cls
          refine step_wp rfl rfl ?_
          clear ho hL
          refine wp_val (v := (.slice (some ⟨ga, oa, none⟩) l.length capa)) ?_ ⟨_, rfl, ApR.mk (by decide) v11.symm, hc.same (by rw [hsz]; decide) (by decide), fun _ _ _ h => h⟩
          clear hi hin hsz v0 v1 v2 v3 v4 v5 v6 v7 v8 v9 v10 v11 v12 v13 v14 v15 v16 v17 v18 v19 v20 v21  hc
          unfold execOp
          go_simp
        | 12, ho =>
          obtain rfl := (Option.some.inj ho).symm
          have e0 : a.tmps[4]?.getD undef = (.int .i64 k) := (slot_eval a 4).trans (hL.get_old hi (by kernel_rfl))
          have hc := hL.cls
          refine step_wp rfl rfl ?_
          clear ho hL
          refine wp_val (v := (.int .i64 k)) ?_ ⟨_, rfl, ApR.mk (by decide) v12.symm, hc.same (by rw [hsz]; decide) (by decide), fun _ _ _ h => h⟩
          clear hi hin hsz v0 v1 v2 v3 v4 v5 v6 v7 v8 v9 v10 v11 v12 v13 v14 v15 v16 v17 v18 v19 v20 v21  hc
          unfold execOp
          go_simp
        | 13, ho =>
          obtain rfl := (Option.some.inj ho).symm
          have e0 : a.tmps[22]?.getD undef = (.slice (some ⟨ga, oa, none⟩) l.length capa) := (slot_eval a 22).trans ((ApR.at_ (hi := by decide) (hL.get_new (j := 11) hi (by kernel_rfl))).trans v11)
          have e1 : a.tmps[23]?.getD undef = (.int .i64 k) := (slot_eval a 23).trans ((ApR.at_ (hi := by decide) (hL.get_new (j := 12) hi (by kernel_rfl))).trans v12)
          have hc := hL.cls
          refine step_wp rfl rfl ?_
          clear ho hL
          refine wp_val (v := (.pointer (some ⟨ga, oa + k * 35, none⟩))) ?_ ⟨_, rfl, ApR.mk (by decide) v13.symm, hc.same (by rw [hsz]; decide) (by decide), fun _ _ _ h => h⟩
          clear hi hin hsz v0 v1 v2 v3 v4 v5 v6 v7 v8 v9 v10 v11 v12 v13 v14 v15 v16 v17 v18 v19 v20 v21  hc
          unfold execOp
          go_simp
        | 14, ho =>
          obtain rfl := (Option.some.inj ho).symm
          have e0 : a.tmps[24]?.getD undef = (.pointer (some ⟨ga, oa + k * 35, none⟩)) := (slot_eval a 24).trans ((ApR.at_ (hi := by decide) (hL.get_new (j := 13) hi (by kernel_rfl))).trans v13)
          have hc := hL.cls
          refine step_wp rfl rfl ?_
          clear ho hL
          refine wp_val (v := (.pointer (some ⟨ga, oa + k * 35 + 2, none⟩))) ?_ ⟨_, rfl, ApR.mk (by decide) v14.symm, hc.same (by rw [hsz]; decide) (by decide), fun _ _ _ h => h⟩
          clear hi hin hsz v0 v1 v2 v3 v4 v5 v6 v7 v8 v9 v10 v11 v12 v13 v14 v15 v16 v17 v18 v19 v20 v21  hc
          unfold execOp
          go_simp
        | 15, ho =>
          obtain rfl := (Option.some.inj ho).symm
          have e0 : a.tmps[25]?.getD undef = (.pointer (some ⟨ga, oa + k * 35 + 2, none⟩)) := (slot_eval a 25).trans ((ApR.at_ (hi := by decide) (hL.get_new (j := 14) hi (by kernel_rfl))).trans v14)
          have hc := hL.cls
          refine step_wp rfl rfl ?_
          clear ho hL
          refine wp_val (v := (.agg (u8s x.base))) ?_ ⟨_, rfl, ApR.mk (by decide) v15.symm, hc.same (by rw [hsz]; decide) (by decide), fun _ _ _ h => h⟩
          have hrw := rangeAt_below hca hga hc.bel
          have q := run_ldvI15 (pit_base hrw) hx32
          clear hi hin hsz v0 v1 v2 v3 v4 v5 v6 v7 v8 v9 v10 v11 v12 v13 v14 v15 v16 v17 v18 v19 v20 v21  hc
          unfold execOp
          go_simp
        | 16, ho =>
          obtain rfl := (Option.some.inj ho).symm
          have e0 : a.tmps[0]?.getD undef = (.slice (some ⟨ga, oa, none⟩) l.length capa) := (slot_eval a 0).trans (hL.get_old hi (by kernel_rfl))
          have hc := hL.cls
          refine step_wp rfl rfl ?_
          clear ho hL
          refine wp_val (v := (.slice (some ⟨ga, oa, none⟩) l.length capa)) ?_ ⟨_, rfl, ApR.mk (by decide) v16.symm, hc.same (by rw [hsz]; decide) (by decide), fun _ _ _ h => h⟩
          clear hi hin hsz v0 v1 v2 v3 v4 v5 v6 v7 v8 v9 v10 v11 v12 v13 v14 v15 v16 v17 v18 v19 v20 v21  hc
          unfold execOp
          go_simp
        | 17, ho =>
          obtain rfl := (Option.some.inj ho).symm
          have e0 : a.tmps[4]?.getD undef = (.int .i64 k) := (slot_eval a 4).trans (hL.get_old hi (by kernel_rfl))
          have hc := hL.cls
          refine step_wp rfl rfl ?_
          clear ho hL
          refine wp_val (v := (.int .i64 k)) ?_ ⟨_, rfl, ApR.mk (by decide) v17.symm, hc.same (by rw [hsz]; decide) (by decide), fun _ _ _ h => h⟩
          clear hi hin hsz v0 v1 v2 v3 v4 v5 v6 v7 v8 v9 v10 v11 v12 v13 v14 v15 v16 v17 v18 v19 v20 v21  hc
          unfold execOp
          go_simp
        | 18, ho =>
          obtain rfl := (Option.some.inj ho).symm
          have e0 : a.tmps[27]?.getD undef = (.slice (some ⟨ga, oa, none⟩) l.length capa) := (slot_eval a 27).trans ((ApR.at_ (hi := by decide) (hL.get_new (j := 16) hi (by kernel_rfl))).trans v16)
          have e1 : a.tmps[28]?.getD undef = (.int .i64 k) := (slot_eval a 28).trans ((ApR.at_ (hi := by decide) (hL.get_new (j := 17) hi (by kernel_rfl))).trans v17)
          have hc := hL.cls
          refine step_wp rfl rfl ?_
          clear ho hL
          refine wp_val (v := (.pointer (some ⟨ga, oa + k * 35, none⟩))) ?_ ⟨_, rfl, ApR.mk (by decide) v18.symm, hc.same (by rw [hsz]; decide) (by decide), fun _ _ _ h => h⟩
          clear hi hin hsz v0 v1 v2 v3 v4 v5 v6 v7 v8 v9 v10 v11 v12 v13 v14 v15 v16 v17 v18 v19 v20 v21  hc
          unfold execOp
          go_simp
        | 19, ho =>
          obtain rfl := (Option.some.inj ho).symm
          have e0 : a.tmps[29]?.getD undef = (.pointer (some ⟨ga, oa + k * 35, none⟩)) := (slot_eval a 29).trans ((ApR.at_ (hi := by decide) (hL.get_new (j := 18) hi (by kernel_rfl))).trans v18)
          have hc := hL.cls
          refine step_wp rfl rfl ?_
          clear ho hL
          refine wp_val (v := (.pointer (some ⟨ga, oa + k * 35 + 34, none⟩))) ?_ ⟨_, rfl, ApR.mk (by decide) v19.symm, hc.same (by rw [hsz]; decide) (by decide), fun _ _ _ h => h⟩
          clear hi hin hsz v0 v1 v2 v3 v4 v5 v6 v7 v8 v9 v10 v11 v12 v13 v14 v15 v16 v17 v18 v19 v20 v21  hc
          unfold execOp
          go_simp
        | 20, ho =>
          obtain rfl := (Option.some.inj ho).symm
          have e0 : a.tmps[30]?.getD undef = (.pointer (some ⟨ga, oa + k * 35 + 34, none⟩)) := (slot_eval a 30).trans ((ApR.at_ (hi := by decide) (hL.get_new (j := 19) hi (by kernel_rfl))).trans v19)
          have hc := hL.cls
          refine step_wp rfl rfl ?_
          clear ho hL
          refine wp_val (v := (.string (B x.data))) ?_ ⟨_, rfl, ApR.mk (by decide) v20.symm, hc.same (by rw [hsz]; decide) (by decide), fun _ _ _ h => h⟩
          have hrw := rangeAt_below hca hga hc.bel
          have q := pit_data hx32 hrw
          clear hi hin hsz v0 v1 v2 v3 v4 v5 v6 v7 v8 v9 v10 v11 v12 v13 v14 v15 v16 v17 v18 v19 v20 v21  hc
          unfold execOp
          go_simp
        | 21, ho =>
          obtain rfl := (Option.some.inj ho).symm
          have e0 : a.tmps[16]?.getD undef = (.int .i64 x.kind) := (slot_eval a 16).trans ((ApR.at_ (hi := by decide) (hL.get_new (j := 5) hi (by kernel_rfl))).trans v5)
          have e1 : a.tmps[21]?.getD undef = (.int .i64 x.back) := (slot_eval a 21).trans ((ApR.at_ (hi := by decide) (hL.get_new (j := 10) hi (by kernel_rfl))).trans v10)
          have e2 : a.tmps[26]?.getD undef = (.agg (u8s x.base)) := (slot_eval a 26).trans ((ApR.at_ (hi := by decide) (hL.get_new (j := 15) hi (by kernel_rfl))).trans v15)
          have e3 : a.tmps[31]?.getD undef = (.string (B x.data)) := (slot_eval a 31).trans ((ApR.at_ (hi := by decide) (hL.get_new (j := 20) hi (by kernel_rfl))).trans v20)
          have hc := hL.cls
          refine step_wp rfl rfl ?_
          clear ho hL
          refine build_step rfl (built_rit x hx32) (parts4 (slot_is e0) (slot_is e1) (slot_is e2) (slot_is e3)) ⟨_, rfl, ApR.mk (by decide) v21.symm, hc.same (by rw [hsz]; decide) (by decide), fun _ _ _ h => h⟩
        | 22, ho =>
          obtain rfl := (Option.some.inj ho).symm
          have e0 : a.tmps[32]?.getD undef = (.agg (ritC (x, 0, 0)).toArray) := (slot_eval a 32).trans ((ApR.at_ (hi := by decide) (hL.get_new (j := 21) hi (by kernel_rfl))).trans v21)
          have hc := hL.cls
          have hla := hL.later (j := 23) hi (by kernel_rfl)
          clear ho hL
          refine step_wp rfl rfl ?_
          refine slice_step rfl Tryd.ritTy (by decide) (ritC_len hx32) (.inl (slot_is e0)) ⟨_, rfl, ApR.lit (Blk.new _ _ _) (hc.fresh hla), (hc.same (by rw [hsz]; decide) (by decide)).alloc _, fun j u _ h => h.alloc _⟩
        | 23, ho =>
          obtain rfl := (Option.some.inj ho).symm
          have e0 : a.tmps[11]?.getD undef = u3 := (slot_eval a 11).trans ((ApR.at_ (hi := by decide) (hL.get_new (j := 0) hi (by kernel_rfl))).trans v0)
          have e1 := hL.get_new (j := 22) (t := 33) hi (by kernel_rfl)
          have hc := hL.cls
          have hla : listed.getD 23 false = false := by rw [getD_of_size (by rw [hsz]; exact hin)]; exact (ready_spec hi).2.1
          have hlb := hL.later (j := 24) hi (by kernel_rfl)
          obtain ⟨b5, h5, hb5, hne5⟩ := ApR.litAt e1
          clear ho hL
          refine step_wp rfl rfl ?_
          refine wp_append_blk (.tmp 11) (.tmp 33) _ rfl _ _ 37 80 Tryd.ritTy w.heap.size u3 k (rowsOf (fun x : PItL => ritC (x, 0, 0)) (l.take k)) (slot_is e0) (hc.own hla) b5 1 1 _ _ h5 hb5 (ritC_size hx32) (by intro u hu; rw [List.toList_toArray] at hu; exact ritC_one _ u hu) k1 k2 w hc.bel hc.bel.size ?_
          intro v6 w6 hown6 hbel6 hg6
          refine ⟨_, rfl, ApR.own (by decide) hown6, hc.grown (by rw [hsz]; decide) hbel6, fun j u hj h => ApR.append ?_ h hg6⟩
          intro hj6
          have : j = 23 ∨ j = 24 ∨ 25 ≤ j := by omega
          rcases this with rfl | rfl | h8
          · rw [hla] at hj; cases hj
          · rw [hlb] at hj; cases hj
          · simp [Array.getD, hsz, show ¬ j < 25 by omega] at hj
        | 24, ho =>
          obtain rfl := (Option.some.inj ho).symm
          have e0 := hL.get_new (j := 23) (t := 34) hi (by kernel_rfl)
          have hc := hL.cls
          clear ho hL
          refine step_wp rfl rfl ?_
          have e1 : a.tmps[34]?.getD undef = a.eval (.tmp 34) := slot_eval a 34
          generalize a.eval (.tmp 34) = vz at e0 e1
          refine wp_val (v := vz) ?_ ⟨_, rfl, ApR.own (by decide) (ApR.ownAt (by decide) e0), hc.same (by rw [hsz]; decide) (by decide), fun _ _ _ h => h⟩
          clear hc hi hin hsz v0 v1 v2 v3 v4 v5 v6 v7 v8 v9 v10 v11 v12 v13 v14 v15 v16 v17 v18 v19 v20 v21 e0
          unfold execOp
          go_simp
        | (n + 25), ho => exact absurd hin (by simp)
      · intro a w1 listed hL hall
        have hc := hL.cls
        obtain ⟨vs, rfl, hR⟩ := hL.frame (by kernel_rfl) (sizes_spec (n := 36) (by kernel_rfl)) hall
        simp only [putAll, Act.put, List.setIfInBounds_toArray, List.set_cons_zero, List.set_cons_succ]
        simp only [Nat.zero_add, Nat.reduceAdd]
        have hend := ApR.ownAt (by decide) (hR 24 _ 3 rfl rfl)
        have hbel5 := hc.bel
        generalize vs 24 = v7 at hend
        clear hR hc hL
        rw [hmore.out] at hend
        go_wp2
        go_roundw
        case rel => exact ⟨k + 1, by go_num, by omega, hend, hbel5⟩
        case measure => simp [intOf]; omega
    · have hki : ¬ (k : Int) < (l.length : Int) := by omega
      obtain rfl : k = l.length := by omega
      rw [List.take_length] at hown
      go_wp2
      go_ret
      refine ⟨_, rfl, ?_, hbel⟩
      unfold OwnRits asL
      rw [rowsOf_map, List.length_map]
      exact hown
end Go.Proofs.YtoekdiklbfdpiaaDoor
/- The walks of layer 15's law: knows, few. Condition: the table of constants is as the program lays it. -/
namespace Go.Proofs.YtoekdiklbfdpiaaDoor
open Go.RowKit
attribute [local go_sem ↓] ldvI_eq
def kn6 : Txt := [75, 78, 65, 80, 1, 0]
theorem kn_enc (e : Ending) (h : EncR [] e) : e = .returned (.tuple #[.string (B (kn6 ++ shaOf kn6)), .int .i64 0]) := by
  have hf : fineP [] = true := rfl
  unfold EncR at h
  rw [if_pos hf] at h
  obtain ⟨s, ⟨t, ht, hs⟩, he⟩ := h
  obtain rfl : t = [] := ht
  have h6 : pk5 ++ put ([] : List PItL).length ++ [] = kn6 := by rfl
  rw [h6] at hs
  have hl : ¬ 262144 < s.length := by rw [hs, List.length_append, shaOf_length]; decide
  rw [if_neg hl, hs] at he
  exact he
theorem kn_dec : decP [75, 78, 65, 80] = ([], 2) := by
  unfold decP openP
  rfl
set_option maxRecDepth 100000 in
set_option maxHeartbeats 4000000 in
theorem knows_calls15 (w : World) (hK : TabK w) : Calls Tryd.prog 7 #[] w fun e w' => e = .returned (.bool true) ∧ Below w.heap.size w w' := by
  have he := Lib.hid ((encode_calls15 [] (fun x hx => by simp at hx) (.slice none 0 0) w hK SliceAt.nil).mono fun e w' h => (⟨kn_enc e h.1, h.2⟩ : e = .returned (.tuple #[.string (B (kn6 ++ shaOf kn6)), .int .i64 0]) ∧ Below w.heap.size w w'))
  have hd := fun W (hb : Below w.heap.size w W) => packDecode_calls [75, 78, 65, 80] (by decide) W (hK.below hb)
  rw [kn_dec] at hd
  have hd : ∀ W, Below w.heap.size w W → Calls Tryd.prog 10 #[.string ⟨#[75, 78, 65, 80]⟩] W fun e w' => ∃ v, e = .returned (.tuple #[v, .int .i64 2]) ∧ OwnPits w' W.heap.size v [] ∧ Below W.heap.size W w' := hd
  have hsum := fun W => refSum_calls kn6 W (by decide)
  have hl32 := shaOf_length kn6
  have hsI := sz32
  have hD32 : (u8s (shaOf kn6)).size = 32 := by rw [u8s_size, hl32]
  have hDone := u8s_one (shaOf kn6)
  have hstr := fun (W : World) (g : Nat) (h : Blk W g 36 (u8s (shaOf kn6))) => by
    have := str_of_blk W h
    rw [hl32] at this
    exact this
  have hzI : ∀ W : World, (zeroValue 36).run Tryd.prog W = .ok (.agg (u8s noId')) W := fun W => by
    have h : (Tryd.prog.info? 36).map (·.zero) = some (some (.agg (u8s noId'))) := by kernel_rfl
    obtain ⟨i, h1, h2⟩ := Option.map_eq_some_iff.1 h
    simp [zeroValue, typeInfo, h1, h2]
  have hzl : (u8s noId').size = 32 := by rw [u8s_size, noId_len']
  generalize shaOf kn6 = SH at *
  generalize u8s noId' = ZI at *
  obtain ⟨ZS, hZS⟩ : ∃ ZS, kn6 ++ SH = ZS := ⟨_, rfl⟩
  rw [hZS] at he
  have hZS2 : (75 :: 78 :: 65 :: 80 :: 1 :: 0 :: SH : List UInt8) = ZS := hZS
  have hk6 : kn6 = [75, 78, 65, 80, 1, 0] := rfl
  rw [hk6] at hsum
  have hsum : ∀ W, Calls Tryd.prog 13 #[.string ⟨#[75, 78, 65, 80, 1, 0]⟩] W fun e w' => e = .returned (.agg (u8s SH)) ∧ Below W.heap.size W w' := hsum
  clear hZS hk6
  go_enter Tryd.func7, Tryd.ntmps7
  go_wp2_with (first
    | ((with_reducible refine he.out.mono ?_); rintro e w1 ⟨rfl, b1⟩)
    | ((with_reducible refine (hd _ b1).mono ?_); rintro e w2 ⟨v, rfl, o2, b2⟩
       have bb2 := bthen b1 b1.size b2)
    | ((with_reducible refine (hsum _).mono ?_); rintro e w3 ⟨rfl, b3⟩
       have bb3 := bthen bb2 bb2.size b3)
    | ((with_reducible refine lit_new 36 (.tmp 5) (.tmp 14) (u8s SH) 32 hsI hD32 hDone _ ?_ ?_ ?_ ?_)
       · first | exact hzl | rfl
       · rfl
       · rfl
       intro W4 hb4 hbl4
       have bb4 := bthen bb3 bb3.size hbl4
       have hcv := hstr W4 w3.heap.size hb4))
  all_goals try (exfalso; omega)
  go_ret
  exact ⟨rfl, bb4⟩
def Few15 (l : List PItL) (e : Ending) : Prop := ∃ b, e = .returned (.bool b) ∧ (b = true → l.length ≤ 20 ∧ ∀ x ∈ l, x.data.length ≤ 5000)
set_option maxRecDepth 100000 in
set_option maxHeartbeats 4000000 in
theorem few_calls15 (l : List PItL) (hok : PitsOk l) (va : Value) (w : World) (ha : Pits w va l) : Calls Tryd.prog 6 #[va] w fun e w' => Few15 l e ∧ Below w.heap.size w w' := by
  have hla := ha.len
  obtain ⟨A, capa, rfl, ha1, ha2, hata⟩ := ha
  go_enter Tryd.func6, Tryd.ntmps6
  go_wp2
  go_loopw [3] (fun i wr => ∃ k : Nat, i = .int .i64 k ∧ k ≤ l.length ∧ k ≤ 20 ∧ (∀ j x, j < k → l[j]? = some x → x.data.length ≤ 5000) ∧ Below w.heap.size w wr) (fun i _ => l.length - (intOf i).toNat)
  case atStart => exact ⟨0, rfl, by omega, by omega, fun j x hj => by omega, Below.refl _ _⟩
  case round =>
    obtain ⟨k, rfl, hk, hk20, hall, hbel⟩ := hrel
    by_cases hlt : k < l.length
    · have hki : (k : Int) < (l.length : Int) := by omega
      by_cases h20 : k < 20
      · have hk2 : (k : Int) < 20 := by omega
        obtain ⟨ga, oa, rfl, hga, hca⟩ := hata (by omega)
        obtain ⟨x, hx⟩ : ∃ x, l[k]? = some x := ⟨_, List.getElem?_eq_getElem hlt⟩
        have hx32 : x.base.length = 32 := hok x (List.mem_of_getElem? hx)
        have q3 := pit_data hx32 (rangeAt_below (hca k x hx) hga hbel)
        by_cases hd : x.data.length ≤ 5000
        · have d1 : ¬ (5000 : Int) < (x.data.length : Int) := by omega
          have hall2 : ∀ j y, j < k + 1 → l[j]? = some y → y.data.length ≤ 5000 := fun j y hj hy => by
            by_cases e : j = k
            · subst e
              rw [hx] at hy
              injection hy with hy
              rw [← hy]; exact hd
            · exact hall j y (by omega) hy
          clear hx hata hca hd hall
          go_wp2
          all_goals try (exfalso; omega)
          go_roundw
          case rel => exact ⟨k + 1, by go_num, by omega, by omega, hall2, hbel⟩
          case measure => simp [intOf]; omega
        · have d1 : (5000 : Int) < (x.data.length : Int) := by omega
          clear hx hata hca hd hall
          go_wp2
          all_goals try (exfalso; omega)
          go_ret
          exact ⟨⟨false, rfl, fun h => by cases h⟩, hbel⟩
      · have hk2 : ¬ (k : Int) < 20 := by omega
        have hno : ¬ (l.length : Int) ≤ 20 := by omega
        go_wp2
        all_goals try (exfalso; omega)
        go_ret
        exact ⟨⟨_, rfl, fun h => by simp at h⟩, hbel⟩
    · have hki : ¬ (k : Int) < (l.length : Int) := by omega
      have h20 : (l.length : Int) ≤ 20 := by omega
      go_wp2
      all_goals try (exfalso; omega)
      go_ret
      refine ⟨⟨_, rfl, fun _ => ⟨by omega, fun x hx => ?_⟩⟩, hbel⟩
      obtain ⟨j, hj, rfl⟩ := List.getElem_of_mem hx
      exact hall j _ (by omega) (List.getElem?_eq_getElem hj)
end Go.Proofs.YtoekdiklbfdpiaaDoor
/- The walk of layer 15's law: PackDecodes. Condition: the table of constants is as the program lays it. -/
namespace Go.Proofs.YtoekdiklbfdpiaaDoor
open Go.RowKit
attribute [local go_sem ↓] ldvI_eq
theorem readP_count (E : Nat) : ∀ (n i : Nat) (rest : Txt) (acc : List Pl), (readP E n i rest acc).1.length ≤ acc.length + n
  | 0, i, rest, acc => by
    rw [readP]
    split <;> simp
  | n + 1, i, rest, acc => by
    rw [readP]
    split
    · exact Nat.zero_le _
    · refine Nat.le_trans (readP_count E n _ _ _) ?_
      rw [List.length_append]
      simp only [List.length_cons, List.length_nil]
      omega
theorem decP_few (s : Txt) : (decP s).1.length ≤ 400 := by
  unfold decP
  split
  · simp
  · rename_i n r h
    have := readP_count (s.length - 32) n 0 r []
    have := (openP_ok h).1
    simp only [List.length_nil] at *
    omega
theorem decP_items (s : Txt) : ∀ p ∈ (decP s).1, p.1.base.length = 32 := by
  unfold decP
  split
  · intro p hp; simp at hp
  · exact readP_items _ _ _ _ _ (fun p hp => by simp at hp)
/-- What lies there while places and items are looked at. -/
structure PlC (w : World) (ga oa gb ob : Nat) (x : Pl) (w' : World) : Prop where
  a_ : w'.rangeAt ga oa (plC x)
  b_ : w'.rangeAt gb ob (ritC x)
  bel : Below w.heap.size w w'
theorem PlC.drew {w : World} {ga oa gb ob : Nat} {x : Pl} {w' : World} (h : PlC w ga oa gb ob x w') : PlC w ga oa gb ob x w'.drew := ⟨h.a_, h.b_, h.bel.drew⟩
set_option maxRecDepth 100000 in
set_option maxHeartbeats 8000000 in
theorem packDecodes_calls (s : Txt) (hs : s.length ≤ 9223372036854775807) (seal_ : Bool) (w : World) (hK : TabK w) : Calls Tryd.prog 4 #[.string (B s), .bool seal_] w fun e w' => e = .returned (.bool true) ∧ Below w.heap.size w w' := by
  have hkn := fun W (hb : Below w.heap.size w W) => Lib.hid (knows_calls15 W (hK.below hb))
  by_cases h500 : s.length ≤ 500
  · have i1 : ¬ (500 : Int) < (s.length : Int) := by omega
    cases seal_
    · obtain ⟨S, hS⟩ : ∃ S, s = S := ⟨_, rfl⟩
      subst hS
      have hsl : s.length ≤ 1000 := by omega
      have hdc := fun W (hb : Below w.heap.size w W) => packDecode_calls s (by omega) W (hK.below hb)
      have hpc := fun W (hb : Below w.heap.size w W) => packPlaces_calls s (by omega) W (hK.below hb)
      have hrc := fun W => refDecode_calls s (by omega) W
      have hfew := decP_few s
      have hit := decP_items s
      obtain ⟨⟨X, xe⟩, hX⟩ : ∃ X, decP s = X := ⟨_, rfl⟩
      rw [hX] at hdc hpc hrc hfew hit
      simp only at hdc hpc hrc hfew hit
      clear hX
      have hokX : PitsOk (X.map (·.1)) := fun x hx => by
        obtain ⟨p, hp, rfl⟩ := List.mem_map.1 hx
        exact hit p hp
      have has := fun v W (h : Pits W v (X.map (·.1))) => as_calls15 (X.map (·.1)) hokX (by rw [List.length_map]; omega) v W h
      have hsm := fun v1 v2 W (h1 : Rits W v1 (asL (X.map (·.1)))) (h2 : Rits W v2 X) => same_calls15 (asL (X.map (·.1))) X (asL_fst _) (asL_ok hokX) v1 v2 W h1 h2
      go_enter Tryd.func4, Tryd.ntmps4
      go_wp2_with (first
        | ((with_reducible refine (hdc _ (Below.refl _ _)).mono ?_); rintro e w5 ⟨v5, rfl, o5, b5⟩
           have bb5 := bthen (Below.refl _ _) (Nat.le_refl _) b5
           have p5 := OwnPits.pits hit o5)
        | ((with_reducible refine (hpc _ bb5).mono ?_); rintro e w6 ⟨v6, rfl, o6, b6⟩
           have bb6 := bthen bb5 bb5.size b6
           have q6 := OwnPls.pls o6
           have p6 := p5.below b6)
        | ((with_reducible refine (hrc _).mono ?_); rintro e w7 ⟨v7, rfl, o7, b7⟩
           have bb7 := bthen bb6 bb6.size b7
           have q7 := q6.below b7
           have p7 := p6.below b7
           have r7 := OwnRits.rits hit o7)
        | ((with_reducible refine (has _ _ p7).mono ?_); rintro e w8 ⟨v8, rfl, o8, b8⟩
           have bb8 := bthen bb7 bb7.size b8
           have q8 := q7.below b8
           have r8 := r7.below b8
           have s8 := OwnRits.rits (asL_ok hokX) o8
           obtain ⟨A6, k6, e6⟩ := own_form' o6
           obtain ⟨A7, k7, e7⟩ := own_form' o7
           subst e6 e7)
        | ((with_reducible refine (hsm _ _ _ s8 r8).mono ?_); rintro e w9 ⟨rfl, b9⟩
           have bb9 := bthen bb8 bb8.size b9
           have q9 := q8.below b9
           have r9 := r8.below b9))
      all_goals try (exfalso; omega)
      clear o5 o6 o7 o8 p5 p6 p7 q6 q7 q8 r7 r8 s8 b5 b6 b7 b8 b9 bb5 bb6 bb7 bb8 hdc hpc hrc has hsm
      obtain ⟨_, _, e1, ha1, ha2, hata⟩ := q9
      obtain ⟨_, _, e2, hb1, hb2, hatb⟩ := r9
      cases e1
      cases e2
      obtain ⟨W9, hW9⟩ : ∃ W, w9 = W := ⟨_, rfl⟩
      go_loopw [13] (fun i wr => ∃ k : Nat, i = .int .i64 k ∧ k ≤ X.length ∧ Below W9.heap.size W9 wr) (fun i _ => X.length - (intOf i).toNat)
      case atStart => exact ⟨0, rfl, by omega, by rw [hW9]; exact Below.refl _ _⟩
      case round =>
        obtain ⟨k, rfl, hk, hbel⟩ := hrel
        have bbr := bthen (hW9 ▸ bb9) (hW9 ▸ bb9).size hbel
        by_cases hlt : k < X.length
        · have hki : (k : Int) < (X.length : Int) := by omega
          obtain ⟨ga, oa, rfl, hga, hca⟩ := hata (by omega)
          obtain ⟨gb, ob, rfl, hgb, hcb⟩ := hatb (by omega)
          obtain ⟨x, hx⟩ : ∃ x, X[k]? = some x := ⟨_, List.getElem?_eq_getElem hlt⟩
          have hx32 : x.1.base.length = 32 := hit _ (List.mem_of_getElem? hx)
          subst hW9
          have hS : PlC w9 ga (oa + k * 2) gb (ob + k * 37) x wr := ⟨rangeAt_below (hca k x hx) hga hbel, rangeAt_below (hcb k x hx) hgb hbel, hbel⟩
          clear hx hata hatb hca hcb hbel hit bbr
          go_wp2
          refine wp_region_class (C := PlC w9 ga (oa + k * 2) gb (ob + k * 37) x) (by kernel_rfl) (by kernel_rfl) hS.drew ?_
          repeat
            first
              | ((with_reducible refine wpQuiet_ex ?_ ?_)
                 · (go_simp; done)
                 apply Exists.intro
                 refine ⟨fun W hW => ?_, ?_⟩
                 · (have q0 : W.cell? ⟨ga, oa + k * 2, none⟩ = some (.int .i64 x.2.1) := by have := hW.a_ 0 _ rfl; rwa [Nat.add_zero] at this
                    have q1 : W.cell? ⟨ga, oa + k * 2 + 1, none⟩ = some (.int .i64 x.2.2) := hW.a_ 1 _ rfl
                    have r0 := rit_at hx32 hW.b_
                    have r1 := rit_len hx32 hW.b_
                    go_simp
                    first
                      | rfl)
                 simp only [Act.put, List.setIfInBounds_toArray, List.set_cons_zero, List.set_cons_succ])
              | ((with_reducible refine wpQuiet_pass ?_ ?_)
                 · (first | rfl | (go_simp; done))
                 simp only [Act.put, List.setIfInBounds_toArray, List.set_cons_zero, List.set_cons_succ])
          with_reducible refine wpQuiet_nil ?_
          intro w5 hW5
          go_wp2
          go_roundw
          case rel => exact ⟨k + 1, by go_num, by omega, hW5.bel⟩
          case measure => simp [intOf]; omega
        · have hki : ¬ (k : Int) < (X.length : Int) := by omega
          have hkf := hkn _ bbr
          go_wp2_with (first
            | ((with_reducible refine hkf.out.mono ?_); rintro e w12 ⟨rfl, b12⟩))
          go_ret
          exact ⟨rfl, bthen bbr bbr.size b12⟩
    · have hsum := Lib.hid (refSum_calls s w (by omega))
      have hl32 := shaOf_length s
      have hsI := sz32
      have hD32 : (u8s (shaOf s)).size = 32 := by rw [u8s_size, hl32]
      have hDone := u8s_one (shaOf s)
      have hstr := fun (W : World) (g : Nat) (h : Blk W g 36 (u8s (shaOf s))) => by
        have := str_of_blk W h
        rw [hl32] at this
        exact this
      have hzI : ∀ W : World, (zeroValue 36).run Tryd.prog W = .ok (.agg (u8s noId')) W := fun W => by
        have h : (Tryd.prog.info? 36).map (·.zero) = some (some (.agg (u8s noId'))) := by kernel_rfl
        obtain ⟨i, h1, h2⟩ := Option.map_eq_some_iff.1 h
        simp [zeroValue, typeInfo, h1, h2]
      have hzl : (u8s noId').size = 32 := by rw [u8s_size, noId_len']
      obtain ⟨S, hS⟩ : ∃ S, s ++ shaOf s = S := ⟨_, rfl⟩
      have hsl : S.length ≤ 1000 := by rw [← hS, List.length_append, hl32]; omega
      have hdc := fun W (hb : Below w.heap.size w W) => packDecode_calls S (by omega) W (hK.below hb)
      have hpc := fun W (hb : Below w.heap.size w W) => packPlaces_calls S (by omega) W (hK.below hb)
      have hrc := fun W => refDecode_calls S (by omega) W
      have hfew := decP_few S
      have hit := decP_items S
      obtain ⟨⟨X, xe⟩, hX⟩ : ∃ X, decP S = X := ⟨_, rfl⟩
      rw [hX] at hdc hpc hrc hfew hit
      simp only at hdc hpc hrc hfew hit
      clear hX
      have hokX : PitsOk (X.map (·.1)) := fun x hx => by
        obtain ⟨p, hp, rfl⟩ := List.mem_map.1 hx
        exact hit p hp
      have has := fun v W (h : Pits W v (X.map (·.1))) => as_calls15 (X.map (·.1)) hokX (by rw [List.length_map]; omega) v W h
      have hsm := fun v1 v2 W (h1 : Rits W v1 (asL (X.map (·.1)))) (h2 : Rits W v2 X) => same_calls15 (asL (X.map (·.1))) X (asL_fst _) (asL_ok hokX) v1 v2 W h1 h2
      generalize shaOf s = SH at *
      generalize u8s noId' = ZI at *
      go_enter Tryd.func4, Tryd.ntmps4
      go_wp2_with (first
        | ((with_reducible refine hsum.out.mono ?_); rintro e w3 ⟨rfl, b3⟩)
        | ((with_reducible refine lit_new 36 (.tmp 5) (.tmp 20) (u8s SH) 32 hsI hD32 hDone _ ?_ ?_ ?_ ?_)
           · first | exact hzl | rfl
           · rfl
           · rfl
           intro W4 hb4 hbl4
           have bb4 := bthen b3 b3.size hbl4
           have hcv := hstr W4 w3.heap.size hb4)
        | ((with_reducible refine (hdc _ bb4).mono ?_); rintro e w5 ⟨v5, rfl, o5, b5⟩
           have bb5 := bthen bb4 bb4.size b5
           have p5 := OwnPits.pits hit o5)
        | ((with_reducible refine (hpc _ bb5).mono ?_); rintro e w6 ⟨v6, rfl, o6, b6⟩
           have bb6 := bthen bb5 bb5.size b6
           have q6 := OwnPls.pls o6
           have p6 := p5.below b6)
        | ((with_reducible refine (hrc _).mono ?_); rintro e w7 ⟨v7, rfl, o7, b7⟩
           have bb7 := bthen bb6 bb6.size b7
           have q7 := q6.below b7
           have p7 := p6.below b7
           have r7 := OwnRits.rits hit o7)
        | ((with_reducible refine (has _ _ p7).mono ?_); rintro e w8 ⟨v8, rfl, o8, b8⟩
           have bb8 := bthen bb7 bb7.size b8
           have q8 := q7.below b8
           have r8 := r7.below b8
           have s8 := OwnRits.rits (asL_ok hokX) o8
           obtain ⟨A6, k6, e6⟩ := own_form' o6
           obtain ⟨A7, k7, e7⟩ := own_form' o7
           subst e6 e7)
        | ((with_reducible refine (hsm _ _ _ s8 r8).mono ?_); rintro e w9 ⟨rfl, b9⟩
           have bb9 := bthen bb8 bb8.size b9
           have q9 := q8.below b9
           have r9 := r8.below b9))
      all_goals try (exfalso; omega)
      clear hsum hsI hD32 hDone hstr hzI hzl
      clear o5 o6 o7 o8 p5 p6 p7 q6 q7 q8 r7 r8 s8 b5 b6 b7 b8 b9 bb5 bb6 bb7 bb8 hdc hpc hrc has hsm
      obtain ⟨_, _, e1, ha1, ha2, hata⟩ := q9
      obtain ⟨_, _, e2, hb1, hb2, hatb⟩ := r9
      cases e1
      cases e2
      obtain ⟨W9, hW9⟩ : ∃ W, w9 = W := ⟨_, rfl⟩
      go_loopw [13] (fun i wr => ∃ k : Nat, i = .int .i64 k ∧ k ≤ X.length ∧ Below W9.heap.size W9 wr) (fun i _ => X.length - (intOf i).toNat)
      case atStart => exact ⟨0, rfl, by omega, by rw [hW9]; exact Below.refl _ _⟩
      case round =>
        obtain ⟨k, rfl, hk, hbel⟩ := hrel
        have bbr := bthen (hW9 ▸ bb9) (hW9 ▸ bb9).size hbel
        by_cases hlt : k < X.length
        · have hki : (k : Int) < (X.length : Int) := by omega
          obtain ⟨ga, oa, rfl, hga, hca⟩ := hata (by omega)
          obtain ⟨gb, ob, rfl, hgb, hcb⟩ := hatb (by omega)
          obtain ⟨x, hx⟩ : ∃ x, X[k]? = some x := ⟨_, List.getElem?_eq_getElem hlt⟩
          have hx32 : x.1.base.length = 32 := hit _ (List.mem_of_getElem? hx)
          subst hW9
          have hS : PlC w9 ga (oa + k * 2) gb (ob + k * 37) x wr := ⟨rangeAt_below (hca k x hx) hga hbel, rangeAt_below (hcb k x hx) hgb hbel, hbel⟩
          clear hx hata hatb hca hcb hbel hit bbr
          go_wp2
          refine wp_region_class (C := PlC w9 ga (oa + k * 2) gb (ob + k * 37) x) (by kernel_rfl) (by kernel_rfl) hS.drew ?_
          repeat
            first
              | ((with_reducible refine wpQuiet_ex ?_ ?_)
                 · (go_simp; done)
                 apply Exists.intro
                 refine ⟨fun W hW => ?_, ?_⟩
                 · (have q0 : W.cell? ⟨ga, oa + k * 2, none⟩ = some (.int .i64 x.2.1) := by have := hW.a_ 0 _ rfl; rwa [Nat.add_zero] at this
                    have q1 : W.cell? ⟨ga, oa + k * 2 + 1, none⟩ = some (.int .i64 x.2.2) := hW.a_ 1 _ rfl
                    have r0 := rit_at hx32 hW.b_
                    have r1 := rit_len hx32 hW.b_
                    go_simp
                    first
                      | rfl)
                 simp only [Act.put, List.setIfInBounds_toArray, List.set_cons_zero, List.set_cons_succ])
              | ((with_reducible refine wpQuiet_pass ?_ ?_)
                 · (first | rfl | (go_simp; done))
                 simp only [Act.put, List.setIfInBounds_toArray, List.set_cons_zero, List.set_cons_succ])
          with_reducible refine wpQuiet_nil ?_
          intro w5 hW5
          go_wp2
          go_roundw
          case rel => exact ⟨k + 1, by go_num, by omega, hW5.bel⟩
          case measure => simp [intOf]; omega
        · have hki : ¬ (k : Int) < (X.length : Int) := by omega
          have hkf := hkn _ bbr
          go_wp2_with (first
            | ((with_reducible refine hkf.out.mono ?_); rintro e w12 ⟨rfl, b12⟩))
          go_ret
          exact ⟨rfl, bthen bbr bbr.size b12⟩
  · have i1 : (500 : Int) < (s.length : Int) := by omega
    go_enter Tryd.func4, Tryd.ntmps4
    go_wp2_with (first
      | ((with_reducible refine (hkn _ (Below.refl _ _)).out.mono ?_); rintro e w9 ⟨rfl, b9⟩))
    all_goals try (exfalso; omega)
    go_ret
    exact ⟨rfl, b9⟩
end Go.Proofs.YtoekdiklbfdpiaaDoor
/- What the row's list of variables gives: the table of constants; and a world that meets it. No condition. -/
namespace Go.Proofs.YtoekdiklbfdpiaaDoor
open Go.ChangeShapes Go.WideShapes Go.ChangeAt Go.RowKit

theorem gTab : Tryd.prog.globalNamed "knapsack/sha256.constants" = some 0 := by kernel_rfl
theorem gTabType : (Tryd.prog.globals[0]?).map (·.type) = some 66 := by kernel_rfl
theorem cellsTab : Tryd.prog.cellsOf 66 = 64 := by kernel_rfl
theorem cellsU32 : Tryd.prog.cellsOf 47 = 1 := by kernel_rfl
theorem laid_is : (Rows.laid_knapsack_sha256_constants : DataW Unit) = Lib.tabData .u32 (K256.map fun n => ((n : Nat) : Int)) := by kernel_rfl
theorem tabK_of {W : World} (h : laidMetH Tryd.prog [("knapsack/sha256.constants", Rows.laid_knapsack_sha256_constants)] W) : TabK W := by
  rw [laid_is] at h
  have ht := Lib.tabIs_of_head (rest := []) gTab gTabType Tryd.underlying66 Tryd.underlying47 cellsU32 cellsTab h
  have hc (t : Nat) (h64 : t < 64) : W.cell? ⟨0, t, none⟩ = some (.int .u32 (K256.getD t 0 : Nat)) := by
    rw [ht.cell gTab t (by rw [List.length_map, K256_length]; exact h64)]
    have : t < K256.length := by rw [K256_length]; exact h64
    simp [List.getD, List.getElem?_map, List.getElem?_eq_getElem this]
  exact ⟨World.block_lt_of_cell? W _ (hc 0 (by omega)), hc⟩
/-- A world for the witness: the settled one, the table as its initialiser lays it. -/
noncomputable def laidWorld (os : Os) : World :=
  { World.holding Tryd.prog os ⟨#[], #[], []⟩ with heap := (World.holding Tryd.prog os ⟨#[], #[], []⟩).heap.modify 0 fun
      | .cells _ t frozen => .cells (u32s K256) t frozen
      | o => o }
end Go.Proofs.YtoekdiklbfdpiaaDoor
