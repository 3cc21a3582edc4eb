/- Lemmas and walks of this seat, laid together: PkY, PkK, PkZ, ByL, PkQ, PkN, OpenE, OpenId, OpenPk, Tab. -/
import Derived.Test.YtoekdiklbfdpiaaDoorMf
import Derived.Lib.LaidTab
import Derived.Test.YtoekdiklbfdpiaaDoorCards
import Derived.WalkKit
import Derived.ProofKit
import Derived.OpenShut
import Derived.Deep.DeepHandedRow
/- The walk of layer 15's law: As. No condition. -/
namespace Go.Proofs.YtoekdiklbfdpiaaDoor
open Go.RowKit
attribute [local go_sem ↓] ldvI_eq
theorem parts4 {a : Act} {i j k m : Nat} {x y z q : Operand} {v u t s : Value} (h : a.eval x = v) (h2 : a.eval y = u) (h3 : a.eval z = t) (h4 : a.eval q = s) : ((#[(i, x), (j, y), (k, z), (m, q)] : Array (Nat × Operand)).map fun (i, x) => (i, a.eval x)).toList = [(i, v), (j, u), (k, t), (m, s)] := by simp [h, h2, h3, h4]
/-- The document's items of ours: they lie nowhere. -/
def asL (l : List PItL) : List Pl := l.map fun x => (x, 0, 0)
theorem asL_fst (l : List PItL) : (asL l).map (·.1) = l := by
  unfold asL
  rw [List.map_map]
  exact (List.map_congr_left (g := id) (fun x _ => rfl)).trans (List.map_id l)
theorem asL_ok {l : List PItL} (h : PitsOk l) : ∀ p ∈ asL l, p.1.base.length = 32 := fun p hp => by
  obtain ⟨x, hx, rfl⟩ := List.mem_map.1 hp
  exact h x hx
set_option maxRecDepth 100000 in
set_option maxHeartbeats 4000000 in
theorem as_calls15 (l : List PItL) (hok : PitsOk l) (hll : l.length ≤ 1000000) (va : Value) (w : World) (ha : Pits w va l) :
    Calls Tryd.prog 9 #[va] w fun e w' => ∃ v, e = .returned v ∧ OwnRits w' w.heap.size v (asL l) ∧ Below w.heap.size w w' := by
  have hla := ha.len
  obtain ⟨A, capa, rfl, ha1, ha2, hata⟩ := ha
  go_enter Tryd.func9, Tryd.ntmps9
  go_wp2
  go_loopw [3, 4] (fun vo i wr => ∃ k : Nat, i = .int .i64 k ∧ k ≤ l.length ∧ wr.ownsRow w.heap.size 45 37 vo k (rowsOf (fun x : PItL => ritC (x, 0, 0)) (l.take k)) ∧ Below w.heap.size w wr) (fun _ i _ => l.length - (intOf i).toNat)
  case atStart => exact ⟨0, rfl, by omega, World.ownsRow_nil _ _ _ _, Below.refl _ _⟩
  case round =>
    obtain ⟨k, rfl, hk, hown, hbel⟩ := hrel
    by_cases hlt : k < l.length
    · have hki : (k : Int) < (l.length : Int) := by omega
      obtain ⟨ga, oa, rfl, hga, hca⟩ := hata (by omega)
      obtain ⟨x, hx⟩ : ∃ x, l[k]? = some x := ⟨_, List.getElem?_eq_getElem hlt⟩
      have hx32 : x.base.length = 32 := hok x (List.mem_of_getElem? hx)
      have hca := hca k x hx
      have hmore : Hid (rowsOf (fun x : PItL => ritC (x, 0, 0)) (l.take k) ++ ritC (x, 0, 0) = rowsOf (fun x : PItL => ritC (x, 0, 0)) (l.take (k + 1))) := by
        show _ = _
        rw [List.take_add_one, hx, rowsOf_append]
        simp [rowsOf]
      have k1 : k + 1 ≤ 9223372036854775807 := by omega
      have k2 : (k + 1) * 80 ≤ 140737488355328 := by omega
      clear hx hata hok
      go_wp2
      have hC0 : ApC w 23 45 37 u3 k (rowsOf (fun x : PItL => ritC (x, 0, 0)) (l.take k)) (Array.replicate 25 false) wr := ⟨hbel, fun _ => hown⟩
      clear hown hbel
      obtain ⟨V, hV⟩ : ∃ V : Nat → Value, V = fun i => [u3, (.slice (some ⟨ga, oa, none⟩) l.length capa), (.int .i64 k), (.pointer (some ⟨ga, oa + k * 35, none⟩)), (.pointer (some ⟨ga, oa + k * 35, none⟩)), (.int .i64 x.kind), (.slice (some ⟨ga, oa, none⟩) l.length capa), (.int .i64 k), (.pointer (some ⟨ga, oa + k * 35, none⟩)), (.pointer (some ⟨ga, oa + k * 35 + 1, none⟩)), (.int .i64 x.back), (.slice (some ⟨ga, oa, none⟩) l.length capa), (.int .i64 k), (.pointer (some ⟨ga, oa + k * 35, none⟩)), (.pointer (some ⟨ga, oa + k * 35 + 2, none⟩)), (.agg (u8s x.base)), (.slice (some ⟨ga, oa, none⟩) l.length capa), (.int .i64 k), (.pointer (some ⟨ga, oa + k * 35, none⟩)), (.pointer (some ⟨ga, oa + k * 35 + 34, none⟩)), (.string (B x.data)), (.agg (ritC (x, 0, 0)).toArray), undef, undef, undef].getD i undef := ⟨_, rfl⟩
      have v0 : V 0 = u3 := by rw [hV]; rfl
      have v1 : V 1 = (.slice (some ⟨ga, oa, none⟩) l.length capa) := by rw [hV]; rfl
      have v2 : V 2 = (.int .i64 k) := by rw [hV]; rfl
      have v3 : V 3 = (.pointer (some ⟨ga, oa + k * 35, none⟩)) := by rw [hV]; rfl
      have v4 : V 4 = (.pointer (some ⟨ga, oa + k * 35, none⟩)) := by rw [hV]; rfl
      have v5 : V 5 = (.int .i64 x.kind) := by rw [hV]; rfl
      have v6 : V 6 = (.slice (some ⟨ga, oa, none⟩) l.length capa) := by rw [hV]; rfl
      have v7 : V 7 = (.int .i64 k) := by rw [hV]; rfl
      have v8 : V 8 = (.pointer (some ⟨ga, oa + k * 35, none⟩)) := by rw [hV]; rfl
      have v9 : V 9 = (.pointer (some ⟨ga, oa + k * 35 + 1, none⟩)) := by rw [hV]; rfl
      have v10 : V 10 = (.int .i64 x.back) := by rw [hV]; rfl
      have v11 : V 11 = (.slice (some ⟨ga, oa, none⟩) l.length capa) := by rw [hV]; rfl
      have v12 : V 12 = (.int .i64 k) := by rw [hV]; rfl
      have v13 : V 13 = (.pointer (some ⟨ga, oa + k * 35, none⟩)) := by rw [hV]; rfl
      have v14 : V 14 = (.pointer (some ⟨ga, oa + k * 35 + 2, none⟩)) := by rw [hV]; rfl
      have v15 : V 15 = (.agg (u8s x.base)) := by rw [hV]; rfl
      have v16 : V 16 = (.slice (some ⟨ga, oa, none⟩) l.length capa) := by rw [hV]; rfl
      have v17 : V 17 = (.int .i64 k) := by rw [hV]; rfl
      have v18 : V 18 = (.pointer (some ⟨ga, oa + k * 35, none⟩)) := by rw [hV]; rfl
      have v19 : V 19 = (.pointer (some ⟨ga, oa + k * 35 + 34, none⟩)) := by rw [hV]; rfl
      have v20 : V 20 = (.string (B x.data)) := by rw [hV]; rfl
      have v21 : V 21 = (.agg (ritC (x, 0, 0)).toArray) := by rw [hV]; rfl
      clear hV
      refine wp_region_listed (C := ApC w 23 45 37 u3 k (rowsOf (fun x : PItL => ritC (x, 0, 0)) (l.take k))) (R := ApR V 22 w.heap.size 45 37 u3 k (rowsOf (fun x : PItL => ritC (x, 0, 0)) (l.take k)) (ritC (x, 0, 0))) (by kernel_rfl) (by kernel_rfl) (by kernel_rfl) ?_ hC0.drew ?_ ?_
      · exact sizes_spec (n := 36) (by kernel_rfl)
      · intro i o listed a w1 ho hi hL
        have hin := (ready_spec hi).1
        have hsz : listed.size = 25 := hL.size
        match i, ho with
        | 0, ho =>
          obtain rfl := (Option.some.inj ho).symm
          have e0 : a.tmps[3]?.getD undef = u3 := (slot_eval a 3).trans (hL.get_old hi (by kernel_rfl))
          have hc := hL.cls
          refine step_wp rfl rfl ?_
          clear ho hL
          refine wp_val (v := u3) ?_ ⟨_, rfl, ApR.mk (by decide) v0.symm, hc.same (by rw [hsz]; decide) (by decide), fun _ _ _ h => h⟩
          clear hi hin hsz v0 v1 v2 v3 v4 v5 v6 v7 v8 v9 v10 v11 v12 v13 v14 v15 v16 v17 v18 v19 v20 v21  hc
          unfold execOp
          go_simp
        | 1, ho =>
          obtain rfl := (Option.some.inj ho).symm
          have e0 : a.tmps[0]?.getD undef = (.slice (some ⟨ga, oa, none⟩) l.length capa) := (slot_eval a 0).trans (hL.get_old hi (by kernel_rfl))
          have hc := hL.cls
          refine step_wp rfl rfl ?_
          clear ho hL
          refine wp_val (v := (.slice (some ⟨ga, oa, none⟩) l.length capa)) ?_ ⟨_, rfl, ApR.mk (by decide) v1.symm, hc.same (by rw [hsz]; decide) (by decide), fun _ _ _ h => h⟩
          clear hi hin hsz v0 v1 v2 v3 v4 v5 v6 v7 v8 v9 v10 v11 v12 v13 v14 v15 v16 v17 v18 v19 v20 v21  hc
          unfold execOp
          go_simp
        | 2, ho =>
          obtain rfl := (Option.some.inj ho).symm
          have e0 : a.tmps[4]?.getD undef = (.int .i64 k) := (slot_eval a 4).trans (hL.get_old hi (by kernel_rfl))
          have hc := hL.cls
          refine step_wp rfl rfl ?_
          clear ho hL
          refine wp_val (v := (.int .i64 k)) ?_ ⟨_, rfl, ApR.mk (by decide) v2.symm, hc.same (by rw [hsz]; decide) (by decide), fun _ _ _ h => h⟩
          clear hi hin hsz v0 v1 v2 v3 v4 v5 v6 v7 v8 v9 v10 v11 v12 v13 v14 v15 v16 v17 v18 v19 v20 v21  hc
          unfold execOp
          go_simp
        | 3, ho =>
          obtain rfl := (Option.some.inj ho).symm
          have e0 : a.tmps[12]?.getD undef = (.slice (some ⟨ga, oa, none⟩) l.length capa) := (slot_eval a 12).trans ((ApR.at_ (hi := by decide) (hL.get_new (j := 1) hi (by kernel_rfl))).trans v1)
          have e1 : a.tmps[13]?.getD undef = (.int .i64 k) := (slot_eval a 13).trans ((ApR.at_ (hi := by decide) (hL.get_new (j := 2) hi (by kernel_rfl))).trans v2)
          have hc := hL.cls
          refine step_wp rfl rfl ?_
          clear ho hL
          refine wp_val (v := (.pointer (some ⟨ga, oa + k * 35, none⟩))) ?_ ⟨_, rfl, ApR.mk (by decide) v3.symm, hc.same (by rw [hsz]; decide) (by decide), fun _ _ _ h => h⟩
          clear hi hin hsz v0 v1 v2 v3 v4 v5 v6 v7 v8 v9 v10 v11 v12 v13 v14 v15 v16 v17 v18 v19 v20 v21  hc
          unfold execOp
          go_simp
        | 4, ho =>
          obtain rfl := (Option.some.inj ho).symm
          have e0 : a.tmps[14]?.getD undef = (.pointer (some ⟨ga, oa + k * 35, none⟩)) := (slot_eval a 14).trans ((ApR.at_ (hi := by decide) (hL.get_new (j := 3) hi (by kernel_rfl))).trans v3)
          have hc := hL.cls
          refine step_wp rfl rfl ?_
          clear ho hL
          refine wp_val (v := (.pointer (some ⟨ga, oa + k * 35, none⟩))) ?_ ⟨_, rfl, ApR.mk (by decide) v4.symm, hc.same (by rw [hsz]; decide) (by decide), fun _ _ _ h => h⟩
          clear hi hin hsz v0 v1 v2 v3 v4 v5 v6 v7 v8 v9 v10 v11 v12 v13 v14 v15 v16 v17 v18 v19 v20 v21  hc
          unfold execOp
          go_simp
        | 5, ho =>
          obtain rfl := (Option.some.inj ho).symm
          have e0 : a.tmps[15]?.getD undef = (.pointer (some ⟨ga, oa + k * 35, none⟩)) := (slot_eval a 15).trans ((ApR.at_ (hi := by decide) (hL.get_new (j := 4) hi (by kernel_rfl))).trans v4)
          have hc := hL.cls
          refine step_wp rfl rfl ?_
          clear ho hL
          refine wp_val (v := (.int .i64 x.kind)) ?_ ⟨_, rfl, ApR.mk (by decide) v5.symm, hc.same (by rw [hsz]; decide) (by decide), fun _ _ _ h => h⟩
          have hrw := rangeAt_below hca hga hc.bel
          have q := pit_kind hrw
          clear hi hin hsz v0 v1 v2 v3 v4 v5 v6 v7 v8 v9 v10 v11 v12 v13 v14 v15 v16 v17 v18 v19 v20 v21  hc
          unfold execOp
          go_simp
        | 6, ho =>
          obtain rfl := (Option.some.inj ho).symm
          have e0 : a.tmps[0]?.getD undef = (.slice (some ⟨ga, oa, none⟩) l.length capa) := (slot_eval a 0).trans (hL.get_old hi (by kernel_rfl))
          have hc := hL.cls
          refine step_wp rfl rfl ?_
          clear ho hL
          refine wp_val (v := (.slice (some ⟨ga, oa, none⟩) l.length capa)) ?_ ⟨_, rfl, ApR.mk (by decide) v6.symm, hc.same (by rw [hsz]; decide) (by decide), fun _ _ _ h => h⟩
          clear hi hin hsz v0 v1 v2 v3 v4 v5 v6 v7 v8 v9 v10 v11 v12 v13 v14 v15 v16 v17 v18 v19 v20 v21  hc
          unfold execOp
          go_simp
        | 7, ho =>
          obtain rfl := (Option.some.inj ho).symm
          have e0 : a.tmps[4]?.getD undef = (.int .i64 k) := (slot_eval a 4).trans (hL.get_old hi (by kernel_rfl))
          have hc := hL.cls
          refine step_wp rfl rfl ?_
          clear ho hL
          refine wp_val (v := (.int .i64 k)) ?_ ⟨_, rfl, ApR.mk (by decide) v7.symm, hc.same (by rw [hsz]; decide) (by decide), fun _ _ _ h => h⟩
          clear hi hin hsz v0 v1 v2 v3 v4 v5 v6 v7 v8 v9 v10 v11 v12 v13 v14 v15 v16 v17 v18 v19 v20 v21  hc
          unfold execOp
          go_simp
        | 8, ho =>
          obtain rfl := (Option.some.inj ho).symm
          have e0 : a.tmps[17]?.getD undef = (.slice (some ⟨ga, oa, none⟩) l.length capa) := (slot_eval a 17).trans ((ApR.at_ (hi := by decide) (hL.get_new (j := 6) hi (by kernel_rfl))).trans v6)
          have e1 : a.tmps[18]?.getD undef = (.int .i64 k) := (slot_eval a 18).trans ((ApR.at_ (hi := by decide) (hL.get_new (j := 7) hi (by kernel_rfl))).trans v7)
          have hc := hL.cls
          refine step_wp rfl rfl ?_
          clear ho hL
          refine wp_val (v := (.pointer (some ⟨ga, oa + k * 35, none⟩))) ?_ ⟨_, rfl, ApR.mk (by decide) v8.symm, hc.same (by rw [hsz]; decide) (by decide), fun _ _ _ h => h⟩
          clear hi hin hsz v0 v1 v2 v3 v4 v5 v6 v7 v8 v9 v10 v11 v12 v13 v14 v15 v16 v17 v18 v19 v20 v21  hc
          unfold execOp
          go_simp
        | 9, ho =>
          obtain rfl := (Option.some.inj ho).symm
          have e0 : a.tmps[19]?.getD undef = (.pointer (some ⟨ga, oa + k * 35, none⟩)) := (slot_eval a 19).trans ((ApR.at_ (hi := by decide) (hL.get_new (j := 8) hi (by kernel_rfl))).trans v8)
          have hc := hL.cls
          refine step_wp rfl rfl ?_
          clear ho hL
          refine wp_val (v := (.pointer (some ⟨ga, oa + k * 35 + 1, none⟩))) ?_ ⟨_, rfl, ApR.mk (by decide) v9.symm, hc.same (by rw [hsz]; decide) (by decide), fun _ _ _ h => h⟩
          clear hi hin hsz v0 v1 v2 v3 v4 v5 v6 v7 v8 v9 v10 v11 v12 v13 v14 v15 v16 v17 v18 v19 v20 v21  hc
          unfold execOp
          go_simp
        | 10, ho =>
          obtain rfl := (Option.some.inj ho).symm
          have e0 : a.tmps[20]?.getD undef = (.pointer (some ⟨ga, oa + k * 35 + 1, none⟩)) := (slot_eval a 20).trans ((ApR.at_ (hi := by decide) (hL.get_new (j := 9) hi (by kernel_rfl))).trans v9)
          have hc := hL.cls
          refine step_wp rfl rfl ?_
          clear ho hL
          refine wp_val (v := (.int .i64 x.back)) ?_ ⟨_, rfl, ApR.mk (by decide) v10.symm, hc.same (by rw [hsz]; decide) (by decide), fun _ _ _ h => h⟩
          have hrw := rangeAt_below hca hga hc.bel
          have q := pit_back hrw
          clear hi hin hsz v0 v1 v2 v3 v4 v5 v6 v7 v8 v9 v10 v11 v12 v13 v14 v15 v16 v17 v18 v19 v20 v21  hc
          unfold execOp
          go_simp
        | 11, ho =>
          obtain rfl := (Option.some.inj ho).symm
          have e0 : a.tmps[0]?.getD undef = (.slice (some ⟨ga, oa, none⟩) l.length capa) := (slot_eval a 0).trans (hL.get_old hi (by kernel_rfl))
          have hc := hL.cls
          refine step_wp rfl rfl ?_
          clear ho hL
          refine wp_val (v := (.slice (some ⟨ga, oa, none⟩) l.length capa)) ?_ ⟨_, rfl, ApR.mk (by decide) v11.symm, hc.same (by rw [hsz]; decide) (by decide), fun _ _ _ h => h⟩
          clear hi hin hsz v0 v1 v2 v3 v4 v5 v6 v7 v8 v9 v10 v11 v12 v13 v14 v15 v16 v17 v18 v19 v20 v21  hc
          unfold execOp
          go_simp
        | 12, ho =>
          obtain rfl := (Option.some.inj ho).symm
          have e0 : a.tmps[4]?.getD undef = (.int .i64 k) := (slot_eval a 4).trans (hL.get_old hi (by kernel_rfl))
          have hc := hL.cls
          refine step_wp rfl rfl ?_
          clear ho hL
          refine wp_val (v := (.int .i64 k)) ?_ ⟨_, rfl, ApR.mk (by decide) v12.symm, hc.same (by rw [hsz]; decide) (by decide), fun _ _ _ h => h⟩
          clear hi hin hsz v0 v1 v2 v3 v4 v5 v6 v7 v8 v9 v10 v11 v12 v13 v14 v15 v16 v17 v18 v19 v20 v21  hc
          unfold execOp
          go_simp
        | 13, ho =>
          obtain rfl := (Option.some.inj ho).symm
          have e0 : a.tmps[22]?.getD undef = (.slice (some ⟨ga, oa, none⟩) l.length capa) := (slot_eval a 22).trans ((ApR.at_ (hi := by decide) (hL.get_new (j := 11) hi (by kernel_rfl))).trans v11)
          have e1 : a.tmps[23]?.getD undef = (.int .i64 k) := (slot_eval a 23).trans ((ApR.at_ (hi := by decide) (hL.get_new (j := 12) hi (by kernel_rfl))).trans v12)
          have hc := hL.cls
          refine step_wp rfl rfl ?_
          clear ho hL
          refine wp_val (v := (.pointer (some ⟨ga, oa + k * 35, none⟩))) ?_ ⟨_, rfl, ApR.mk (by decide) v13.symm, hc.same (by rw [hsz]; decide) (by decide), fun _ _ _ h => h⟩
          clear hi hin hsz v0 v1 v2 v3 v4 v5 v6 v7 v8 v9 v10 v11 v12 v13 v14 v15 v16 v17 v18 v19 v20 v21  hc
          unfold execOp
          go_simp
        | 14, ho =>
          obtain rfl := (Option.some.inj ho).symm
          have e0 : a.tmps[24]?.getD undef = (.pointer (some ⟨ga, oa + k * 35, none⟩)) := (slot_eval a 24).trans ((ApR.at_ (hi := by decide) (hL.get_new (j := 13) hi (by kernel_rfl))).trans v13)
          have hc := hL.cls
          refine step_wp rfl rfl ?_
          clear ho hL
          refine wp_val (v := (.pointer (some ⟨ga, oa + k * 35 + 2, none⟩))) ?_ ⟨_, rfl, ApR.mk (by decide) v14.symm, hc.same (by rw [hsz]; decide) (by decide), fun _ _ _ h => h⟩
          clear hi hin hsz v0 v1 v2 v3 v4 v5 v6 v7 v8 v9 v10 v11 v12 v13 v14 v15 v16 v17 v18 v19 v20 v21  hc
          unfold execOp
          go_simp
        | 15, ho =>
          obtain rfl := (Option.some.inj ho).symm
          have e0 : a.tmps[25]?.getD undef = (.pointer (some ⟨ga, oa + k * 35 + 2, none⟩)) := (slot_eval a 25).trans ((ApR.at_ (hi := by decide) (hL.get_new (j := 14) hi (by kernel_rfl))).trans v14)
          have hc := hL.cls
          refine step_wp rfl rfl ?_
          clear ho hL
          refine wp_val (v := (.agg (u8s x.base))) ?_ ⟨_, rfl, ApR.mk (by decide) v15.symm, hc.same (by rw [hsz]; decide) (by decide), fun _ _ _ h => h⟩
          have hrw := rangeAt_below hca hga hc.bel
          have q := run_ldvI15 (pit_base hrw) hx32
          clear hi hin hsz v0 v1 v2 v3 v4 v5 v6 v7 v8 v9 v10 v11 v12 v13 v14 v15 v16 v17 v18 v19 v20 v21  hc
          unfold execOp
          go_simp
        | 16, ho =>
          obtain rfl := (Option.some.inj ho).symm
          have e0 : a.tmps[0]?.getD undef = (.slice (some ⟨ga, oa, none⟩) l.length capa) := (slot_eval a 0).trans (hL.get_old hi (by kernel_rfl))
          have hc := hL.cls
          refine step_wp rfl rfl ?_
          clear ho hL
          refine wp_val (v := (.slice (some ⟨ga, oa, none⟩) l.length capa)) ?_ ⟨_, rfl, ApR.mk (by decide) v16.symm, hc.same (by rw [hsz]; decide) (by decide), fun _ _ _ h => h⟩
          clear hi hin hsz v0 v1 v2 v3 v4 v5 v6 v7 v8 v9 v10 v11 v12 v13 v14 v15 v16 v17 v18 v19 v20 v21  hc
          unfold execOp
          go_simp
        | 17, ho =>
          obtain rfl := (Option.some.inj ho).symm
          have e0 : a.tmps[4]?.getD undef = (.int .i64 k) := (slot_eval a 4).trans (hL.get_old hi (by kernel_rfl))
          have hc := hL.cls
          refine step_wp rfl rfl ?_
          clear ho hL
          refine wp_val (v := (.int .i64 k)) ?_ ⟨_, rfl, ApR.mk (by decide) v17.symm, hc.same (by rw [hsz]; decide) (by decide), fun _ _ _ h => h⟩
          clear hi hin hsz v0 v1 v2 v3 v4 v5 v6 v7 v8 v9 v10 v11 v12 v13 v14 v15 v16 v17 v18 v19 v20 v21  hc
          unfold execOp
          go_simp
        | 18, ho =>
          obtain rfl := (Option.some.inj ho).symm
          have e0 : a.tmps[27]?.getD undef = (.slice (some ⟨ga, oa, none⟩) l.length capa) := (slot_eval a 27).trans ((ApR.at_ (hi := by decide) (hL.get_new (j := 16) hi (by kernel_rfl))).trans v16)
          have e1 : a.tmps[28]?.getD undef = (.int .i64 k) := (slot_eval a 28).trans ((ApR.at_ (hi := by decide) (hL.get_new (j := 17) hi (by kernel_rfl))).trans v17)
          have hc := hL.cls
          refine step_wp rfl rfl ?_
          clear ho hL
          refine wp_val (v := (.pointer (some ⟨ga, oa + k * 35, none⟩))) ?_ ⟨_, rfl, ApR.mk (by decide) v18.symm, hc.same (by rw [hsz]; decide) (by decide), fun _ _ _ h => h⟩
          clear hi hin hsz v0 v1 v2 v3 v4 v5 v6 v7 v8 v9 v10 v11 v12 v13 v14 v15 v16 v17 v18 v19 v20 v21  hc
          unfold execOp
          go_simp
        | 19, ho =>
          obtain rfl := (Option.some.inj ho).symm
          have e0 : a.tmps[29]?.getD undef = (.pointer (some ⟨ga, oa + k * 35, none⟩)) := (slot_eval a 29).trans ((ApR.at_ (hi := by decide) (hL.get_new (j := 18) hi (by kernel_rfl))).trans v18)
          have hc := hL.cls
          refine step_wp rfl rfl ?_
          clear ho hL
          refine wp_val (v := (.pointer (some ⟨ga, oa + k * 35 + 34, none⟩))) ?_ ⟨_, rfl, ApR.mk (by decide) v19.symm, hc.same (by rw [hsz]; decide) (by decide), fun _ _ _ h => h⟩
          clear hi hin hsz v0 v1 v2 v3 v4 v5 v6 v7 v8 v9 v10 v11 v12 v13 v14 v15 v16 v17 v18 v19 v20 v21  hc
          unfold execOp
          go_simp
        | 20, ho =>
          obtain rfl := (Option.some.inj ho).symm
          have e0 : a.tmps[30]?.getD undef = (.pointer (some ⟨ga, oa + k * 35 + 34, none⟩)) := (slot_eval a 30).trans ((ApR.at_ (hi := by decide) (hL.get_new (j := 19) hi (by kernel_rfl))).trans v19)
          have hc := hL.cls
          refine step_wp rfl rfl ?_
          clear ho hL
          refine wp_val (v := (.string (B x.data))) ?_ ⟨_, rfl, ApR.mk (by decide) v20.symm, hc.same (by rw [hsz]; decide) (by decide), fun _ _ _ h => h⟩
          have hrw := rangeAt_below hca hga hc.bel
          have q := pit_data hx32 hrw
          clear hi hin hsz v0 v1 v2 v3 v4 v5 v6 v7 v8 v9 v10 v11 v12 v13 v14 v15 v16 v17 v18 v19 v20 v21  hc
          unfold execOp
          go_simp
        | 21, ho =>
          obtain rfl := (Option.some.inj ho).symm
          have e0 : a.tmps[16]?.getD undef = (.int .i64 x.kind) := (slot_eval a 16).trans ((ApR.at_ (hi := by decide) (hL.get_new (j := 5) hi (by kernel_rfl))).trans v5)
          have e1 : a.tmps[21]?.getD undef = (.int .i64 x.back) := (slot_eval a 21).trans ((ApR.at_ (hi := by decide) (hL.get_new (j := 10) hi (by kernel_rfl))).trans v10)
          have e2 : a.tmps[26]?.getD undef = (.agg (u8s x.base)) := (slot_eval a 26).trans ((ApR.at_ (hi := by decide) (hL.get_new (j := 15) hi (by kernel_rfl))).trans v15)
          have e3 : a.tmps[31]?.getD undef = (.string (B x.data)) := (slot_eval a 31).trans ((ApR.at_ (hi := by decide) (hL.get_new (j := 20) hi (by kernel_rfl))).trans v20)
          have hc := hL.cls
          refine step_wp rfl rfl ?_
          clear ho hL
          refine build_step rfl (built_rit x hx32) (parts4 (slot_is e0) (slot_is e1) (slot_is e2) (slot_is e3)) ⟨_, rfl, ApR.mk (by decide) v21.symm, hc.same (by rw [hsz]; decide) (by decide), fun _ _ _ h => h⟩
        | 22, ho =>
          obtain rfl := (Option.some.inj ho).symm
          have e0 : a.tmps[32]?.getD undef = (.agg (ritC (x, 0, 0)).toArray) := (slot_eval a 32).trans ((ApR.at_ (hi := by decide) (hL.get_new (j := 21) hi (by kernel_rfl))).trans v21)
          have hc := hL.cls
          have hla := hL.later (j := 23) hi (by kernel_rfl)
          clear ho hL
          refine step_wp rfl rfl ?_
          refine slice_step rfl Tryd.ritTy (by decide) (ritC_len hx32) (.inl (slot_is e0)) ⟨_, rfl, ApR.lit (Blk.new _ _ _) (hc.fresh hla), (hc.same (by rw [hsz]; decide) (by decide)).alloc _, fun j u _ h => h.alloc _⟩
        | 23, ho =>
          obtain rfl := (Option.some.inj ho).symm
          have e0 : a.tmps[11]?.getD undef = u3 := (slot_eval a 11).trans ((ApR.at_ (hi := by decide) (hL.get_new (j := 0) hi (by kernel_rfl))).trans v0)
          have e1 := hL.get_new (j := 22) (t := 33) hi (by kernel_rfl)
          have hc := hL.cls
          have hla : listed.getD 23 false = false := by rw [getD_of_size (by rw [hsz]; exact hin)]; exact (ready_spec hi).2.1
          have hlb := hL.later (j := 24) hi (by kernel_rfl)
          obtain ⟨b5, h5, hb5, hne5⟩ := ApR.litAt e1
          clear ho hL
          refine step_wp rfl rfl ?_
          refine wp_append_blk (.tmp 11) (.tmp 33) _ rfl _ _ 37 80 Tryd.ritTy w.heap.size u3 k (rowsOf (fun x : PItL => ritC (x, 0, 0)) (l.take k)) (slot_is e0) (hc.own hla) b5 1 1 _ _ h5 hb5 (ritC_size hx32) (by intro u hu; rw [List.toList_toArray] at hu; exact ritC_one _ u hu) k1 k2 w hc.bel hc.bel.size ?_
          intro v6 w6 hown6 hbel6 hg6
          refine ⟨_, rfl, ApR.own (by decide) hown6, hc.grown (by rw [hsz]; decide) hbel6, fun j u hj h => ApR.append ?_ h hg6⟩
          intro hj6
          have : j = 23 ∨ j = 24 ∨ 25 ≤ j := by omega
          rcases this with rfl | rfl | h8
          · rw [hla] at hj; cases hj
          · rw [hlb] at hj; cases hj
          · simp [Array.getD, hsz, show ¬ j < 25 by omega] at hj
        | 24, ho =>
          obtain rfl := (Option.some.inj ho).symm
          have e0 := hL.get_new (j := 23) (t := 34) hi (by kernel_rfl)
          have hc := hL.cls
          clear ho hL
          refine step_wp rfl rfl ?_
          have e1 : a.tmps[34]?.getD undef = a.eval (.tmp 34) := slot_eval a 34
          generalize a.eval (.tmp 34) = vz at e0 e1
          refine wp_val (v := vz) ?_ ⟨_, rfl, ApR.own (by decide) (ApR.ownAt (by decide) e0), hc.same (by rw [hsz]; decide) (by decide), fun _ _ _ h => h⟩
          clear hc hi hin hsz v0 v1 v2 v3 v4 v5 v6 v7 v8 v9 v10 v11 v12 v13 v14 v15 v16 v17 v18 v19 v20 v21 e0
          unfold execOp
          go_simp
        | (n + 25), ho => exact absurd hin (by simp)
      · intro a w1 listed hL hall
        have hc := hL.cls
        obtain ⟨vs, rfl, hR⟩ := hL.frame (by kernel_rfl) (sizes_spec (n := 36) (by kernel_rfl)) hall
        simp only [putAll, Act.put, List.setIfInBounds_toArray, List.set_cons_zero, List.set_cons_succ]
        simp only [Nat.zero_add, Nat.reduceAdd]
        have hend := ApR.ownAt (by decide) (hR 24 _ 3 rfl rfl)
        have hbel5 := hc.bel
        generalize vs 24 = v7 at hend
        clear hR hc hL
        rw [hmore.out] at hend
        go_wp2
        go_roundw
        case rel => exact ⟨k + 1, by go_num, by omega, hend, hbel5⟩
        case measure => simp [intOf]; omega
    · have hki : ¬ (k : Int) < (l.length : Int) := by omega
      obtain rfl : k = l.length := by omega
      rw [List.take_length] at hown
      go_wp2
      go_ret
      refine ⟨_, rfl, ?_, hbel⟩
      unfold OwnRits asL
      rw [rowsOf_map, List.length_map]
      exact hown
end Go.Proofs.YtoekdiklbfdpiaaDoor
/- The walks of layer 15's law: knows, few. Condition: the table of constants is as the program lays it. -/
namespace Go.Proofs.YtoekdiklbfdpiaaDoor
open Go.RowKit
attribute [local go_sem ↓] ldvI_eq
def kn6 : Txt := [75, 78, 65, 80, 1, 0]
theorem kn_enc (e : Ending) (h : EncR [] e) : e = .returned (.tuple #[.string (B (kn6 ++ shaOf kn6)), .int .i64 0]) := by
  have hf : fineP [] = true := rfl
  unfold EncR at h
  rw [if_pos hf] at h
  obtain ⟨s, ⟨t, ht, hs⟩, he⟩ := h
  obtain rfl : t = [] := ht
  have h6 : pk5 ++ put ([] : List PItL).length ++ [] = kn6 := by rfl
  rw [h6] at hs
  have hl : ¬ 262144 < s.length := by rw [hs, List.length_append, shaOf_length]; decide
  rw [if_neg hl, hs] at he
  exact he
theorem kn_dec : decP [75, 78, 65, 80] = ([], 2) := by
  unfold decP openP
  rfl
set_option maxRecDepth 100000 in
set_option maxHeartbeats 4000000 in
theorem knows_calls15 (w : World) (hK : TabK w) : Calls Tryd.prog 7 #[] w fun e w' => e = .returned (.bool true) ∧ Below w.heap.size w w' := by
  have he := Lib.hid ((encode_calls15 [] (fun x hx => by simp at hx) (.slice none 0 0) w hK SliceAt.nil).mono fun e w' h => (⟨kn_enc e h.1, h.2⟩ : e = .returned (.tuple #[.string (B (kn6 ++ shaOf kn6)), .int .i64 0]) ∧ Below w.heap.size w w'))
  have hd := fun W (hb : Below w.heap.size w W) => packDecode_calls [75, 78, 65, 80] (by decide) W (hK.below hb)
  rw [kn_dec] at hd
  have hd : ∀ W, Below w.heap.size w W → Calls Tryd.prog 10 #[.string ⟨#[75, 78, 65, 80]⟩] W fun e w' => ∃ v, e = .returned (.tuple #[v, .int .i64 2]) ∧ OwnPits w' W.heap.size v [] ∧ Below W.heap.size W w' := hd
  have hsum := fun W => refSum_calls kn6 W (by decide)
  have hl32 := shaOf_length kn6
  have hsI := sz32
  have hD32 : (u8s (shaOf kn6)).size = 32 := by rw [u8s_size, hl32]
  have hDone := u8s_one (shaOf kn6)
  have hstr := fun (W : World) (g : Nat) (h : Blk W g 36 (u8s (shaOf kn6))) => by
    have := str_of_blk W h
    rw [hl32] at this
    exact this
  have hzI : ∀ W : World, (zeroValue 36).run Tryd.prog W = .ok (.agg (u8s noId')) W := fun W => by
    have h : (Tryd.prog.info? 36).map (·.zero) = some (some (.agg (u8s noId'))) := by kernel_rfl
    obtain ⟨i, h1, h2⟩ := Option.map_eq_some_iff.1 h
    simp [zeroValue, typeInfo, h1, h2]
  have hzl : (u8s noId').size = 32 := by rw [u8s_size, noId_len']
  generalize shaOf kn6 = SH at *
  generalize u8s noId' = ZI at *
  obtain ⟨ZS, hZS⟩ : ∃ ZS, kn6 ++ SH = ZS := ⟨_, rfl⟩
  rw [hZS] at he
  have hZS2 : (75 :: 78 :: 65 :: 80 :: 1 :: 0 :: SH : List UInt8) = ZS := hZS
  have hk6 : kn6 = [75, 78, 65, 80, 1, 0] := rfl
  rw [hk6] at hsum
  have hsum : ∀ W, Calls Tryd.prog 13 #[.string ⟨#[75, 78, 65, 80, 1, 0]⟩] W fun e w' => e = .returned (.agg (u8s SH)) ∧ Below W.heap.size W w' := hsum
  clear hZS hk6
  go_enter Tryd.func7, Tryd.ntmps7
  go_wp2_with (first
    | ((with_reducible refine he.out.mono ?_); rintro e w1 ⟨rfl, b1⟩)
    | ((with_reducible refine (hd _ b1).mono ?_); rintro e w2 ⟨v, rfl, o2, b2⟩
       have bb2 := bthen b1 b1.size b2)
    | ((with_reducible refine (hsum _).mono ?_); rintro e w3 ⟨rfl, b3⟩
       have bb3 := bthen bb2 bb2.size b3)
    | ((with_reducible refine lit_new 36 (.tmp 5) (.tmp 14) (u8s SH) 32 hsI hD32 hDone _ ?_ ?_ ?_ ?_)
       · first | exact hzl | rfl
       · rfl
       · rfl
       intro W4 hb4 hbl4
       have bb4 := bthen bb3 bb3.size hbl4
       have hcv := hstr W4 w3.heap.size hb4))
  all_goals try (exfalso; omega)
  go_ret
  exact ⟨rfl, bb4⟩
def Few15 (l : List PItL) (e : Ending) : Prop := ∃ b, e = .returned (.bool b) ∧ (b = true → l.length ≤ 20 ∧ ∀ x ∈ l, x.data.length ≤ 5000)
set_option maxRecDepth 100000 in
set_option maxHeartbeats 4000000 in
theorem few_calls15 (l : List PItL) (hok : PitsOk l) (va : Value) (w : World) (ha : Pits w va l) : Calls Tryd.prog 6 #[va] w fun e w' => Few15 l e ∧ Below w.heap.size w w' := by
  have hla := ha.len
  obtain ⟨A, capa, rfl, ha1, ha2, hata⟩ := ha
  go_enter Tryd.func6, Tryd.ntmps6
  go_wp2
  go_loopw [3] (fun i wr => ∃ k : Nat, i = .int .i64 k ∧ k ≤ l.length ∧ k ≤ 20 ∧ (∀ j x, j < k → l[j]? = some x → x.data.length ≤ 5000) ∧ Below w.heap.size w wr) (fun i _ => l.length - (intOf i).toNat)
  case atStart => exact ⟨0, rfl, by omega, by omega, fun j x hj => by omega, Below.refl _ _⟩
  case round =>
    obtain ⟨k, rfl, hk, hk20, hall, hbel⟩ := hrel
    by_cases hlt : k < l.length
    · have hki : (k : Int) < (l.length : Int) := by omega
      by_cases h20 : k < 20
      · have hk2 : (k : Int) < 20 := by omega
        obtain ⟨ga, oa, rfl, hga, hca⟩ := hata (by omega)
        obtain ⟨x, hx⟩ : ∃ x, l[k]? = some x := ⟨_, List.getElem?_eq_getElem hlt⟩
        have hx32 : x.base.length = 32 := hok x (List.mem_of_getElem? hx)
        have q3 := pit_data hx32 (rangeAt_below (hca k x hx) hga hbel)
        by_cases hd : x.data.length ≤ 5000
        · have d1 : ¬ (5000 : Int) < (x.data.length : Int) := by omega
          have hall2 : ∀ j y, j < k + 1 → l[j]? = some y → y.data.length ≤ 5000 := fun j y hj hy => by
            by_cases e : j = k
            · subst e
              rw [hx] at hy
              injection hy with hy
              rw [← hy]; exact hd
            · exact hall j y (by omega) hy
          clear hx hata hca hd hall
          go_wp2
          all_goals try (exfalso; omega)
          go_roundw
          case rel => exact ⟨k + 1, by go_num, by omega, by omega, hall2, hbel⟩
          case measure => simp [intOf]; omega
        · have d1 : (5000 : Int) < (x.data.length : Int) := by omega
          clear hx hata hca hd hall
          go_wp2
          all_goals try (exfalso; omega)
          go_ret
          exact ⟨⟨false, rfl, fun h => by cases h⟩, hbel⟩
      · have hk2 : ¬ (k : Int) < 20 := by omega
        have hno : ¬ (l.length : Int) ≤ 20 := by omega
        go_wp2
        all_goals try (exfalso; omega)
        go_ret
        exact ⟨⟨_, rfl, fun h => by simp at h⟩, hbel⟩
    · have hki : ¬ (k : Int) < (l.length : Int) := by omega
      have h20 : (l.length : Int) ≤ 20 := by omega
      go_wp2
      all_goals try (exfalso; omega)
      go_ret
      refine ⟨⟨_, rfl, fun _ => ⟨by omega, fun x hx => ?_⟩⟩, hbel⟩
      obtain ⟨j, hj, rfl⟩ := List.getElem_of_mem hx
      exact hall j _ (by omega) (List.getElem?_eq_getElem hj)
end Go.Proofs.YtoekdiklbfdpiaaDoor
/- The walk of layer 15's law: PackDecodes. Condition: the table of constants is as the program lays it. -/
namespace Go.Proofs.YtoekdiklbfdpiaaDoor
open Go.RowKit
attribute [local go_sem ↓] ldvI_eq
theorem readP_count (E : Nat) : ∀ (n i : Nat) (rest : Txt) (acc : List Pl), (readP E n i rest acc).1.length ≤ acc.length + n
  | 0, i, rest, acc => by
    rw [readP]
    split <;> simp
  | n + 1, i, rest, acc => by
    rw [readP]
    split
    · exact Nat.zero_le _
    · refine Nat.le_trans (readP_count E n _ _ _) ?_
      rw [List.length_append]
      simp only [List.length_cons, List.length_nil]
      omega
theorem decP_few (s : Txt) : (decP s).1.length ≤ 400 := by
  unfold decP
  split
  · simp
  · rename_i n r h
    have := readP_count (s.length - 32) n 0 r []
    have := (openP_ok h).1
    simp only [List.length_nil] at *
    omega
theorem decP_items (s : Txt) : ∀ p ∈ (decP s).1, p.1.base.length = 32 := by
  unfold decP
  split
  · intro p hp; simp at hp
  · exact readP_items _ _ _ _ _ (fun p hp => by simp at hp)
/-- What lies there while places and items are looked at. -/
structure PlC (w : World) (ga oa gb ob : Nat) (x : Pl) (w' : World) : Prop where
  a_ : w'.rangeAt ga oa (plC x)
  b_ : w'.rangeAt gb ob (ritC x)
  bel : Below w.heap.size w w'
theorem PlC.drew {w : World} {ga oa gb ob : Nat} {x : Pl} {w' : World} (h : PlC w ga oa gb ob x w') : PlC w ga oa gb ob x w'.drew := ⟨h.a_, h.b_, h.bel.drew⟩
set_option maxRecDepth 100000 in
set_option maxHeartbeats 8000000 in
theorem packDecodes_calls (s : Txt) (hs : s.length ≤ 9223372036854775807) (seal_ : Bool) (w : World) (hK : TabK w) : Calls Tryd.prog 4 #[.string (B s), .bool seal_] w fun e w' => e = .returned (.bool true) ∧ Below w.heap.size w w' := by
  have hkn := fun W (hb : Below w.heap.size w W) => Lib.hid (knows_calls15 W (hK.below hb))
  by_cases h500 : s.length ≤ 500
  · have i1 : ¬ (500 : Int) < (s.length : Int) := by omega
    cases seal_
    · obtain ⟨S, hS⟩ : ∃ S, s = S := ⟨_, rfl⟩
      subst hS
      have hsl : s.length ≤ 1000 := by omega
      have hdc := fun W (hb : Below w.heap.size w W) => packDecode_calls s (by omega) W (hK.below hb)
      have hpc := fun W (hb : Below w.heap.size w W) => packPlaces_calls s (by omega) W (hK.below hb)
      have hrc := fun W => refDecode_calls s (by omega) W
      have hfew := decP_few s
      have hit := decP_items s
      obtain ⟨⟨X, xe⟩, hX⟩ : ∃ X, decP s = X := ⟨_, rfl⟩
      rw [hX] at hdc hpc hrc hfew hit
      simp only at hdc hpc hrc hfew hit
      clear hX
      have hokX : PitsOk (X.map (·.1)) := fun x hx => by
        obtain ⟨p, hp, rfl⟩ := List.mem_map.1 hx
        exact hit p hp
      have has := fun v W (h : Pits W v (X.map (·.1))) => as_calls15 (X.map (·.1)) hokX (by rw [List.length_map]; omega) v W h
      have hsm := fun v1 v2 W (h1 : Rits W v1 (asL (X.map (·.1)))) (h2 : Rits W v2 X) => same_calls15 (asL (X.map (·.1))) X (asL_fst _) (asL_ok hokX) v1 v2 W h1 h2
      go_enter Tryd.func4, Tryd.ntmps4
      go_wp2_with (first
        | ((with_reducible refine (hdc _ (Below.refl _ _)).mono ?_); rintro e w5 ⟨v5, rfl, o5, b5⟩
           have bb5 := bthen (Below.refl _ _) (Nat.le_refl _) b5
           have p5 := OwnPits.pits hit o5)
        | ((with_reducible refine (hpc _ bb5).mono ?_); rintro e w6 ⟨v6, rfl, o6, b6⟩
           have bb6 := bthen bb5 bb5.size b6
           have q6 := OwnPls.pls o6
           have p6 := p5.below b6)
        | ((with_reducible refine (hrc _).mono ?_); rintro e w7 ⟨v7, rfl, o7, b7⟩
           have bb7 := bthen bb6 bb6.size b7
           have q7 := q6.below b7
           have p7 := p6.below b7
           have r7 := OwnRits.rits hit o7)
        | ((with_reducible refine (has _ _ p7).mono ?_); rintro e w8 ⟨v8, rfl, o8, b8⟩
           have bb8 := bthen bb7 bb7.size b8
           have q8 := q7.below b8
           have r8 := r7.below b8
           have s8 := OwnRits.rits (asL_ok hokX) o8
           obtain ⟨A6, k6, e6⟩ := own_form' o6
           obtain ⟨A7, k7, e7⟩ := own_form' o7
           subst e6 e7)
        | ((with_reducible refine (hsm _ _ _ s8 r8).mono ?_); rintro e w9 ⟨rfl, b9⟩
           have bb9 := bthen bb8 bb8.size b9
           have q9 := q8.below b9
           have r9 := r8.below b9))
      all_goals try (exfalso; omega)
      clear o5 o6 o7 o8 p5 p6 p7 q6 q7 q8 r7 r8 s8 b5 b6 b7 b8 b9 bb5 bb6 bb7 bb8 hdc hpc hrc has hsm
      obtain ⟨_, _, e1, ha1, ha2, hata⟩ := q9
      obtain ⟨_, _, e2, hb1, hb2, hatb⟩ := r9
      cases e1
      cases e2
      obtain ⟨W9, hW9⟩ : ∃ W, w9 = W := ⟨_, rfl⟩
      go_loopw [13] (fun i wr => ∃ k : Nat, i = .int .i64 k ∧ k ≤ X.length ∧ Below W9.heap.size W9 wr) (fun i _ => X.length - (intOf i).toNat)
      case atStart => exact ⟨0, rfl, by omega, by rw [hW9]; exact Below.refl _ _⟩
      case round =>
        obtain ⟨k, rfl, hk, hbel⟩ := hrel
        have bbr := bthen (hW9 ▸ bb9) (hW9 ▸ bb9).size hbel
        by_cases hlt : k < X.length
        · have hki : (k : Int) < (X.length : Int) := by omega
          obtain ⟨ga, oa, rfl, hga, hca⟩ := hata (by omega)
          obtain ⟨gb, ob, rfl, hgb, hcb⟩ := hatb (by omega)
          obtain ⟨x, hx⟩ : ∃ x, X[k]? = some x := ⟨_, List.getElem?_eq_getElem hlt⟩
          have hx32 : x.1.base.length = 32 := hit _ (List.mem_of_getElem? hx)
          subst hW9
          have hS : PlC w9 ga (oa + k * 2) gb (ob + k * 37) x wr := ⟨rangeAt_below (hca k x hx) hga hbel, rangeAt_below (hcb k x hx) hgb hbel, hbel⟩
          clear hx hata hatb hca hcb hbel hit bbr
          go_wp2
          refine wp_region_class (C := PlC w9 ga (oa + k * 2) gb (ob + k * 37) x) (by kernel_rfl) (by kernel_rfl) hS.drew ?_
          repeat
            first
              | ((with_reducible refine wpQuiet_ex ?_ ?_)
                 · (go_simp; done)
                 apply Exists.intro
                 refine ⟨fun W hW => ?_, ?_⟩
                 · (have q0 : W.cell? ⟨ga, oa + k * 2, none⟩ = some (.int .i64 x.2.1) := by have := hW.a_ 0 _ rfl; rwa [Nat.add_zero] at this
                    have q1 : W.cell? ⟨ga, oa + k * 2 + 1, none⟩ = some (.int .i64 x.2.2) := hW.a_ 1 _ rfl
                    have r0 := rit_at hx32 hW.b_
                    have r1 := rit_len hx32 hW.b_
                    go_simp
                    first
                      | rfl)
                 simp only [Act.put, List.setIfInBounds_toArray, List.set_cons_zero, List.set_cons_succ])
              | ((with_reducible refine wpQuiet_pass ?_ ?_)
                 · (first | rfl | (go_simp; done))
                 simp only [Act.put, List.setIfInBounds_toArray, List.set_cons_zero, List.set_cons_succ])
          with_reducible refine wpQuiet_nil ?_
          intro w5 hW5
          go_wp2
          go_roundw
          case rel => exact ⟨k + 1, by go_num, by omega, hW5.bel⟩
          case measure => simp [intOf]; omega
        · have hki : ¬ (k : Int) < (X.length : Int) := by omega
          have hkf := hkn _ bbr
          go_wp2_with (first
            | ((with_reducible refine hkf.out.mono ?_); rintro e w12 ⟨rfl, b12⟩))
          go_ret
          exact ⟨rfl, bthen bbr bbr.size b12⟩
    · have hsum := Lib.hid (refSum_calls s w (by omega))
      have hl32 := shaOf_length s
      have hsI := sz32
      have hD32 : (u8s (shaOf s)).size = 32 := by rw [u8s_size, hl32]
      have hDone := u8s_one (shaOf s)
      have hstr := fun (W : World) (g : Nat) (h : Blk W g 36 (u8s (shaOf s))) => by
        have := str_of_blk W h
        rw [hl32] at this
        exact this
      have hzI : ∀ W : World, (zeroValue 36).run Tryd.prog W = .ok (.agg (u8s noId')) W := fun W => by
        have h : (Tryd.prog.info? 36).map (·.zero) = some (some (.agg (u8s noId'))) := by kernel_rfl
        obtain ⟨i, h1, h2⟩ := Option.map_eq_some_iff.1 h
        simp [zeroValue, typeInfo, h1, h2]
      have hzl : (u8s noId').size = 32 := by rw [u8s_size, noId_len']
      obtain ⟨S, hS⟩ : ∃ S, s ++ shaOf s = S := ⟨_, rfl⟩
      have hsl : S.length ≤ 1000 := by rw [← hS, List.length_append, hl32]; omega
      have hdc := fun W (hb : Below w.heap.size w W) => packDecode_calls S (by omega) W (hK.below hb)
      have hpc := fun W (hb : Below w.heap.size w W) => packPlaces_calls S (by omega) W (hK.below hb)
      have hrc := fun W => refDecode_calls S (by omega) W
      have hfew := decP_few S
      have hit := decP_items S
      obtain ⟨⟨X, xe⟩, hX⟩ : ∃ X, decP S = X := ⟨_, rfl⟩
      rw [hX] at hdc hpc hrc hfew hit
      simp only at hdc hpc hrc hfew hit
      clear hX
      have hokX : PitsOk (X.map (·.1)) := fun x hx => by
        obtain ⟨p, hp, rfl⟩ := List.mem_map.1 hx
        exact hit p hp
      have has := fun v W (h : Pits W v (X.map (·.1))) => as_calls15 (X.map (·.1)) hokX (by rw [List.length_map]; omega) v W h
      have hsm := fun v1 v2 W (h1 : Rits W v1 (asL (X.map (·.1)))) (h2 : Rits W v2 X) => same_calls15 (asL (X.map (·.1))) X (asL_fst _) (asL_ok hokX) v1 v2 W h1 h2
      generalize shaOf s = SH at *
      generalize u8s noId' = ZI at *
      go_enter Tryd.func4, Tryd.ntmps4
      go_wp2_with (first
        | ((with_reducible refine hsum.out.mono ?_); rintro e w3 ⟨rfl, b3⟩)
        | ((with_reducible refine lit_new 36 (.tmp 5) (.tmp 20) (u8s SH) 32 hsI hD32 hDone _ ?_ ?_ ?_ ?_)
           · first | exact hzl | rfl
           · rfl
           · rfl
           intro W4 hb4 hbl4
           have bb4 := bthen b3 b3.size hbl4
           have hcv := hstr W4 w3.heap.size hb4)
        | ((with_reducible refine (hdc _ bb4).mono ?_); rintro e w5 ⟨v5, rfl, o5, b5⟩
           have bb5 := bthen bb4 bb4.size b5
           have p5 := OwnPits.pits hit o5)
        | ((with_reducible refine (hpc _ bb5).mono ?_); rintro e w6 ⟨v6, rfl, o6, b6⟩
           have bb6 := bthen bb5 bb5.size b6
           have q6 := OwnPls.pls o6
           have p6 := p5.below b6)
        | ((with_reducible refine (hrc _).mono ?_); rintro e w7 ⟨v7, rfl, o7, b7⟩
           have bb7 := bthen bb6 bb6.size b7
           have q7 := q6.below b7
           have p7 := p6.below b7
           have r7 := OwnRits.rits hit o7)
        | ((with_reducible refine (has _ _ p7).mono ?_); rintro e w8 ⟨v8, rfl, o8, b8⟩
           have bb8 := bthen bb7 bb7.size b8
           have q8 := q7.below b8
           have r8 := r7.below b8
           have s8 := OwnRits.rits (asL_ok hokX) o8
           obtain ⟨A6, k6, e6⟩ := own_form' o6
           obtain ⟨A7, k7, e7⟩ := own_form' o7
           subst e6 e7)
        | ((with_reducible refine (hsm _ _ _ s8 r8).mono ?_); rintro e w9 ⟨rfl, b9⟩
           have bb9 := bthen bb8 bb8.size b9
           have q9 := q8.below b9
           have r9 := r8.below b9))
      all_goals try (exfalso; omega)
      clear hsum hsI hD32 hDone hstr hzI hzl
      clear o5 o6 o7 o8 p5 p6 p7 q6 q7 q8 r7 r8 s8 b5 b6 b7 b8 b9 bb5 bb6 bb7 bb8 hdc hpc hrc has hsm
      obtain ⟨_, _, e1, ha1, ha2, hata⟩ := q9
      obtain ⟨_, _, e2, hb1, hb2, hatb⟩ := r9
      cases e1
      cases e2
      obtain ⟨W9, hW9⟩ : ∃ W, w9 = W := ⟨_, rfl⟩
      go_loopw [13] (fun i wr => ∃ k : Nat, i = .int .i64 k ∧ k ≤ X.length ∧ Below W9.heap.size W9 wr) (fun i _ => X.length - (intOf i).toNat)
      case atStart => exact ⟨0, rfl, by omega, by rw [hW9]; exact Below.refl _ _⟩
      case round =>
        obtain ⟨k, rfl, hk, hbel⟩ := hrel
        have bbr := bthen (hW9 ▸ bb9) (hW9 ▸ bb9).size hbel
        by_cases hlt : k < X.length
        · have hki : (k : Int) < (X.length : Int) := by omega
          obtain ⟨ga, oa, rfl, hga, hca⟩ := hata (by omega)
          obtain ⟨gb, ob, rfl, hgb, hcb⟩ := hatb (by omega)
          obtain ⟨x, hx⟩ : ∃ x, X[k]? = some x := ⟨_, List.getElem?_eq_getElem hlt⟩
          have hx32 : x.1.base.length = 32 := hit _ (List.mem_of_getElem? hx)
          subst hW9
          have hS : PlC w9 ga (oa + k * 2) gb (ob + k * 37) x wr := ⟨rangeAt_below (hca k x hx) hga hbel, rangeAt_below (hcb k x hx) hgb hbel, hbel⟩
          clear hx hata hatb hca hcb hbel hit bbr
          go_wp2
          refine wp_region_class (C := PlC w9 ga (oa + k * 2) gb (ob + k * 37) x) (by kernel_rfl) (by kernel_rfl) hS.drew ?_
          repeat
            first
              | ((with_reducible refine wpQuiet_ex ?_ ?_)
                 · (go_simp; done)
                 apply Exists.intro
                 refine ⟨fun W hW => ?_, ?_⟩
                 · (have q0 : W.cell? ⟨ga, oa + k * 2, none⟩ = some (.int .i64 x.2.1) := by have := hW.a_ 0 _ rfl; rwa [Nat.add_zero] at this
                    have q1 : W.cell? ⟨ga, oa + k * 2 + 1, none⟩ = some (.int .i64 x.2.2) := hW.a_ 1 _ rfl
                    have r0 := rit_at hx32 hW.b_
                    have r1 := rit_len hx32 hW.b_
                    go_simp
                    first
                      | rfl)
                 simp only [Act.put, List.setIfInBounds_toArray, List.set_cons_zero, List.set_cons_succ])
              | ((with_reducible refine wpQuiet_pass ?_ ?_)
                 · (first | rfl | (go_simp; done))
                 simp only [Act.put, List.setIfInBounds_toArray, List.set_cons_zero, List.set_cons_succ])
          with_reducible refine wpQuiet_nil ?_
          intro w5 hW5
          go_wp2
          go_roundw
          case rel => exact ⟨k + 1, by go_num, by omega, hW5.bel⟩
          case measure => simp [intOf]; omega
        · have hki : ¬ (k : Int) < (X.length : Int) := by omega
          have hkf := hkn _ bbr
          go_wp2_with (first
            | ((with_reducible refine hkf.out.mono ?_); rintro e w12 ⟨rfl, b12⟩))
          go_ret
          exact ⟨rfl, bthen bbr bbr.size b12⟩
  · have i1 : (500 : Int) < (s.length : Int) := by omega
    go_enter Tryd.func4, Tryd.ntmps4
    go_wp2_with (first
      | ((with_reducible refine (hkn _ (Below.refl _ _)).out.mono ?_); rintro e w9 ⟨rfl, b9⟩))
    all_goals try (exfalso; omega)
    go_ret
    exact ⟨rfl, b9⟩
end Go.Proofs.YtoekdiklbfdpiaaDoor
/- A region that draws its order and in which a literal of one byte is laid and made a string: words. No condition. -/
namespace Go.Proofs.YtoekdiklbfdpiaaDoor
open Go.RowKit
def ByR (V : Nat → Value) (q : Nat) (n : Int) (i : Nat) (v : Value) (w : World) : Prop := if i = q then (∃ b, v = .slice (some ⟨b, 0, none⟩) 1 1 ∧ b < w.heap.size ∧ w.cell? ⟨b, 0, none⟩ = some (.int .u8 n)) else v = V i
section
variable {V : Nat → Value} {q : Nat} {n : Int} {i : Nat} {v : Value} {w w' : World}
theorem ByR.below (h : ByR V q n i v w) (hb : Below w.heap.size w w') : ByR V q n i v w' := by
  unfold ByR at *
  split
  · rename_i hi
    rw [if_pos hi] at h
    obtain ⟨b, h1, h2, h3⟩ := h
    exact ⟨b, h1, Nat.lt_of_lt_of_le h2 hb.size, (hb.cell (p := ⟨b, 0, none⟩) h2).trans h3⟩
  · rename_i hi
    rwa [if_neg hi] at h
theorem ByR.at_ (h : ByR V q n i v w) (hi : i ≠ q) : v = V i := by unfold ByR at h; rwa [if_neg hi] at h
theorem ByR.mk (hi : i ≠ q) (h : v = V i) : ByR V q n i v w := by unfold ByR; rwa [if_neg hi]
theorem ByR.lit (h : ByR V q n q v w) : ∃ b, v = .slice (some ⟨b, 0, none⟩) 1 1 ∧ b < w.heap.size ∧ w.cell? ⟨b, 0, none⟩ = some (.int .u8 n) := by unfold ByR at h; rwa [if_pos rfl] at h
theorem ByR.new (w : World) (t : TypeId) : ByR V q n q (.slice (some ⟨w.heap.size, 0, none⟩) 1 1) (w.alloc (.cells #[.int .u8 n] t)) := by
  unfold ByR
  rw [if_pos rfl]
  have hb : Blk (w.alloc (.cells #[.int .u8 n] t)) w.heap.size t #[.int .u8 n] := Blk.new _ _ _
  exact ⟨w.heap.size, rfl, hb.lt, hb.cell 0⟩
end
theorem str_of_cell {w : World} {b : Nat} {n : Int} (h : w.cell? ⟨b, 0, none⟩ = some (.int .u8 n)) : (convert 38 9 (.slice (some ⟨b, 0, none⟩) 1 1)).run Tryd.prog w = .ok (.string (B [UInt8.ofNat n.toNat])) w := by
  rw [run_convert_bytes_arg _ 38 5 Tryd.underlying38 Tryd.underlying5 b 0 1 1 [n] rfl (fun i hi => by
    have : i = 0 := by omega
    subst this
    rw [h]; rfl) 9 Tryd.underlying9]
  rfl
end Go.Proofs.YtoekdiklbfdpiaaDoor
/- The walk of layer 15's document: Stored: some text, not too long. No condition. -/
namespace Go.Proofs.YtoekdiklbfdpiaaDoor
open Go.RowKit
attribute [local go_sem ↓] ldvI_eq
def StoR (e : Ending) : Prop := ∃ S, e = .returned (.string (B S)) ∧ S.length ≤ 300000
theorem wrap_u64_nat (x : Int) : ∃ n : Nat, IntKind.u64.wrap x = (n : Int) ∧ n ≤ 18446744073709551615 := by
  refine ⟨(x % 18446744073709551616).toNat, ?_, by omega⟩
  simp [IntKind.wrap, IntKind.bits, IntKind.signed]
  omega
set_option maxRecDepth 100000 in
set_option maxHeartbeats 8000000 in
theorem stored_calls15 (l : List Pl) (hok : ∀ p ∈ l, p.1.base.length = 32) (hll : l.length ≤ 20) (hd : ∀ p ∈ l, p.1.data.length ≤ 5000) (told : Nat) (ht : told ≤ 1000) (behind : Txt) (hbh : behind.length ≤ 100) (va : Value) (w : World) (ha : Rits w va l) :
    Calls Tryd.prog 8 #[va, .int .i64 told, .string (B behind)] w fun e w' => StoR e ∧ Below w.heap.size w w' := by
  have hla := ha.len
  obtain ⟨A, capa, rfl, ha1, ha2, hata⟩ := ha
  have hpt := fun W => Lib.hid (refPut_calls told (by omega) W)
  have hptl := put_length told
  have htw : IntKind.u64.wrap (told : Int) = told := IntWalk.u64_in _ (by omega)
  generalize put told = PT at *
  go_enter Tryd.func8, Tryd.ntmps8
  go_wp2
  have hC0 : Below w.heap.size w w := Below.refl _ _
  obtain ⟨V, hV⟩ : ∃ V : Nat → Value, V = fun i => [undef, (.string (B [1])), (.string (B [75, 78, 65, 80, 1])), (.int .i64 told), (.int .u64 told), (.string (B PT)), (.string (B (75 :: 78 :: 65 :: 80 :: 1 :: PT))), (.string (B (75 :: 78 :: 65 :: 80 :: 1 :: PT)))].getD i undef := ⟨_, rfl⟩
  have v1 : V 1 = (.string (B [1])) := by rw [hV]; rfl
  have v2 : V 2 = (.string (B [75, 78, 65, 80, 1])) := by rw [hV]; rfl
  have v3 : V 3 = (.int .i64 told) := by rw [hV]; rfl
  have v4 : V 4 = (.int .u64 told) := by rw [hV]; rfl
  have v5 : V 5 = (.string (B PT)) := by rw [hV]; rfl
  have v6 : V 6 = (.string (B (75 :: 78 :: 65 :: 80 :: 1 :: PT))) := by rw [hV]; rfl
  have v7 : V 7 = (.string (B (75 :: 78 :: 65 :: 80 :: 1 :: PT))) := by rw [hV]; rfl
  clear hV
  refine wp_region_listed (C := fun _ W => Below w.heap.size w W) (R := ByR V 0 1) (by kernel_rfl) (by kernel_rfl) (by kernel_rfl) ?_ hC0.drew ?_ ?_
  · exact sizes_spec (n := 76) (by kernel_rfl)
  · intro i o listed a w1 ho hi hL
    have hin := (ready_spec hi).1
    have hsz : listed.size = 8 := hL.size
    match i, ho with
    | 0, ho =>
      obtain rfl := (Option.some.inj ho).symm
      have hc := hL.cls
      refine step_wp rfl rfl ?_
      clear hi ho hL hin
      have hbA : Below w1.heap.size w1 (w1.alloc (.cells #[.int .u8 1] 5)) := (Below.refl _ _).alloc (Nat.le_refl _) _
      refine wp_val' (v := .slice (some ⟨w1.heap.size, 0, none⟩) 1 1) (w' := w1.alloc (.cells #[.int .u8 1] 5)) ?_ ⟨_, rfl, ByR.new w1 _, hc.alloc hc.size _, fun _ _ _ h => ByR.below h hbA⟩
      clear hc
      unfold execOp
      go_simp
    | 1, ho =>
      obtain rfl := (Option.some.inj ho).symm
      have e0 := hL.get_new (j := 0) (t := 9) hi (by kernel_rfl)
      have hc := hL.cls
      obtain ⟨b, e1, hb1, hb2⟩ := ByR.lit e0
      have e1 := (slot_eval a 9).trans e1
      have hcv := str_of_cell hb2
      refine step_wp rfl rfl ?_
      clear hi ho hL hin
      refine wp_val (v := .string (B [1])) ?_ ⟨_, rfl, ByR.mk (by decide) v1.symm, hc, fun _ _ _ h => h⟩
      clear hc v1 v2 v3 v4 v5 v6 v7
      unfold execOp
      go_simp
    | 2, ho =>
      obtain rfl := (Option.some.inj ho).symm
      have e0 : a.tmps[10]?.getD undef = (.string (B [1])) := (slot_eval a 10).trans ((ByR.at_ (hi := by decide) (hL.get_new (j := 1) hi (by kernel_rfl))).trans v1)
      have hc := hL.cls
      refine step_wp rfl rfl ?_
      clear ho hL
      refine wp_val (v := (.string (B [75, 78, 65, 80, 1]))) ?_ ⟨_, rfl, ByR.mk (by decide) v2.symm, hc, fun _ _ _ h => h⟩
      clear hi hin hsz v1 v2 v3 v4 v5 v6 v7  hc
      unfold execOp
      go_simp
    | 3, ho =>
      obtain rfl := (Option.some.inj ho).symm
      have e0 : a.tmps[1]?.getD undef = (.int .i64 told) := (slot_eval a 1).trans (hL.get_old hi (by kernel_rfl))
      have hc := hL.cls
      refine step_wp rfl rfl ?_
      clear ho hL
      refine wp_val (v := (.int .i64 told)) ?_ ⟨_, rfl, ByR.mk (by decide) v3.symm, hc, fun _ _ _ h => h⟩
      clear hi hin hsz v1 v2 v3 v4 v5 v6 v7  hc
      unfold execOp
      go_simp
    | 4, ho =>
      obtain rfl := (Option.some.inj ho).symm
      have e0 : a.tmps[12]?.getD undef = (.int .i64 told) := (slot_eval a 12).trans ((ByR.at_ (hi := by decide) (hL.get_new (j := 3) hi (by kernel_rfl))).trans v3)
      have hc := hL.cls
      refine step_wp rfl rfl ?_
      clear ho hL
      refine wp_val (v := (.int .u64 told)) ?_ ⟨_, rfl, ByR.mk (by decide) v4.symm, hc, fun _ _ _ h => h⟩
      clear hi hin hsz v1 v2 v3 v4 v5 v6 v7  hc
      unfold execOp
      go_simp
    | 5, ho =>
      obtain rfl := (Option.some.inj ho).symm
      have e0 : a.tmps[13]?.getD undef = (.int .u64 told) := (slot_eval a 13).trans ((ByR.at_ (hi := by decide) (hL.get_new (j := 4) hi (by kernel_rfl))).trans v4)
      have hc := hL.cls
      refine step_wp rfl rfl ?_
      clear hi ho hL hin
      refine call_step rfl (vals := #[.int .u64 told]) (map1 (slot_is e0)) (by go_simp) (hpt w1).out ?_
      rintro e w2 ⟨rfl, hb2⟩
      exact ⟨_, rfl, _, rfl, ByR.mk (by decide) v5.symm, bthen hc hc.size hb2, fun _ _ _ h => ByR.below h hb2⟩
    | 6, ho =>
      obtain rfl := (Option.some.inj ho).symm
      have e0 : a.tmps[11]?.getD undef = (.string (B [75, 78, 65, 80, 1])) := (slot_eval a 11).trans ((ByR.at_ (hi := by decide) (hL.get_new (j := 2) hi (by kernel_rfl))).trans v2)
      have e1 : a.tmps[14]?.getD undef = (.string (B PT)) := (slot_eval a 14).trans ((ByR.at_ (hi := by decide) (hL.get_new (j := 5) hi (by kernel_rfl))).trans v5)
      have hc := hL.cls
      refine step_wp rfl rfl ?_
      clear ho hL
      refine wp_val (v := (.string (B (75 :: 78 :: 65 :: 80 :: 1 :: PT)))) ?_ ⟨_, rfl, ByR.mk (by decide) v6.symm, hc, fun _ _ _ h => h⟩
      clear hi hin hsz v1 v2 v3 v4 v5 v6 v7  hc
      unfold execOp
      go_simp
      omega
    | 7, ho =>
      obtain rfl := (Option.some.inj ho).symm
      have e0 : a.tmps[15]?.getD undef = (.string (B (75 :: 78 :: 65 :: 80 :: 1 :: PT))) := (slot_eval a 15).trans ((ByR.at_ (hi := by decide) (hL.get_new (j := 6) hi (by kernel_rfl))).trans v6)
      have hc := hL.cls
      refine step_wp rfl rfl ?_
      clear ho hL
      refine wp_val (v := (.string (B (75 :: 78 :: 65 :: 80 :: 1 :: PT)))) ?_ ⟨_, rfl, ByR.mk (by decide) v7.symm, hc, fun _ _ _ h => h⟩
      clear hi hin hsz v1 v2 v3 v4 v5 v6 v7  hc
      unfold execOp
      go_simp
    | (n + 8), ho => exact absurd hin (by simp)
  · intro a w1 listed hL hall
    have hc := hL.cls
    obtain ⟨vs, rfl, hR⟩ := hL.frame (by kernel_rfl) (sizes_spec (n := 76) (by kernel_rfl)) hall
    simp only [putAll, Act.put, List.setIfInBounds_toArray, List.set_cons_zero, List.set_cons_succ]
    simp only [Nat.zero_add, Nat.reduceAdd]
    have h7 := (ByR.at_ (hR 7 _ 7 rfl rfl) (by decide)).trans v7
    generalize vs 7 = vz at h7
    subst h7
    have belz := hc
    clear hR hc hL
    clear hpt hC0
    go_wp2
    go_loopw [7, 8] (fun v7 v8 wr => ∃ (k : Nat) (T : Txt), v7 = .string (B T) ∧ v8 = .int .i64 k ∧ k ≤ l.length ∧ T.length ≤ 20 + 5200 * k ∧ Below w.heap.size w wr) (fun _ i _ => l.length - (intOf i).toNat)
    case atStart => exact ⟨0, 75 :: 78 :: 65 :: 80 :: 1 :: PT, rfl, rfl, by omega, by simp only [List.length_cons]; omega, belz⟩
    case round =>
      obtain ⟨k, T, rfl, rfl, hk, hTl, hbel⟩ := hrel
      clear belz
      by_cases hlt : k < l.length
      · have hki : (k : Int) < (l.length : Int) := by omega
        obtain ⟨ga, oa, rfl, hga, hca⟩ := hata (by omega)
        obtain ⟨x, hx⟩ : ∃ x, l[k]? = some x := ⟨_, List.getElem?_eq_getElem hlt⟩
        have hx32 : x.1.base.length = 32 := hok x (List.mem_of_getElem? hx)
        have hxd := hd x (List.mem_of_getElem? hx)
        have hca := hca k x hx
        have c0 := rit_kind (rangeAt_below hca hga hbel)
        obtain ⟨W5, hW5⟩ : ∃ W5, wr.alloc (.cells #[.int .u8 (x.1.kind % 256)] 5) = W5 := ⟨_, rfl⟩
        have b5 : Below w.heap.size w W5 := by rw [← hW5]; exact hbel.alloc hbel.size _
        have hcv := Tryd.str_of_one wr (x.1.kind % 256)
        rw [hW5] at hcv
        have hr5 := rangeAt_below hca hga b5
        have k5 := rit_kind hr5
        have c5 := rit_back hr5
        have s5 := str_of_range W5 (rit_base hr5) hx32
        have htx := fun W => Lib.hid (refText_calls (0 :: x.1.data) (by simp only [List.length_cons]; omega) W)
        have htl : (textE (0 :: x.1.data)).length ≤ 5011 := by
          have := put_length (0 :: x.1.data).length
          unfold textE
          rw [List.length_append, List.length_cons] at *
          omega
        generalize textE (0 :: x.1.data) = TE at *
        clear hx hata hok hd
        obtain ⟨cK, hcK⟩ : ∃ c, UInt8.ofNat (x.1.kind % 256).toNat = c := ⟨_, rfl⟩
        rw [hcK] at hcv
        clear hcK
        by_cases h1 : x.1.kind = 1
        · have e1 : (x.1.kind == 1) = true := by simp [h1]
          have e2 : (x.1.kind == 2) = false := by simp [h1]
          obtain ⟨n, hn, hnl⟩ := wrap_u64_nat x.1.back
          have hpn := Lib.hid (refPut_calls n hnl W5)
          have hpl := put_length n
          generalize put n = PN at *
          clear h1
          have kw : ∀ W, Below W5.heap.size W5 W → W.cell? ⟨ga, oa + k * 37, none⟩ = some (.int .i64 x.1.kind) := fun W hb => rit_kind (rangeAt_below hca hga (bthen b5 b5.size hb))
          go_wp2_with (first
            | ((with_reducible refine hpn.out.mono ?_); rintro e w6 ⟨rfl, hb6⟩
               have b6 := bthen b5 b5.size hb6
               have k6 := kw w6 hb6))
          all_goals try (exfalso; simp at *; omega)
          obtain ⟨T7, hT7⟩ : ∃ T7, T ++ cK :: PN = T7 := ⟨_, rfl⟩
          have hT7l : T7.length ≤ T.length + 12 := by rw [← hT7]; simp; omega
          rw [hT7]
          have hC0 : Below w.heap.size w w6 := b6
          clear hT7 c0 k5 c5 s5 hr5 hcv kw k6 b6 hb6 hpn hn hW5 b5 hbel
          obtain ⟨V, hV⟩ : ∃ V : Nat → Value, V = fun i => [(.string (B T7)), undef, (.string (B [0])), (.slice (some ⟨ga, oa, none⟩) l.length capa), (.int .i64 k), (.pointer (some ⟨ga, oa + k * 37, none⟩)), (.pointer (some ⟨ga, oa + k * 37 + 34, none⟩)), (.string (B x.1.data)), (.string (B (0 :: x.1.data))), (.string (B TE)), (.string (B (T7 ++ TE))), (.string (B (T7 ++ TE)))].getD i undef := ⟨_, rfl⟩
          have v0 : V 0 = (.string (B T7)) := by rw [hV]; rfl
          have v2 : V 2 = (.string (B [0])) := by rw [hV]; rfl
          have v3 : V 3 = (.slice (some ⟨ga, oa, none⟩) l.length capa) := by rw [hV]; rfl
          have v4 : V 4 = (.int .i64 k) := by rw [hV]; rfl
          have v5 : V 5 = (.pointer (some ⟨ga, oa + k * 37, none⟩)) := by rw [hV]; rfl
          have v6 : V 6 = (.pointer (some ⟨ga, oa + k * 37 + 34, none⟩)) := by rw [hV]; rfl
          have v7 : V 7 = (.string (B x.1.data)) := by rw [hV]; rfl
          have v8 : V 8 = (.string (B (0 :: x.1.data))) := by rw [hV]; rfl
          have v9 : V 9 = (.string (B TE)) := by rw [hV]; rfl
          have v10 : V 10 = (.string (B (T7 ++ TE))) := by rw [hV]; rfl
          have v11 : V 11 = (.string (B (T7 ++ TE))) := by rw [hV]; rfl
          clear hV
          refine wp_region_listed (C := fun _ W => Below w.heap.size w W) (R := ByR V 1 0) (by kernel_rfl) (by kernel_rfl) (by kernel_rfl) ?_ hC0.drew ?_ ?_
          · exact sizes_spec (n := 76) (by kernel_rfl)
          · intro i o listed a w1 ho hi hL
            have hin := (ready_spec hi).1
            have hsz : listed.size = 12 := hL.size
            match i, ho with
            | 0, ho =>
              obtain rfl := (Option.some.inj ho).symm
              have e0 : a.tmps[7]?.getD undef = (.string (B T7)) := (slot_eval a 7).trans (hL.get_old hi (by kernel_rfl))
              have hc := hL.cls
              refine step_wp rfl rfl ?_
              clear ho hL
              refine wp_val (v := (.string (B T7))) ?_ ⟨_, rfl, ByR.mk (by decide) v0.symm, hc, fun _ _ _ h => h⟩
              clear hi hin hsz v0 v2 v3 v4 v5 v6 v7 v8 v9 v10 v11  hc
              unfold execOp
              go_simp
            | 1, ho =>
              obtain rfl := (Option.some.inj ho).symm
              have hc := hL.cls
              refine step_wp rfl rfl ?_
              clear hi ho hL hin
              have hbA : Below w1.heap.size w1 (w1.alloc (.cells #[.int .u8 0] 5)) := (Below.refl _ _).alloc (Nat.le_refl _) _
              refine wp_val' (v := .slice (some ⟨w1.heap.size, 0, none⟩) 1 1) (w' := w1.alloc (.cells #[.int .u8 0] 5)) ?_ ⟨_, rfl, ByR.new w1 _, hc.alloc hc.size _, fun _ _ _ h => ByR.below h hbA⟩
              clear hc
              unfold execOp
              go_simp
            | 2, ho =>
              obtain rfl := (Option.some.inj ho).symm
              have e0 := hL.get_new (j := 1) (t := 62) hi (by kernel_rfl)
              have hc := hL.cls
              obtain ⟨b, e1, hb1, hb2⟩ := ByR.lit e0
              have e1 := (slot_eval a 62).trans e1
              have hcv := str_of_cell hb2
              refine step_wp rfl rfl ?_
              clear hi ho hL hin
              refine wp_val (v := .string (B [0])) ?_ ⟨_, rfl, ByR.mk (by decide) v2.symm, hc, fun _ _ _ h => h⟩
              clear hc v0 v2 v3 v4 v5 v6 v7 v8 v9 v10 v11
              unfold execOp
              go_simp
            | 3, ho =>
              obtain rfl := (Option.some.inj ho).symm
              have e0 : a.tmps[0]?.getD undef = (.slice (some ⟨ga, oa, none⟩) l.length capa) := (slot_eval a 0).trans (hL.get_old hi (by kernel_rfl))
              have hc := hL.cls
              refine step_wp rfl rfl ?_
              clear ho hL
              refine wp_val (v := (.slice (some ⟨ga, oa, none⟩) l.length capa)) ?_ ⟨_, rfl, ByR.mk (by decide) v3.symm, hc, fun _ _ _ h => h⟩
              clear hi hin hsz v0 v2 v3 v4 v5 v6 v7 v8 v9 v10 v11  hc
              unfold execOp
              go_simp
            | 4, ho =>
              obtain rfl := (Option.some.inj ho).symm
              have e0 : a.tmps[8]?.getD undef = (.int .i64 k) := (slot_eval a 8).trans (hL.get_old hi (by kernel_rfl))
              have hc := hL.cls
              refine step_wp rfl rfl ?_
              clear ho hL
              refine wp_val (v := (.int .i64 k)) ?_ ⟨_, rfl, ByR.mk (by decide) v4.symm, hc, fun _ _ _ h => h⟩
              clear hi hin hsz v0 v2 v3 v4 v5 v6 v7 v8 v9 v10 v11  hc
              unfold execOp
              go_simp
            | 5, ho =>
              obtain rfl := (Option.some.inj ho).symm
              have e0 : a.tmps[64]?.getD undef = (.slice (some ⟨ga, oa, none⟩) l.length capa) := (slot_eval a 64).trans ((ByR.at_ (hi := by decide) (hL.get_new (j := 3) hi (by kernel_rfl))).trans v3)
              have e1 : a.tmps[65]?.getD undef = (.int .i64 k) := (slot_eval a 65).trans ((ByR.at_ (hi := by decide) (hL.get_new (j := 4) hi (by kernel_rfl))).trans v4)
              have hc := hL.cls
              refine step_wp rfl rfl ?_
              clear ho hL
              refine wp_val (v := (.pointer (some ⟨ga, oa + k * 37, none⟩))) ?_ ⟨_, rfl, ByR.mk (by decide) v5.symm, hc, fun _ _ _ h => h⟩
              clear hi hin hsz v0 v2 v3 v4 v5 v6 v7 v8 v9 v10 v11  hc
              unfold execOp
              go_simp
            | 6, ho =>
              obtain rfl := (Option.some.inj ho).symm
              have e0 : a.tmps[66]?.getD undef = (.pointer (some ⟨ga, oa + k * 37, none⟩)) := (slot_eval a 66).trans ((ByR.at_ (hi := by decide) (hL.get_new (j := 5) hi (by kernel_rfl))).trans v5)
              have hc := hL.cls
              refine step_wp rfl rfl ?_
              clear ho hL
              refine wp_val (v := (.pointer (some ⟨ga, oa + k * 37 + 34, none⟩))) ?_ ⟨_, rfl, ByR.mk (by decide) v6.symm, hc, fun _ _ _ h => h⟩
              clear hi hin hsz v0 v2 v3 v4 v5 v6 v7 v8 v9 v10 v11  hc
              unfold execOp
              go_simp
            | 7, ho =>
              obtain rfl := (Option.some.inj ho).symm
              have e0 : a.tmps[67]?.getD undef = (.pointer (some ⟨ga, oa + k * 37 + 34, none⟩)) := (slot_eval a 67).trans ((ByR.at_ (hi := by decide) (hL.get_new (j := 6) hi (by kernel_rfl))).trans v6)
              have hc := hL.cls
              refine step_wp rfl rfl ?_
              clear ho hL
              refine wp_val (v := (.string (B x.1.data))) ?_ ⟨_, rfl, ByR.mk (by decide) v7.symm, hc, fun _ _ _ h => h⟩
              have q := rit_data hx32 (rangeAt_below hca hga hc)
              clear hi hin hsz v0 v2 v3 v4 v5 v6 v7 v8 v9 v10 v11  hc
              unfold execOp
              go_simp
            | 8, ho =>
              obtain rfl := (Option.some.inj ho).symm
              have e0 : a.tmps[63]?.getD undef = (.string (B [0])) := (slot_eval a 63).trans ((ByR.at_ (hi := by decide) (hL.get_new (j := 2) hi (by kernel_rfl))).trans v2)
              have e1 : a.tmps[68]?.getD undef = (.string (B x.1.data)) := (slot_eval a 68).trans ((ByR.at_ (hi := by decide) (hL.get_new (j := 7) hi (by kernel_rfl))).trans v7)
              have hc := hL.cls
              refine step_wp rfl rfl ?_
              clear ho hL
              refine wp_val (v := (.string (B (0 :: x.1.data)))) ?_ ⟨_, rfl, ByR.mk (by decide) v8.symm, hc, fun _ _ _ h => h⟩
              clear hi hin hsz v0 v2 v3 v4 v5 v6 v7 v8 v9 v10 v11  hc
              unfold execOp
              go_simp
              omega
            | 9, ho =>
              obtain rfl := (Option.some.inj ho).symm
              have e0 : a.tmps[69]?.getD undef = (.string (B (0 :: x.1.data))) := (slot_eval a 69).trans ((ByR.at_ (hi := by decide) (hL.get_new (j := 8) hi (by kernel_rfl))).trans v8)
              have hc := hL.cls
              refine step_wp rfl rfl ?_
              clear hi ho hL hin
              refine call_step rfl (vals := #[.string (B (0 :: x.1.data))]) (map1 (slot_is e0)) (by go_simp) (htx w1).out ?_
              rintro e w2 ⟨rfl, hb2⟩
              exact ⟨_, rfl, _, rfl, ByR.mk (by decide) v9.symm, bthen hc hc.size hb2, fun _ _ _ h => ByR.below h hb2⟩
            | 10, ho =>
              obtain rfl := (Option.some.inj ho).symm
              have e0 : a.tmps[61]?.getD undef = (.string (B T7)) := (slot_eval a 61).trans ((ByR.at_ (hi := by decide) (hL.get_new (j := 0) hi (by kernel_rfl))).trans v0)
              have e1 : a.tmps[70]?.getD undef = (.string (B TE)) := (slot_eval a 70).trans ((ByR.at_ (hi := by decide) (hL.get_new (j := 9) hi (by kernel_rfl))).trans v9)
              have hc := hL.cls
              refine step_wp rfl rfl ?_
              clear ho hL
              refine wp_val (v := (.string (B (T7 ++ TE)))) ?_ ⟨_, rfl, ByR.mk (by decide) v10.symm, hc, fun _ _ _ h => h⟩
              clear hi hin hsz v0 v2 v3 v4 v5 v6 v7 v8 v9 v10 v11  hc
              unfold execOp
              go_simp
              omega
            | 11, ho =>
              obtain rfl := (Option.some.inj ho).symm
              have e0 : a.tmps[71]?.getD undef = (.string (B (T7 ++ TE))) := (slot_eval a 71).trans ((ByR.at_ (hi := by decide) (hL.get_new (j := 10) hi (by kernel_rfl))).trans v10)
              have hc := hL.cls
              refine step_wp rfl rfl ?_
              clear ho hL
              refine wp_val (v := (.string (B (T7 ++ TE)))) ?_ ⟨_, rfl, ByR.mk (by decide) v11.symm, hc, fun _ _ _ h => h⟩
              clear hi hin hsz v0 v2 v3 v4 v5 v6 v7 v8 v9 v10 v11  hc
              unfold execOp
              go_simp
            | (n + 12), ho => exact absurd hin (by simp)
          · intro a w1 listed hL hall
            have hc := hL.cls
            obtain ⟨vs, rfl, hR⟩ := hL.frame (by kernel_rfl) (sizes_spec (n := 76) (by kernel_rfl)) hall
            simp only [putAll, Act.put, List.setIfInBounds_toArray, List.set_cons_zero, List.set_cons_succ]
            simp only [Nat.zero_add, Nat.reduceAdd]
            have h7 := (ByR.at_ (hR 11 _ 7 rfl rfl) (by decide)).trans v11
            generalize vs 11 = vz at h7
            subst h7
            have belz := hc
            clear hR hc hL
            go_wp2
            go_roundw
            case rel => exact ⟨k + 1, T7 ++ TE, rfl, by go_num, by omega, by rw [List.length_append]; omega, belz⟩
            case measure => simp [intOf]; omega
        · have e1 : (x.1.kind == 1) = false := by simp [h1]
          by_cases h2 : x.1.kind = 2
          · have e2 : (x.1.kind == 2) = true := by simp [h2]
            clear h1 h2
            go_wp2
            all_goals try (exfalso; simp at *; omega)
            obtain ⟨T7, hT7⟩ : ∃ T7, T ++ cK :: x.1.base = T7 := ⟨_, rfl⟩
            have hT7l : T7.length ≤ T.length + 33 := by rw [← hT7]; simp; omega
            rw [hT7]
            have hC0 : Below w.heap.size w W5 := b5
            clear hT7 c0 k5 c5 s5 hr5 hcv hW5 b5 hbel
            obtain ⟨V, hV⟩ : ∃ V : Nat → Value, V = fun i => [(.string (B T7)), undef, (.string (B [0])), (.slice (some ⟨ga, oa, none⟩) l.length capa), (.int .i64 k), (.pointer (some ⟨ga, oa + k * 37, none⟩)), (.pointer (some ⟨ga, oa + k * 37 + 34, none⟩)), (.string (B x.1.data)), (.string (B (0 :: x.1.data))), (.string (B TE)), (.string (B (T7 ++ TE))), (.string (B (T7 ++ TE)))].getD i undef := ⟨_, rfl⟩
            have v0 : V 0 = (.string (B T7)) := by rw [hV]; rfl
            have v2 : V 2 = (.string (B [0])) := by rw [hV]; rfl
            have v3 : V 3 = (.slice (some ⟨ga, oa, none⟩) l.length capa) := by rw [hV]; rfl
            have v4 : V 4 = (.int .i64 k) := by rw [hV]; rfl
            have v5 : V 5 = (.pointer (some ⟨ga, oa + k * 37, none⟩)) := by rw [hV]; rfl
            have v6 : V 6 = (.pointer (some ⟨ga, oa + k * 37 + 34, none⟩)) := by rw [hV]; rfl
            have v7 : V 7 = (.string (B x.1.data)) := by rw [hV]; rfl
            have v8 : V 8 = (.string (B (0 :: x.1.data))) := by rw [hV]; rfl
            have v9 : V 9 = (.string (B TE)) := by rw [hV]; rfl
            have v10 : V 10 = (.string (B (T7 ++ TE))) := by rw [hV]; rfl
            have v11 : V 11 = (.string (B (T7 ++ TE))) := by rw [hV]; rfl
            clear hV
            refine wp_region_listed (C := fun _ W => Below w.heap.size w W) (R := ByR V 1 0) (by kernel_rfl) (by kernel_rfl) (by kernel_rfl) ?_ hC0.drew ?_ ?_
            · exact sizes_spec (n := 76) (by kernel_rfl)
            · intro i o listed a w1 ho hi hL
              have hin := (ready_spec hi).1
              have hsz : listed.size = 12 := hL.size
              match i, ho with
              | 0, ho =>
                obtain rfl := (Option.some.inj ho).symm
                have e0 : a.tmps[7]?.getD undef = (.string (B T7)) := (slot_eval a 7).trans (hL.get_old hi (by kernel_rfl))
                have hc := hL.cls
                refine step_wp rfl rfl ?_
                clear ho hL
                refine wp_val (v := (.string (B T7))) ?_ ⟨_, rfl, ByR.mk (by decide) v0.symm, hc, fun _ _ _ h => h⟩
                clear hi hin hsz v0 v2 v3 v4 v5 v6 v7 v8 v9 v10 v11  hc
                unfold execOp
                go_simp
              | 1, ho =>
                obtain rfl := (Option.some.inj ho).symm
                have hc := hL.cls
                refine step_wp rfl rfl ?_
                clear hi ho hL hin
                have hbA : Below w1.heap.size w1 (w1.alloc (.cells #[.int .u8 0] 5)) := (Below.refl _ _).alloc (Nat.le_refl _) _
                refine wp_val' (v := .slice (some ⟨w1.heap.size, 0, none⟩) 1 1) (w' := w1.alloc (.cells #[.int .u8 0] 5)) ?_ ⟨_, rfl, ByR.new w1 _, hc.alloc hc.size _, fun _ _ _ h => ByR.below h hbA⟩
                clear hc
                unfold execOp
                go_simp
              | 2, ho =>
                obtain rfl := (Option.some.inj ho).symm
                have e0 := hL.get_new (j := 1) (t := 62) hi (by kernel_rfl)
                have hc := hL.cls
                obtain ⟨b, e1, hb1, hb2⟩ := ByR.lit e0
                have e1 := (slot_eval a 62).trans e1
                have hcv := str_of_cell hb2
                refine step_wp rfl rfl ?_
                clear hi ho hL hin
                refine wp_val (v := .string (B [0])) ?_ ⟨_, rfl, ByR.mk (by decide) v2.symm, hc, fun _ _ _ h => h⟩
                clear hc v0 v2 v3 v4 v5 v6 v7 v8 v9 v10 v11
                unfold execOp
                go_simp
              | 3, ho =>
                obtain rfl := (Option.some.inj ho).symm
                have e0 : a.tmps[0]?.getD undef = (.slice (some ⟨ga, oa, none⟩) l.length capa) := (slot_eval a 0).trans (hL.get_old hi (by kernel_rfl))
                have hc := hL.cls
                refine step_wp rfl rfl ?_
                clear ho hL
                refine wp_val (v := (.slice (some ⟨ga, oa, none⟩) l.length capa)) ?_ ⟨_, rfl, ByR.mk (by decide) v3.symm, hc, fun _ _ _ h => h⟩
                clear hi hin hsz v0 v2 v3 v4 v5 v6 v7 v8 v9 v10 v11  hc
                unfold execOp
                go_simp
              | 4, ho =>
                obtain rfl := (Option.some.inj ho).symm
                have e0 : a.tmps[8]?.getD undef = (.int .i64 k) := (slot_eval a 8).trans (hL.get_old hi (by kernel_rfl))
                have hc := hL.cls
                refine step_wp rfl rfl ?_
                clear ho hL
                refine wp_val (v := (.int .i64 k)) ?_ ⟨_, rfl, ByR.mk (by decide) v4.symm, hc, fun _ _ _ h => h⟩
                clear hi hin hsz v0 v2 v3 v4 v5 v6 v7 v8 v9 v10 v11  hc
                unfold execOp
                go_simp
              | 5, ho =>
                obtain rfl := (Option.some.inj ho).symm
                have e0 : a.tmps[64]?.getD undef = (.slice (some ⟨ga, oa, none⟩) l.length capa) := (slot_eval a 64).trans ((ByR.at_ (hi := by decide) (hL.get_new (j := 3) hi (by kernel_rfl))).trans v3)
                have e1 : a.tmps[65]?.getD undef = (.int .i64 k) := (slot_eval a 65).trans ((ByR.at_ (hi := by decide) (hL.get_new (j := 4) hi (by kernel_rfl))).trans v4)
                have hc := hL.cls
                refine step_wp rfl rfl ?_
                clear ho hL
                refine wp_val (v := (.pointer (some ⟨ga, oa + k * 37, none⟩))) ?_ ⟨_, rfl, ByR.mk (by decide) v5.symm, hc, fun _ _ _ h => h⟩
                clear hi hin hsz v0 v2 v3 v4 v5 v6 v7 v8 v9 v10 v11  hc
                unfold execOp
                go_simp
              | 6, ho =>
                obtain rfl := (Option.some.inj ho).symm
                have e0 : a.tmps[66]?.getD undef = (.pointer (some ⟨ga, oa + k * 37, none⟩)) := (slot_eval a 66).trans ((ByR.at_ (hi := by decide) (hL.get_new (j := 5) hi (by kernel_rfl))).trans v5)
                have hc := hL.cls
                refine step_wp rfl rfl ?_
                clear ho hL
                refine wp_val (v := (.pointer (some ⟨ga, oa + k * 37 + 34, none⟩))) ?_ ⟨_, rfl, ByR.mk (by decide) v6.symm, hc, fun _ _ _ h => h⟩
                clear hi hin hsz v0 v2 v3 v4 v5 v6 v7 v8 v9 v10 v11  hc
                unfold execOp
                go_simp
              | 7, ho =>
                obtain rfl := (Option.some.inj ho).symm
                have e0 : a.tmps[67]?.getD undef = (.pointer (some ⟨ga, oa + k * 37 + 34, none⟩)) := (slot_eval a 67).trans ((ByR.at_ (hi := by decide) (hL.get_new (j := 6) hi (by kernel_rfl))).trans v6)
                have hc := hL.cls
                refine step_wp rfl rfl ?_
                clear ho hL
                refine wp_val (v := (.string (B x.1.data))) ?_ ⟨_, rfl, ByR.mk (by decide) v7.symm, hc, fun _ _ _ h => h⟩
                have q := rit_data hx32 (rangeAt_below hca hga hc)
                clear hi hin hsz v0 v2 v3 v4 v5 v6 v7 v8 v9 v10 v11  hc
                unfold execOp
                go_simp
              | 8, ho =>
                obtain rfl := (Option.some.inj ho).symm
                have e0 : a.tmps[63]?.getD undef = (.string (B [0])) := (slot_eval a 63).trans ((ByR.at_ (hi := by decide) (hL.get_new (j := 2) hi (by kernel_rfl))).trans v2)
                have e1 : a.tmps[68]?.getD undef = (.string (B x.1.data)) := (slot_eval a 68).trans ((ByR.at_ (hi := by decide) (hL.get_new (j := 7) hi (by kernel_rfl))).trans v7)
                have hc := hL.cls
                refine step_wp rfl rfl ?_
                clear ho hL
                refine wp_val (v := (.string (B (0 :: x.1.data)))) ?_ ⟨_, rfl, ByR.mk (by decide) v8.symm, hc, fun _ _ _ h => h⟩
                clear hi hin hsz v0 v2 v3 v4 v5 v6 v7 v8 v9 v10 v11  hc
                unfold execOp
                go_simp
                omega
              | 9, ho =>
                obtain rfl := (Option.some.inj ho).symm
                have e0 : a.tmps[69]?.getD undef = (.string (B (0 :: x.1.data))) := (slot_eval a 69).trans ((ByR.at_ (hi := by decide) (hL.get_new (j := 8) hi (by kernel_rfl))).trans v8)
                have hc := hL.cls
                refine step_wp rfl rfl ?_
                clear hi ho hL hin
                refine call_step rfl (vals := #[.string (B (0 :: x.1.data))]) (map1 (slot_is e0)) (by go_simp) (htx w1).out ?_
                rintro e w2 ⟨rfl, hb2⟩
                exact ⟨_, rfl, _, rfl, ByR.mk (by decide) v9.symm, bthen hc hc.size hb2, fun _ _ _ h => ByR.below h hb2⟩
              | 10, ho =>
                obtain rfl := (Option.some.inj ho).symm
                have e0 : a.tmps[61]?.getD undef = (.string (B T7)) := (slot_eval a 61).trans ((ByR.at_ (hi := by decide) (hL.get_new (j := 0) hi (by kernel_rfl))).trans v0)
                have e1 : a.tmps[70]?.getD undef = (.string (B TE)) := (slot_eval a 70).trans ((ByR.at_ (hi := by decide) (hL.get_new (j := 9) hi (by kernel_rfl))).trans v9)
                have hc := hL.cls
                refine step_wp rfl rfl ?_
                clear ho hL
                refine wp_val (v := (.string (B (T7 ++ TE)))) ?_ ⟨_, rfl, ByR.mk (by decide) v10.symm, hc, fun _ _ _ h => h⟩
                clear hi hin hsz v0 v2 v3 v4 v5 v6 v7 v8 v9 v10 v11  hc
                unfold execOp
                go_simp
                omega
              | 11, ho =>
                obtain rfl := (Option.some.inj ho).symm
                have e0 : a.tmps[71]?.getD undef = (.string (B (T7 ++ TE))) := (slot_eval a 71).trans ((ByR.at_ (hi := by decide) (hL.get_new (j := 10) hi (by kernel_rfl))).trans v10)
                have hc := hL.cls
                refine step_wp rfl rfl ?_
                clear ho hL
                refine wp_val (v := (.string (B (T7 ++ TE)))) ?_ ⟨_, rfl, ByR.mk (by decide) v11.symm, hc, fun _ _ _ h => h⟩
                clear hi hin hsz v0 v2 v3 v4 v5 v6 v7 v8 v9 v10 v11  hc
                unfold execOp
                go_simp
              | (n + 12), ho => exact absurd hin (by simp)
            · intro a w1 listed hL hall
              have hc := hL.cls
              obtain ⟨vs, rfl, hR⟩ := hL.frame (by kernel_rfl) (sizes_spec (n := 76) (by kernel_rfl)) hall
              simp only [putAll, Act.put, List.setIfInBounds_toArray, List.set_cons_zero, List.set_cons_succ]
              simp only [Nat.zero_add, Nat.reduceAdd]
              have h7 := (ByR.at_ (hR 11 _ 7 rfl rfl) (by decide)).trans v11
              generalize vs 11 = vz at h7
              subst h7
              have belz := hc
              clear hR hc hL
              go_wp2
              go_roundw
              case rel => exact ⟨k + 1, T7 ++ TE, rfl, by go_num, by omega, by rw [List.length_append]; omega, belz⟩
              case measure => simp [intOf]; omega
          · have e2 : (x.1.kind == 2) = false := by simp [h2]
            clear h1 h2
            go_wp2
            all_goals try (exfalso; simp at *; omega)
            obtain ⟨T7, hT7⟩ : ∃ T7, T ++ [cK] = T7 := ⟨_, rfl⟩
            have hT7l : T7.length ≤ T.length + 33 := by rw [← hT7]; simp
            rw [hT7]
            have hC0 : Below w.heap.size w W5 := b5
            clear hT7 c0 k5 c5 s5 hr5 hcv hW5 b5 hbel
            obtain ⟨V, hV⟩ : ∃ V : Nat → Value, V = fun i => [(.string (B T7)), undef, (.string (B [0])), (.slice (some ⟨ga, oa, none⟩) l.length capa), (.int .i64 k), (.pointer (some ⟨ga, oa + k * 37, none⟩)), (.pointer (some ⟨ga, oa + k * 37 + 34, none⟩)), (.string (B x.1.data)), (.string (B (0 :: x.1.data))), (.string (B TE)), (.string (B (T7 ++ TE))), (.string (B (T7 ++ TE)))].getD i undef := ⟨_, rfl⟩
            have v0 : V 0 = (.string (B T7)) := by rw [hV]; rfl
            have v2 : V 2 = (.string (B [0])) := by rw [hV]; rfl
            have v3 : V 3 = (.slice (some ⟨ga, oa, none⟩) l.length capa) := by rw [hV]; rfl
            have v4 : V 4 = (.int .i64 k) := by rw [hV]; rfl
            have v5 : V 5 = (.pointer (some ⟨ga, oa + k * 37, none⟩)) := by rw [hV]; rfl
            have v6 : V 6 = (.pointer (some ⟨ga, oa + k * 37 + 34, none⟩)) := by rw [hV]; rfl
            have v7 : V 7 = (.string (B x.1.data)) := by rw [hV]; rfl
            have v8 : V 8 = (.string (B (0 :: x.1.data))) := by rw [hV]; rfl
            have v9 : V 9 = (.string (B TE)) := by rw [hV]; rfl
            have v10 : V 10 = (.string (B (T7 ++ TE))) := by rw [hV]; rfl
            have v11 : V 11 = (.string (B (T7 ++ TE))) := by rw [hV]; rfl
            clear hV
            refine wp_region_listed (C := fun _ W => Below w.heap.size w W) (R := ByR V 1 0) (by kernel_rfl) (by kernel_rfl) (by kernel_rfl) ?_ hC0.drew ?_ ?_
            · exact sizes_spec (n := 76) (by kernel_rfl)
            · intro i o listed a w1 ho hi hL
              have hin := (ready_spec hi).1
              have hsz : listed.size = 12 := hL.size
              match i, ho with
              | 0, ho =>
                obtain rfl := (Option.some.inj ho).symm
                have e0 : a.tmps[7]?.getD undef = (.string (B T7)) := (slot_eval a 7).trans (hL.get_old hi (by kernel_rfl))
                have hc := hL.cls
                refine step_wp rfl rfl ?_
                clear ho hL
                refine wp_val (v := (.string (B T7))) ?_ ⟨_, rfl, ByR.mk (by decide) v0.symm, hc, fun _ _ _ h => h⟩
                clear hi hin hsz v0 v2 v3 v4 v5 v6 v7 v8 v9 v10 v11  hc
                unfold execOp
                go_simp
              | 1, ho =>
                obtain rfl := (Option.some.inj ho).symm
                have hc := hL.cls
                refine step_wp rfl rfl ?_
                clear hi ho hL hin
                have hbA : Below w1.heap.size w1 (w1.alloc (.cells #[.int .u8 0] 5)) := (Below.refl _ _).alloc (Nat.le_refl _) _
                refine wp_val' (v := .slice (some ⟨w1.heap.size, 0, none⟩) 1 1) (w' := w1.alloc (.cells #[.int .u8 0] 5)) ?_ ⟨_, rfl, ByR.new w1 _, hc.alloc hc.size _, fun _ _ _ h => ByR.below h hbA⟩
                clear hc
                unfold execOp
                go_simp
              | 2, ho =>
                obtain rfl := (Option.some.inj ho).symm
                have e0 := hL.get_new (j := 1) (t := 62) hi (by kernel_rfl)
                have hc := hL.cls
                obtain ⟨b, e1, hb1, hb2⟩ := ByR.lit e0
                have e1 := (slot_eval a 62).trans e1
                have hcv := str_of_cell hb2
                refine step_wp rfl rfl ?_
                clear hi ho hL hin
                refine wp_val (v := .string (B [0])) ?_ ⟨_, rfl, ByR.mk (by decide) v2.symm, hc, fun _ _ _ h => h⟩
                clear hc v0 v2 v3 v4 v5 v6 v7 v8 v9 v10 v11
                unfold execOp
                go_simp
              | 3, ho =>
                obtain rfl := (Option.some.inj ho).symm
                have e0 : a.tmps[0]?.getD undef = (.slice (some ⟨ga, oa, none⟩) l.length capa) := (slot_eval a 0).trans (hL.get_old hi (by kernel_rfl))
                have hc := hL.cls
                refine step_wp rfl rfl ?_
                clear ho hL
                refine wp_val (v := (.slice (some ⟨ga, oa, none⟩) l.length capa)) ?_ ⟨_, rfl, ByR.mk (by decide) v3.symm, hc, fun _ _ _ h => h⟩
                clear hi hin hsz v0 v2 v3 v4 v5 v6 v7 v8 v9 v10 v11  hc
                unfold execOp
                go_simp
              | 4, ho =>
                obtain rfl := (Option.some.inj ho).symm
                have e0 : a.tmps[8]?.getD undef = (.int .i64 k) := (slot_eval a 8).trans (hL.get_old hi (by kernel_rfl))
                have hc := hL.cls
                refine step_wp rfl rfl ?_
                clear ho hL
                refine wp_val (v := (.int .i64 k)) ?_ ⟨_, rfl, ByR.mk (by decide) v4.symm, hc, fun _ _ _ h => h⟩
                clear hi hin hsz v0 v2 v3 v4 v5 v6 v7 v8 v9 v10 v11  hc
                unfold execOp
                go_simp
              | 5, ho =>
                obtain rfl := (Option.some.inj ho).symm
                have e0 : a.tmps[64]?.getD undef = (.slice (some ⟨ga, oa, none⟩) l.length capa) := (slot_eval a 64).trans ((ByR.at_ (hi := by decide) (hL.get_new (j := 3) hi (by kernel_rfl))).trans v3)
                have e1 : a.tmps[65]?.getD undef = (.int .i64 k) := (slot_eval a 65).trans ((ByR.at_ (hi := by decide) (hL.get_new (j := 4) hi (by kernel_rfl))).trans v4)
                have hc := hL.cls
                refine step_wp rfl rfl ?_
                clear ho hL
                refine wp_val (v := (.pointer (some ⟨ga, oa + k * 37, none⟩))) ?_ ⟨_, rfl, ByR.mk (by decide) v5.symm, hc, fun _ _ _ h => h⟩
                clear hi hin hsz v0 v2 v3 v4 v5 v6 v7 v8 v9 v10 v11  hc
                unfold execOp
                go_simp
              | 6, ho =>
                obtain rfl := (Option.some.inj ho).symm
                have e0 : a.tmps[66]?.getD undef = (.pointer (some ⟨ga, oa + k * 37, none⟩)) := (slot_eval a 66).trans ((ByR.at_ (hi := by decide) (hL.get_new (j := 5) hi (by kernel_rfl))).trans v5)
                have hc := hL.cls
                refine step_wp rfl rfl ?_
                clear ho hL
                refine wp_val (v := (.pointer (some ⟨ga, oa + k * 37 + 34, none⟩))) ?_ ⟨_, rfl, ByR.mk (by decide) v6.symm, hc, fun _ _ _ h => h⟩
                clear hi hin hsz v0 v2 v3 v4 v5 v6 v7 v8 v9 v10 v11  hc
                unfold execOp
                go_simp
              | 7, ho =>
                obtain rfl := (Option.some.inj ho).symm
                have e0 : a.tmps[67]?.getD undef = (.pointer (some ⟨ga, oa + k * 37 + 34, none⟩)) := (slot_eval a 67).trans ((ByR.at_ (hi := by decide) (hL.get_new (j := 6) hi (by kernel_rfl))).trans v6)
                have hc := hL.cls
                refine step_wp rfl rfl ?_
                clear ho hL
                refine wp_val (v := (.string (B x.1.data))) ?_ ⟨_, rfl, ByR.mk (by decide) v7.symm, hc, fun _ _ _ h => h⟩
                have q := rit_data hx32 (rangeAt_below hca hga hc)
                clear hi hin hsz v0 v2 v3 v4 v5 v6 v7 v8 v9 v10 v11  hc
                unfold execOp
                go_simp
              | 8, ho =>
                obtain rfl := (Option.some.inj ho).symm
                have e0 : a.tmps[63]?.getD undef = (.string (B [0])) := (slot_eval a 63).trans ((ByR.at_ (hi := by decide) (hL.get_new (j := 2) hi (by kernel_rfl))).trans v2)
                have e1 : a.tmps[68]?.getD undef = (.string (B x.1.data)) := (slot_eval a 68).trans ((ByR.at_ (hi := by decide) (hL.get_new (j := 7) hi (by kernel_rfl))).trans v7)
                have hc := hL.cls
                refine step_wp rfl rfl ?_
                clear ho hL
                refine wp_val (v := (.string (B (0 :: x.1.data)))) ?_ ⟨_, rfl, ByR.mk (by decide) v8.symm, hc, fun _ _ _ h => h⟩
                clear hi hin hsz v0 v2 v3 v4 v5 v6 v7 v8 v9 v10 v11  hc
                unfold execOp
                go_simp
                omega
              | 9, ho =>
                obtain rfl := (Option.some.inj ho).symm
                have e0 : a.tmps[69]?.getD undef = (.string (B (0 :: x.1.data))) := (slot_eval a 69).trans ((ByR.at_ (hi := by decide) (hL.get_new (j := 8) hi (by kernel_rfl))).trans v8)
                have hc := hL.cls
                refine step_wp rfl rfl ?_
                clear hi ho hL hin
                refine call_step rfl (vals := #[.string (B (0 :: x.1.data))]) (map1 (slot_is e0)) (by go_simp) (htx w1).out ?_
                rintro e w2 ⟨rfl, hb2⟩
                exact ⟨_, rfl, _, rfl, ByR.mk (by decide) v9.symm, bthen hc hc.size hb2, fun _ _ _ h => ByR.below h hb2⟩
              | 10, ho =>
                obtain rfl := (Option.some.inj ho).symm
                have e0 : a.tmps[61]?.getD undef = (.string (B T7)) := (slot_eval a 61).trans ((ByR.at_ (hi := by decide) (hL.get_new (j := 0) hi (by kernel_rfl))).trans v0)
                have e1 : a.tmps[70]?.getD undef = (.string (B TE)) := (slot_eval a 70).trans ((ByR.at_ (hi := by decide) (hL.get_new (j := 9) hi (by kernel_rfl))).trans v9)
                have hc := hL.cls
                refine step_wp rfl rfl ?_
                clear ho hL
                refine wp_val (v := (.string (B (T7 ++ TE)))) ?_ ⟨_, rfl, ByR.mk (by decide) v10.symm, hc, fun _ _ _ h => h⟩
                clear hi hin hsz v0 v2 v3 v4 v5 v6 v7 v8 v9 v10 v11  hc
                unfold execOp
                go_simp
                omega
              | 11, ho =>
                obtain rfl := (Option.some.inj ho).symm
                have e0 : a.tmps[71]?.getD undef = (.string (B (T7 ++ TE))) := (slot_eval a 71).trans ((ByR.at_ (hi := by decide) (hL.get_new (j := 10) hi (by kernel_rfl))).trans v10)
                have hc := hL.cls
                refine step_wp rfl rfl ?_
                clear ho hL
                refine wp_val (v := (.string (B (T7 ++ TE)))) ?_ ⟨_, rfl, ByR.mk (by decide) v11.symm, hc, fun _ _ _ h => h⟩
                clear hi hin hsz v0 v2 v3 v4 v5 v6 v7 v8 v9 v10 v11  hc
                unfold execOp
                go_simp
              | (n + 12), ho => exact absurd hin (by simp)
            · intro a w1 listed hL hall
              have hc := hL.cls
              obtain ⟨vs, rfl, hR⟩ := hL.frame (by kernel_rfl) (sizes_spec (n := 76) (by kernel_rfl)) hall
              simp only [putAll, Act.put, List.setIfInBounds_toArray, List.set_cons_zero, List.set_cons_succ]
              simp only [Nat.zero_add, Nat.reduceAdd]
              have h7 := (ByR.at_ (hR 11 _ 7 rfl rfl) (by decide)).trans v11
              generalize vs 11 = vz at h7
              subst h7
              have belz := hc
              clear hR hc hL
              go_wp2
              go_roundw
              case rel => exact ⟨k + 1, T7 ++ TE, rfl, by go_num, by omega, by rw [List.length_append]; omega, belz⟩
              case measure => simp [intOf]; omega
      · have hki : ¬ (k : Int) < (l.length : Int) := by omega
        have hse := Lib.hid (sealed_calls (T ++ behind) (by rw [List.length_append]; omega) wr)
        have hsl := shaOf_length (T ++ behind)
        have hTb : (T ++ behind).length ≤ 299000 := by rw [List.length_append]; omega
        clear hata hok hd
        go_wp2_with (first
          | ((with_reducible refine hse.out.mono ?_); rintro e w6 ⟨rfl, hb6⟩))
        all_goals try (exfalso; simp at *; omega)
        go_ret
        exact ⟨⟨_, rfl, by simp only [List.length_append] at *; omega⟩, bthen hbel hbel.size hb6⟩
end Go.Proofs.YtoekdiklbfdpiaaDoor
/- The walk of layer 15's law: PackStored. Condition: the table of constants is as the program lays it. -/
namespace Go.Proofs.YtoekdiklbfdpiaaDoor
open Go.RowKit
set_option maxRecDepth 100000 in
set_option maxHeartbeats 8000000 in
theorem packStored_calls (l : List PItL) (hok : PitsOk l) (va : Value) (more : Int) (behind : Txt) (hbm : behind.length ≤ 9223372036854775807) (w : World) (hK : TabK w) (ha : Pits w va l) : Calls Tryd.prog 3 #[va, .int .i64 more, .string (B behind)] w fun e w' => e = .returned (.bool true) ∧ Below w.heap.size w w' := by
  have hkn := fun W (hb : Below w.heap.size w W) => Lib.hid (knows_calls15 W (hK.below hb))
  have hfw := Lib.hid (few_calls15 l hok va w ha)
  have haw := fun W (hb : Below w.heap.size w W) => ha.below hb
  clear ha
  go_enter Tryd.func3, Tryd.ntmps3
  go_upto_region 2 with (first
    | ((with_reducible refine hfw.out.mono ?_); rintro e w1 ⟨⟨b, rfl, hb⟩, b1⟩))
  cases b
  · have hk1 := hkn _ b1
    go_wp2_with (first
      | ((with_reducible refine hk1.out.mono ?_); rintro e w9 ⟨rfl, b9⟩))
    go_ret
    exact ⟨rfl, bthen b1 b1.size b9⟩
  · obtain ⟨h20, h5000⟩ := hb rfl
    by_cases hm0 : more < 0
    · have hk1 := hkn _ b1
      go_wp2_with (first
        | ((with_reducible refine hk1.out.mono ?_); rintro e w9 ⟨rfl, b9⟩))
      all_goals try (exfalso; omega)
      go_ret
      exact ⟨rfl, bthen b1 b1.size b9⟩
    · obtain ⟨told, rfl⟩ := Int.eq_ofNat_of_zero_le (show 0 ≤ more by omega)
      by_cases hm1 : told ≤ 1000
      · have i1 : ¬ (1000 : Int) < (told : Int) := by omega
        by_cases hbl : behind.length ≤ 100
        · have i2 : ¬ (100 : Int) < (behind.length : Int) := by omega
          have has := fun v W (h : Pits W v l) => as_calls15 l hok (by omega) v W h
          have hst := fun v W (h : Rits W v (asL l)) => stored_calls15 (asL l) (asL_ok hok) (by unfold asL; rw [List.length_map]; omega) (fun p hp => by
            obtain ⟨x, hx, rfl⟩ := List.mem_map.1 hp
            exact h5000 x hx) told hm1 behind hbl v W h
          have a1 := haw _ b1
          go_upto_region 5 with (first
            | ((with_reducible refine (has _ _ a1).mono ?_); rintro e w2 ⟨v2, rfl, o2, b2⟩
               have bb2 := bthen b1 b1.size b2
               have r2 := OwnRits.rits (asL_ok hok) o2)
            | ((with_reducible refine (hst _ _ r2).mono ?_); rintro e w3 ⟨⟨S, rfl, hSl⟩, b3⟩
               have bb3 := bthen bb2 bb2.size b3))
          all_goals try (exfalso; omega)
          have hdc := packDecode_calls S (by omega) w3 (hK.below bb3)
          have hrc := fun W => refDecode_calls S (by omega) W
          have hfew := decP_few S
          have hit := decP_items S
          obtain ⟨⟨X, xe⟩, hX⟩ : ∃ X, decP S = X := ⟨_, rfl⟩
          rw [hX] at hdc hrc hfew hit
          simp only at hdc hrc hfew hit
          have hdc := Lib.hid hdc
          clear hX has hst
          have hokX : PitsOk (X.map (·.1)) := fun x hx => by
            obtain ⟨p, hp, rfl⟩ := List.mem_map.1 hx
            exact hit p hp
          have has := fun v W (h : Pits W v (X.map (·.1))) => as_calls15 (X.map (·.1)) hokX (by rw [List.length_map]; omega) v W h
          have hsm := fun v1 v2 W (h1 : Rits W v1 (asL (X.map (·.1)))) (h2 : Rits W v2 X) => same_calls15 (asL (X.map (·.1))) X (asL_fst _) (asL_ok hokX) v1 v2 W h1 h2
          go_wp2_with (first
            | ((with_reducible refine hdc.out.mono ?_); rintro e w5 ⟨v5, rfl, o5, b5⟩
               have bb5 := bthen bb3 bb3.size b5
               have p5 := OwnPits.pits hit o5)
            | ((with_reducible refine (hrc _).mono ?_); rintro e w7 ⟨v7, rfl, o7, b7⟩
               have bb7 := bthen bb5 bb5.size b7
               have p7 := p5.below b7
               have r7 := OwnRits.rits hit o7)
            | ((with_reducible refine (has _ _ p7).mono ?_); rintro e w8 ⟨v8, rfl, o8, b8⟩
               have bb8 := bthen bb7 bb7.size b8
               have r8 := r7.below b8
               have s8 := OwnRits.rits (asL_ok hokX) o8)
            | ((with_reducible refine (hsm _ _ _ s8 r8).mono ?_); rintro e w9 ⟨rfl, b9⟩
               have bb9 := bthen bb8 bb8.size b9
               have hk9 := hkn _ bb9)
            | ((with_reducible refine hk9.out.mono ?_); rintro e w10 ⟨rfl, b10⟩))
          all_goals try (exfalso; omega)
          go_ret
          exact ⟨rfl, bthen bb9 bb9.size b10⟩
        · have i2 : (100 : Int) < (behind.length : Int) := by omega
          have hk1 := hkn _ b1
          go_wp2_with (first
            | ((with_reducible refine hk1.out.mono ?_); rintro e w9 ⟨rfl, b9⟩))
          all_goals try (exfalso; omega)
          go_ret
          exact ⟨rfl, bthen b1 b1.size b9⟩
      · have i1 : (1000 : Int) < (told : Int) := by omega
        have hk1 := hkn _ b1
        go_wp2_with (first
          | ((with_reducible refine hk1.out.mono ?_); rintro e w9 ⟨rfl, b9⟩))
        all_goals try (exfalso; omega)
        go_ret
        exact ⟨rfl, bthen b1 b1.size b9⟩
end Go.Proofs.YtoekdiklbfdpiaaDoor
/- Arguments that are slices of structs, in the walk's words. No condition; no program. -/
namespace Go.Proofs.YtoekdiklbfdpiaaDoor
open Go.ChangeShapes Go.WideShapes Go.ChangeAt Go.RowKit
section
variable {H : Type} {enc : TypeId × Value → H} {P : Program} {w : World} {base : Nat} {sp : Nat → Bool} {held : Bool}
open Go.Deep in
theorem open_elems {α : Type} (en : α → List Value) (k : Nat) (hk0 : 0 < k) (Ok : α → Prop) {t e : TypeId} {fuel : Nat} {v : Value} {x : DataW H × List MemPlace} (ht : P.underlying t = some (.slice e)) (hk : P.cellsOf e = k)
    (hen : ∀ y, Ok y → (en y).length = k) (key : ∀ fuel cs x, DataW.trod enc P w base sp held fuel e cs = some x → cs.length = k → ∃ y : α, cs = en y ∧ Ok y) (h : DataW.trod enc P w base sp held fuel t [v] = some x) :
    ∃ l : List α, SliceAt w k en v l ∧ ∀ y ∈ l, Ok y := by
  rcases open_slice ht h with ⟨h0, _⟩ | ⟨a, len, cap, m, n, D, Pl, hcs, hb, hl, hm, hmm, hx, hi⟩
  · injection h0 with h0
    subst h0
    exact ⟨[], SliceAt.nil, fun y hy => by simp at hy⟩
  · injection hcs with hcs
    subst hcs
    have hlm : len ≤ m := by rw [hmm]; split <;> omega
    have per : ∀ i, i < len → ∃ y : α, (∀ j u, (en y)[j]? = some u → w.cell? ((a.add (i * k)).add j) = some u) ∧ Ok y := by
      intro i hil
      obtain ⟨cs', hc, ht'⟩ := hi i (by omega)
      rw [hk] at hc
      obtain ⟨_, hcl, hat⟩ := World.cells?_some hc
      obtain ⟨y, rfl, hok⟩ := key _ _ _ ht' hcl
      refine ⟨y, fun j u hu => ?_, hok⟩
      have hj := (List.getElem?_eq_some_iff.1 hu).1
      rw [hat j (by omega)]
      exact hu
    obtain ⟨l, hll, hp⟩ := list_of len _ per
    subst hll
    have hcm : cap ≤ 9223372036854775807 := by unfold maxLen at hm; omega
    refine ⟨l, ⟨some a, cap, rfl, hl, hcm, fun h0 => ?_⟩, fun y hy => ?_⟩
    · have hy0 := (hp 0 h0).1
      have hlen0 := hen _ (hp 0 h0).2
      have hc0 := hy0 0 _ (List.getElem?_eq_getElem (by omega))
      simp only [Nat.zero_mul] at hc0
      have e00 : (a.add 0).add 0 = a := by simp [Addr.add]
      rw [e00] at hc0
      obtain ⟨ha, hlt⟩ := addr_form hc0
      refine ⟨a.block, a.off, by rw [← ha], hlt, fun i y hy j u hu => ?_⟩
      obtain ⟨hi', he⟩ := List.getElem?_eq_some_iff.1 hy
      have hc := (hp i hi').1 j u (by rw [he]; exact hu)
      rw [ha] at hc
      simp only [addr_add] at hc
      exact hc
    · obtain ⟨i, hi', rfl⟩ := List.getElem_of_mem hy
      exact (hp i hi').2
end
end Go.Proofs.YtoekdiklbfdpiaaDoor
/- An argument that is an array of bytes, in the walk's words. No condition. -/
namespace Go.Proofs.YtoekdiklbfdpiaaDoor
open Go.ChangeShapes Go.WideShapes Go.ChangeAt Go.RowKit
theorem trod_bytes {H : Type} {enc : TypeId × Value → H} {P : Program} {w : World} {base : Nat} {sp : Nat → Bool} {held : Bool} {fuel : Nat} {t e : TypeId} {n : Nat} {cs : List Value} {x : DataW H × List MemPlace}
    (ht : P.underlying t = some (.array n e)) (he : P.underlying e = some (.int .u8)) (hce : P.cellsOf e = 1) (hct : P.cellsOf t = n)
    (h : DataW.trod enc P w base sp held fuel t cs = some x) : ∃ l : List UInt8, l.length = n ∧ cs = l.map u8v := by
  cases fuel with
  | zero => simp [DataW.trod] at h
  | succ fuel =>
    simp only [DataW.trod, ht, hce, hct, Nat.mul_one] at h
    split at h
    · rename_i hl
      obtain ⟨xs, hm, _⟩ := Option.map_eq_some_iff.1 h
      have key : ∀ i, i < n → ∃ c : UInt8, cs[i]? = some (u8v c) := by
        intro i hi
        obtain ⟨b, _, hf⟩ := Lib.mapM_at hm i i (by simp [hi])
        obtain ⟨z, hc, _, hw⟩ := DataW.trod_int he hf
        have h1 : cs[i]? = some (.int .u8 z) := by
          have := congrArg (·[0]?) hc
          simpa [List.getElem?_take, List.getElem?_drop] using this
        have hb := bounds_u8 hw
        refine ⟨UInt8.ofNat z.toNat, ?_⟩
        rw [h1, u8v, ofNat_toNat_u8 _ (by omega), Int.toNat_of_nonneg hb.1]
      obtain ⟨l, hll, hp⟩ := list_of n (fun i c => cs[i]? = some (u8v c)) key
      refine ⟨l, hll, List.ext_getElem? fun i => ?_⟩
      rcases Nat.lt_or_ge i n with hi | hi
      · rw [hp i (by omega), List.getElem?_map, List.getElem?_eq_getElem (show i < l.length by omega)]
        rfl
      · rw [List.getElem?_eq_none (by omega), List.getElem?_eq_none (by simp; omega)]
    · cases h
set_option maxRecDepth 100000 in
/-- What an argument of type Id is. -/
theorem open_id {H : Type} {enc : TypeId × Value → H} {w : World} {base : Nat} {v : Value} {d : DataW H} {p : List MemPlace}
    (hv : Value.okWide Tryd.prog w .any base 36 v) (h : DataW.Trod enc Tryd.prog w 0 (fun _ => true) true 36 v d p) :
    ∃ l : List UInt8, l.length = 32 ∧ v = .agg (u8s l) := by
  simp only [Value.okWide, Tryd.underlying36] at hv
  obtain ⟨cs, rfl, _, _⟩ := hv
  obtain ⟨fuel, hf⟩ := h
  obtain ⟨l, hl, hc⟩ := trod_bytes Tryd.underlying36 Tryd.underlying5 (by kernel_rfl) (by kernel_rfl) hf
  refine ⟨l, hl, ?_⟩
  congr 1
  apply Array.ext'
  simpa [u8s, Value.cells] using hc
end Go.Proofs.YtoekdiklbfdpiaaDoor
/- Arguments that are items of packs, in the walk's words. No condition. -/
namespace Go.Proofs.YtoekdiklbfdpiaaDoor
open Go.ChangeShapes Go.WideShapes Go.ChangeAt Go.RowKit
theorem chain15 {cs a : List Value} {n k m : Nat} (h : (cs.drop n).take k = a) (hm : n + k = m) : cs.drop n = a ++ cs.drop m := by
  subst hm
  rw [← h, ← List.drop_drop, List.take_append_drop]
section
variable {H : Type} {enc : TypeId × Value → H} {w : World} {base : Nat} {sp : Nat → Bool} {held : Bool}
set_option maxRecDepth 100000 in
theorem elem_pit (fuel : Nat) (cs : List Value) (x : DataW H × List MemPlace) (h : DataW.trod enc Tryd.prog w base sp held fuel 54 cs = some x) (hl : cs.length = 35) : ∃ r : PItL, cs = pitC r ∧ r.base.length = 32 := by
  obtain ⟨ys, n', hn', hy, hlen, hyl, hf⟩ := DataW.trod_struct Tryd.underlying54 h
  have hyl : ys.length = 4 := hyl
  have h0 := hf 0 _ rfl
  have h1 := hf 1 _ rfl
  have h2 := hf 2 _ rfl
  have h3 := hf 3 _ rfl
  rw [List.getElem?_eq_getElem (show 0 < ys.length by omega)] at h0
  rw [List.getElem?_eq_getElem (show 1 < ys.length by omega)] at h1
  rw [List.getElem?_eq_getElem (show 2 < ys.length by omega)] at h2
  rw [List.getElem?_eq_getElem (show 3 < ys.length by omega)] at h3
  obtain ⟨k, e0, _, _⟩ := DataW.trod_int Tryd.underlying3 h0
  obtain ⟨b, e1, _, _⟩ := DataW.trod_int Tryd.underlying3 h1
  obtain ⟨l, hl32, e2⟩ := trod_bytes Tryd.underlying36 Tryd.underlying5 (by kernel_rfl) (by kernel_rfl) h2
  obtain ⟨s, e3, _, _⟩ := DataW.trod_string Tryd.underlying9 h3
  have c0 : Tryd.prog.cellsOf 9 = 1 := by kernel_rfl
  have c1 : Tryd.prog.cellsOf 3 = 1 := by kernel_rfl
  have c2 : Tryd.prog.cellsOf 36 = 32 := by kernel_rfl
  obtain ⟨a, rfl⟩ := B_mk s
  have e0' : (cs.drop 0).take 1 = [.int .i64 k] := by rw [← c1]; exact e0
  have e1' : (cs.drop 1).take 1 = [.int .i64 b] := by rw [← c1]; exact e1
  have e2' : (cs.drop 2).take 32 = l.map u8v := by rw [← c2]; exact e2
  have e3' : (cs.drop 34).take 1 = [.string (B a)] := by rw [← c0]; exact e3
  refine ⟨⟨k, b, l, a⟩, ?_, hl32⟩
  have := chain15 e0' (m := 1) rfl
  rw [List.drop_zero, chain15 e1' (m := 2) rfl, chain15 e2' (m := 34) rfl, chain15 e3' (m := 35) rfl, List.drop_of_length_le (by omega)] at this
  rw [this]
  simp [pitC, u8s]
theorem open_pits {v : Value} {d : DataW H} {p : List MemPlace} (h : DataW.Trod enc Tryd.prog w base sp held 22 v d p) (hc : v.cells.toList = [v]) : ∃ l : List PItL, Pits w v l ∧ PitsOk l := by
  obtain ⟨fuel, hf⟩ := h
  rw [hc] at hf
  exact open_elems pitC 35 (by omega) (fun x => x.base.length = 32) Tryd.underlying22 (by kernel_rfl) (fun y hy => pitC_len hy) elem_pit hf
end
end Go.Proofs.YtoekdiklbfdpiaaDoor
/- What the row's list of variables gives: the table of constants; and a world that meets it. No condition. -/
namespace Go.Proofs.YtoekdiklbfdpiaaDoor
open Go.ChangeShapes Go.WideShapes Go.ChangeAt Go.RowKit

theorem gTab : Tryd.prog.globalNamed "knapsack/sha256.constants" = some 0 := by kernel_rfl
theorem gTabType : (Tryd.prog.globals[0]?).map (·.type) = some 66 := by kernel_rfl
theorem cellsTab : Tryd.prog.cellsOf 66 = 64 := by kernel_rfl
theorem cellsU32 : Tryd.prog.cellsOf 47 = 1 := by kernel_rfl
theorem laid_is : (Rows.laid_knapsack_sha256_constants : DataW Unit) = Lib.tabData .u32 (K256.map fun n => ((n : Nat) : Int)) := by kernel_rfl
theorem tabK_of {W : World} (h : laidMetH Tryd.prog [("knapsack/sha256.constants", Rows.laid_knapsack_sha256_constants)] W) : TabK W := by
  rw [laid_is] at h
  have ht := Lib.tabIs_of_head (rest := []) gTab gTabType Tryd.underlying66 Tryd.underlying47 cellsU32 cellsTab h
  have hc (t : Nat) (h64 : t < 64) : W.cell? ⟨0, t, none⟩ = some (.int .u32 (K256.getD t 0 : Nat)) := by
    rw [ht.cell gTab t (by rw [List.length_map, K256_length]; exact h64)]
    have : t < K256.length := by rw [K256_length]; exact h64
    simp [List.getD, List.getElem?_map, List.getElem?_eq_getElem this]
  exact ⟨World.block_lt_of_cell? W _ (hc 0 (by omega)), hc⟩
/-- A world for the witness: the settled one, the table as its initialiser lays it. -/
noncomputable def laidWorld (os : Os) : World :=
  { World.holding Tryd.prog os ⟨#[], #[], []⟩ with heap := (World.holding Tryd.prog os ⟨#[], #[], []⟩).heap.modify 0 fun
      | .cells _ t frozen => .cells (u32s K256) t frozen
      | o => o }
end Go.Proofs.YtoekdiklbfdpiaaDoor
