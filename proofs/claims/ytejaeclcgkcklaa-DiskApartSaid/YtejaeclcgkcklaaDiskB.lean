/- The walk of layer 21's law: act. No condition. -/
import Derived.Test.YtejaeclcgkcklaaDiskA
namespace Go.Proofs.Ytejaeclcgkcklaa
open Go.RowKit
/-- Both disks amid a region that calls both: i, j are the calls. -/
structure PairC (w0 : World) (base p q b : Nat) (vl vm : Value) (s : DiskL) (x : ActL) (F : DiskL) (n i j : Nat) (listed : Array Bool) (w : World) : Prop where
  act : Blk w b 33 (actC x).toArray
  pair : Pair w0 w base p q vl vm (if listed.getD i false then F else s) (if listed.getD j false then F else s)
section
variable {w0 w w' : World} {base p q b : Nat} {vl vm : Value} {s F : DiskL} {x : ActL} {n i j : Nat} {listed : Array Bool}
theorem PairC.drew (h : PairC w0 base p q b vl vm s x F n i j listed w) : PairC w0 base p q b vl vm s x F n i j listed w.drew := ⟨h.act, h.pair.drew⟩
theorem PairC.c1 (h : PairC w0 base p q b vl vm s x F n i j listed w) : w.cell? ⟨b, 1, none⟩ = some (.string (B x.name)) := by rw [h.act.cell]; rfl
theorem PairC.c2 (h : PairC w0 base p q b vl vm s x F n i j listed w) : w.cell? ⟨b, 2, none⟩ = some (.string (B x.data)) := by rw [h.act.cell]; rfl
theorem PairC.atB (h : PairC w0 base p q b vl vm s x F n i j listed w) (hB : base ≤ w0.heap.size) : base ≤ w.heap.size := Nat.le_trans hB h.pair.far.size
theorem PairC.same (h : PairC w0 base p q b vl vm s x F n i j listed w) {k : Nat} (hsz : listed.size = n) (hk : k < n) (hi : k ≠ i) (hj : k ≠ j) : PairC w0 base p q b vl vm s x F n i j (listed.setIfInBounds k true) w :=
  ⟨h.act, by
    have e1 : (listed.setIfInBounds k true).getD i false = listed.getD i false := by rw [getD_set (by omega), if_neg (fun e => hi e.symm)]
    have e2 : (listed.setIfInBounds k true).getD j false = listed.getD j false := by rw [getD_set (by omega), if_neg (fun e => hj e.symm)]
    rw [e1, e2]
    exact h.pair⟩
theorem PairC.ours1 (h : PairC w0 base p q b vl vm s x F n i j listed w) (hl : listed.getD i false = false) : ∃ vl', DiskAt w base p vl' s ∧ Newer w0 vl vl' := by
  have := h.pair.ours
  rwa [hl] at this
theorem PairC.theirs1 (h : PairC w0 base p q b vl vm s x F n i j listed w) (hl : listed.getD j false = false) : ∃ vm', RDiskAt w base q vm' s ∧ Newer w0 vm vm' := by
  have := h.pair.theirs
  rwa [hl] at this
theorem PairC.our (h : PairC w0 base p q b vl vm s x F n i j listed w) (hsz : listed.size = n) (hl : listed.getD i false = false) (hij : i ≠ j) (hin : i < n) {vl' vl'' : Value} (hD : DiskAt w base p vl' s) (hn : Newer w0 vl vl') (hD' : DiskAt w' base p vl'' F) (hF : Far [some p, vl'.ownBlock] w w') (hN : Newer w vl' vl'') :
    PairC w0 base p q b vl vm s x F n i j (listed.setIfInBounds i true) w' := by
  have hp := h.pair
  rw [hl] at hp
  refine ⟨hF.blk h.act ?_, ?_⟩
  · intro hk
    rcases List.mem_cons.1 hk with e | hk
    · injection e with e
      exact (h.act.ne_ hD.blk (by decide)) e
    · rw [List.mem_singleton] at hk
      exact own_blk_ne hD.own h.act (by decide) hk
  · have e1 : (listed.setIfInBounds i true).getD i false = true := by rw [getD_set (by omega), if_pos rfl]
    have e2 : (listed.setIfInBounds i true).getD j false = listed.getD j false := by rw [getD_set (by omega), if_neg (fun e => hij e.symm)]
    rw [e1, e2]
    exact hp.our hD hn hD' hF hN
theorem PairC.their (h : PairC w0 base p q b vl vm s x F n i j listed w) (hsz : listed.size = n) (hl : listed.getD j false = false) (hij : i ≠ j) (hin : j < n) {vl' vl'' : Value} (hD : RDiskAt w base q vl' s) (hn : Newer w0 vm vl') (hD' : RDiskAt w' base q vl'' F) (hF : Far [some q] w w') (hN : Newer w vl' vl'') :
    PairC w0 base p q b vl vm s x F n i j (listed.setIfInBounds j true) w' := by
  have hp := h.pair
  rw [hl] at hp
  refine ⟨hF.blk h.act ?_, ?_⟩
  · intro hk
    rw [List.mem_singleton] at hk
    injection hk with e
    exact (h.act.ne_ hD.blk (by decide)) e
  · have e1 : (listed.setIfInBounds j true).getD j false = true := by rw [getD_set (by omega), if_pos rfl]
    have e2 : (listed.setIfInBounds j true).getD i false = listed.getD i false := by rw [getD_set (by omega), if_neg hij]
    rw [e1, e2]
    exact hp.their hD hn hD' hF hN
theorem PairC.done (h : PairC w0 base p q b vl vm s x F n i j listed w) (hi : listed.getD i false = true) (hj : listed.getD j false = true) : Pair w0 w base p q vl vm F F := by
  have := h.pair
  rwa [hi, hj] at this
theorem PairC.start (h : Blk w b 33 (actC x).toArray) (hp : Pair w0 w base p q vl vm s s) : PairC w0 base p q b vl vm s x F n i j (Array.replicate n false) w := by
  have hr : ∀ k, (Array.replicate n false).getD k false = false := fun k => by
    rw [Array.getD_eq_getD_getElem?, Array.getElem?_replicate]
    split <;> rfl
  exact ⟨h, by rw [hr, hr]; exact hp⟩
end
structure ActG (w0 : World) (base q b : Nat) (vm : Value) (s : DiskL) (x : ActL) (w : World) : Prop where
  rd : RDiskAt w base q vm s
  act : Blk w b 33 (actC x).toArray
  bel : Below w0.heap.size w0 w
section
variable {w0 w : World} {base q b : Nat} {vm : Value} {s : DiskL} {x : ActL}
theorem ActG.drew (h : ActG w0 base q b vm s x w) : ActG w0 base q b vm s x w.drew := ⟨h.rd.drew, h.act, h.bel.drew⟩
theorem ActG.c1 (h : ActG w0 base q b vm s x w) : w.cell? ⟨b, 1, none⟩ = some (.string (B x.name)) := by rw [h.act.cell]; rfl
theorem ActG.keep {f : FuncId} {args : Array Value} {v : Value} (hS : ActG w0 base q b vm s x w) (h : Calls Try.prog f args w fun e w' => e = .returned v ∧ Below w.heap.size w w') :
    Calls Try.prog f args w fun e w' => e = .returned v ∧ ActG w0 base q b vm s x w' := h.mono fun _ _ ⟨he, hb⟩ => ⟨he, hS.rd.below hb, hS.act.below hb hS.act.lt, bthen hS.bel hS.bel.size hb⟩
end
set_option maxRecDepth 100000 in
set_option maxHeartbeats 4000000 in
theorem act_calls {w : World} {base p q : Nat} {vl vm : Value} {s : DiskL} (hB : base ≤ w.heap.size) (h1 : DiskAt w base p vl s) (h2 : RDiskAt w base q vm s) (x : ActL) (hok : ActOk x) (hd : x.data.length ≤ 1000000) (hf : s.l.length < 500000) :
    Calls Try.prog 8 #[.pointer (some ⟨p, 0, none⟩), .pointer (some ⟨q, 0, none⟩), .agg (actC x).toArray] w fun e w' => e = .returned (.bool true) ∧ Pair w w' base p q vl vm (actS s x) (actS s x) := by
  have hb0 : Below w.heap.size w (w.alloc (.cells (actC x).toArray 33)) := (Below.refl _ _).alloc (Nat.le_refl _) _
  have hnb : Blk (w.alloc (.cells (actC x).toArray 33)) w.heap.size 33 (actC x).toArray := Blk.new _ _ _
  have k0 : (w.alloc (.cells (actC x).toArray 33)).cell? ⟨w.heap.size, 0, none⟩ = some (.int .u8 x.what) := by rw [hnb.cell]; rfl
  have hP0 := Lib.hid ((Pair.start h1 h2).more hb0)
  have hlt : x.what % 6 < 6 := Nat.mod_lt _ (by omega)
  have hw := hok.what
  go_enter Try.func8, Try.ntmps8
  rcases (by omega : x.what % 6 = 0 ∨ x.what % 6 = 1 ∨ x.what % 6 = 2 ∨ x.what % 6 = 3 ∨ x.what % 6 = 4 ∨ x.what % 6 = 5) with hm | hm | hm | hm | hm | hm
  · have hS : actS s x = writeS s x.name x.data false := by unfold actS; rw [if_pos (by omega)]
    have hmi : ((x.what : Nat) : Int) % 6 = 0 := by omega
    rw [hS]
    clear hS hlt hm
    go_wp2
    obtain ⟨b, hb⟩ : ∃ b, w.heap.size = b := ⟨_, rfl⟩
    have hC0 := fun n i j => PairC.start (F := writeS s x.name x.data false) (n := n) (i := i) (j := j) hnb hP0.out
    rw [hb] at hC0 ⊢
    clear hP0 hnb k0 hb0 h1 h2
    obtain ⟨V, hV⟩ : ∃ V : Nat → Value, V = fun i => [(.pointer (some ⟨p, 0, none⟩)), (.pointer (some ⟨b, 1, none⟩)), (.string (B x.name)), (.pointer (some ⟨b, 2, none⟩)), (.string (B x.data)), (.int .i64 (writeC s)), (.pointer (some ⟨q, 0, none⟩)), (.pointer (some ⟨b, 1, none⟩)), (.string (B x.name)), (.pointer (some ⟨b, 2, none⟩)), (.string (B x.data)), (.int .i64 (writeC s)), (.bool true), (.bool true)].getD i undef := ⟨_, rfl⟩
    have v0 : V 0 = (.pointer (some ⟨p, 0, none⟩)) := by rw [hV]; rfl
    have v1 : V 1 = (.pointer (some ⟨b, 1, none⟩)) := by rw [hV]; rfl
    have v2 : V 2 = (.string (B x.name)) := by rw [hV]; rfl
    have v3 : V 3 = (.pointer (some ⟨b, 2, none⟩)) := by rw [hV]; rfl
    have v4 : V 4 = (.string (B x.data)) := by rw [hV]; rfl
    have v5 : V 5 = (.int .i64 (writeC s)) := by rw [hV]; rfl
    have v6 : V 6 = (.pointer (some ⟨q, 0, none⟩)) := by rw [hV]; rfl
    have v7 : V 7 = (.pointer (some ⟨b, 1, none⟩)) := by rw [hV]; rfl
    have v8 : V 8 = (.string (B x.name)) := by rw [hV]; rfl
    have v9 : V 9 = (.pointer (some ⟨b, 2, none⟩)) := by rw [hV]; rfl
    have v10 : V 10 = (.string (B x.data)) := by rw [hV]; rfl
    have v11 : V 11 = (.int .i64 (writeC s)) := by rw [hV]; rfl
    have v12 : V 12 = (.bool true) := by rw [hV]; rfl
    have v13 : V 13 = (.bool true) := by rw [hV]; rfl
    clear hV
    refine wp_region_listed (C := PairC w base p q b vl vm s x (writeS s x.name x.data false) 14 5 11) (R := fun i v _ => v = V i) (by kernel_rfl) (by kernel_rfl) (by kernel_rfl) ?_ (hC0 14 5 11).drew ?_ ?_
    · exact sizes_spec (n := 110) (by kernel_rfl)
    · intro i o listed a w1 ho hi hL
      have hin := (ready_spec hi).1
      have hsz : listed.size = 14 := hL.size
      match i, ho with
      | 0, ho =>
        obtain rfl := (Option.some.inj ho).symm
        have e0 : a.tmps[0]?.getD undef = (.pointer (some ⟨p, 0, none⟩)) := (slot_eval a 0).trans (hL.get_old hi (by kernel_rfl))
        have hc := hL.cls
        refine step_wp rfl rfl ?_
        clear ho hL
        refine wp_val (v := (.pointer (some ⟨p, 0, none⟩))) ?_ ⟨_, rfl, (id) v0.symm, hc.same hsz hin (by omega) (by omega), fun _ _ _ h => h⟩
        clear hi hin hsz v0 v1 v2 v3 v4 v5 v6 v7 v8 v9 v10 v11 v12 v13  hc
        unfold execOp
        go_simp
      | 1, ho =>
        obtain rfl := (Option.some.inj ho).symm
        have e0 : a.tmps[5]?.getD undef = (.pointer (some ⟨b, 0, none⟩)) := (slot_eval a 5).trans (hL.get_old hi (by kernel_rfl))
        have hc := hL.cls
        refine step_wp rfl rfl ?_
        clear ho hL
        refine wp_val (v := (.pointer (some ⟨b, 1, none⟩))) ?_ ⟨_, rfl, (id) v1.symm, hc.same hsz hin (by omega) (by omega), fun _ _ _ h => h⟩
        have q1 := hc.c1
        have q2 := hc.c2
        clear hi hin hsz v0 v1 v2 v3 v4 v5 v6 v7 v8 v9 v10 v11 v12 v13  hc
        unfold execOp
        go_simp
      | 2, ho =>
        obtain rfl := (Option.some.inj ho).symm
        have e0 : a.tmps[18]?.getD undef = (.pointer (some ⟨b, 1, none⟩)) := (slot_eval a 18).trans (((id) (hL.get_new (j := 1) hi (by kernel_rfl))).trans v1)
        have hc := hL.cls
        refine step_wp rfl rfl ?_
        clear ho hL
        refine wp_val (v := (.string (B x.name))) ?_ ⟨_, rfl, (id) v2.symm, hc.same hsz hin (by omega) (by omega), fun _ _ _ h => h⟩
        have q1 := hc.c1
        have q2 := hc.c2
        clear hi hin hsz v0 v1 v2 v3 v4 v5 v6 v7 v8 v9 v10 v11 v12 v13  hc
        unfold execOp
        go_simp
      | 3, ho =>
        obtain rfl := (Option.some.inj ho).symm
        have e0 : a.tmps[5]?.getD undef = (.pointer (some ⟨b, 0, none⟩)) := (slot_eval a 5).trans (hL.get_old hi (by kernel_rfl))
        have hc := hL.cls
        refine step_wp rfl rfl ?_
        clear ho hL
        refine wp_val (v := (.pointer (some ⟨b, 2, none⟩))) ?_ ⟨_, rfl, (id) v3.symm, hc.same hsz hin (by omega) (by omega), fun _ _ _ h => h⟩
        have q1 := hc.c1
        have q2 := hc.c2
        clear hi hin hsz v0 v1 v2 v3 v4 v5 v6 v7 v8 v9 v10 v11 v12 v13  hc
        unfold execOp
        go_simp
      | 4, ho =>
        obtain rfl := (Option.some.inj ho).symm
        have e0 : a.tmps[20]?.getD undef = (.pointer (some ⟨b, 2, none⟩)) := (slot_eval a 20).trans (((id) (hL.get_new (j := 3) hi (by kernel_rfl))).trans v3)
        have hc := hL.cls
        refine step_wp rfl rfl ?_
        clear ho hL
        refine wp_val (v := (.string (B x.data))) ?_ ⟨_, rfl, (id) v4.symm, hc.same hsz hin (by omega) (by omega), fun _ _ _ h => h⟩
        have q1 := hc.c1
        have q2 := hc.c2
        clear hi hin hsz v0 v1 v2 v3 v4 v5 v6 v7 v8 v9 v10 v11 v12 v13  hc
        unfold execOp
        go_simp
      | 5, ho =>
        obtain rfl := (Option.some.inj ho).symm
        have e0 : a.tmps[17]?.getD undef = (.pointer (some ⟨p, 0, none⟩)) := (slot_eval a 17).trans (((id) (hL.get_new (j := 0) hi (by kernel_rfl))).trans v0)
        have e1 : a.tmps[19]?.getD undef = (.string (B x.name)) := (slot_eval a 19).trans (((id) (hL.get_new (j := 2) hi (by kernel_rfl))).trans v2)
        have e2 : a.tmps[21]?.getD undef = (.string (B x.data)) := (slot_eval a 21).trans (((id) (hL.get_new (j := 4) hi (by kernel_rfl))).trans v4)
        have hc := hL.cls
        have hl : listed.getD 5 false = false := by rw [getD_of_size (by rw [hsz]; exact hin)]; exact (ready_spec hi).2.1
        clear ho hL
        refine step_wp rfl rfl ?_
        obtain ⟨vl1, hD1, hN1⟩ := hc.ours1 hl
        have hct := diskPut_calls (hc.atB hB) hD1 x.name x.data hok.name hd hf
        clear hi
        unfold Oper.wp execOp
        go_simp
        go_at_call 14
        refine hct.mono ?_
        rintro e w2 ⟨rfl, vl2, hD2, hF2, hN2⟩
        have hcl := hc.our hsz hl (by omega) hin hD1 hN1 hD2 hF2 hN2
        first
          | exact ⟨_, rfl, v5.symm, hcl, fun _ _ _ h => h⟩
          | exact ⟨_, rfl, rfl, hcl⟩
      | 6, ho =>
        obtain rfl := (Option.some.inj ho).symm
        have e0 : a.tmps[1]?.getD undef = (.pointer (some ⟨q, 0, none⟩)) := (slot_eval a 1).trans (hL.get_old hi (by kernel_rfl))
        have hc := hL.cls
        refine step_wp rfl rfl ?_
        clear ho hL
        refine wp_val (v := (.pointer (some ⟨q, 0, none⟩))) ?_ ⟨_, rfl, (id) v6.symm, hc.same hsz hin (by omega) (by omega), fun _ _ _ h => h⟩
        clear hi hin hsz v0 v1 v2 v3 v4 v5 v6 v7 v8 v9 v10 v11 v12 v13  hc
        unfold execOp
        go_simp
      | 7, ho =>
        obtain rfl := (Option.some.inj ho).symm
        have e0 : a.tmps[5]?.getD undef = (.pointer (some ⟨b, 0, none⟩)) := (slot_eval a 5).trans (hL.get_old hi (by kernel_rfl))
        have hc := hL.cls
        refine step_wp rfl rfl ?_
        clear ho hL
        refine wp_val (v := (.pointer (some ⟨b, 1, none⟩))) ?_ ⟨_, rfl, (id) v7.symm, hc.same hsz hin (by omega) (by omega), fun _ _ _ h => h⟩
        have q1 := hc.c1
        have q2 := hc.c2
        clear hi hin hsz v0 v1 v2 v3 v4 v5 v6 v7 v8 v9 v10 v11 v12 v13  hc
        unfold execOp
        go_simp
      | 8, ho =>
        obtain rfl := (Option.some.inj ho).symm
        have e0 : a.tmps[24]?.getD undef = (.pointer (some ⟨b, 1, none⟩)) := (slot_eval a 24).trans (((id) (hL.get_new (j := 7) hi (by kernel_rfl))).trans v7)
        have hc := hL.cls
        refine step_wp rfl rfl ?_
        clear ho hL
        refine wp_val (v := (.string (B x.name))) ?_ ⟨_, rfl, (id) v8.symm, hc.same hsz hin (by omega) (by omega), fun _ _ _ h => h⟩
        have q1 := hc.c1
        have q2 := hc.c2
        clear hi hin hsz v0 v1 v2 v3 v4 v5 v6 v7 v8 v9 v10 v11 v12 v13  hc
        unfold execOp
        go_simp
      | 9, ho =>
        obtain rfl := (Option.some.inj ho).symm
        have e0 : a.tmps[5]?.getD undef = (.pointer (some ⟨b, 0, none⟩)) := (slot_eval a 5).trans (hL.get_old hi (by kernel_rfl))
        have hc := hL.cls
        refine step_wp rfl rfl ?_
        clear ho hL
        refine wp_val (v := (.pointer (some ⟨b, 2, none⟩))) ?_ ⟨_, rfl, (id) v9.symm, hc.same hsz hin (by omega) (by omega), fun _ _ _ h => h⟩
        have q1 := hc.c1
        have q2 := hc.c2
        clear hi hin hsz v0 v1 v2 v3 v4 v5 v6 v7 v8 v9 v10 v11 v12 v13  hc
        unfold execOp
        go_simp
      | 10, ho =>
        obtain rfl := (Option.some.inj ho).symm
        have e0 : a.tmps[26]?.getD undef = (.pointer (some ⟨b, 2, none⟩)) := (slot_eval a 26).trans (((id) (hL.get_new (j := 9) hi (by kernel_rfl))).trans v9)
        have hc := hL.cls
        refine step_wp rfl rfl ?_
        clear ho hL
        refine wp_val (v := (.string (B x.data))) ?_ ⟨_, rfl, (id) v10.symm, hc.same hsz hin (by omega) (by omega), fun _ _ _ h => h⟩
        have q1 := hc.c1
        have q2 := hc.c2
        clear hi hin hsz v0 v1 v2 v3 v4 v5 v6 v7 v8 v9 v10 v11 v12 v13  hc
        unfold execOp
        go_simp
      | 11, ho =>
        obtain rfl := (Option.some.inj ho).symm
        have e0 : a.tmps[23]?.getD undef = (.pointer (some ⟨q, 0, none⟩)) := (slot_eval a 23).trans (((id) (hL.get_new (j := 6) hi (by kernel_rfl))).trans v6)
        have e1 : a.tmps[25]?.getD undef = (.string (B x.name)) := (slot_eval a 25).trans (((id) (hL.get_new (j := 8) hi (by kernel_rfl))).trans v8)
        have e2 : a.tmps[27]?.getD undef = (.string (B x.data)) := (slot_eval a 27).trans (((id) (hL.get_new (j := 10) hi (by kernel_rfl))).trans v10)
        have hc := hL.cls
        have hl : listed.getD 11 false = false := by rw [getD_of_size (by rw [hsz]; exact hin)]; exact (ready_spec hi).2.1
        clear ho hL
        refine step_wp rfl rfl ?_
        obtain ⟨vl1, hD1, hN1⟩ := hc.theirs1 hl
        have hct := refWrite_calls (hc.atB hB) hD1 x.name x.data false hok.name hd hf
        clear hi
        unfold Oper.wp execOp
        go_simp
        go_at_call 19
        refine hct.mono ?_
        rintro e w2 ⟨rfl, vl2, hD2, hF2, hN2⟩
        have hcl := hc.their hsz hl (by omega) hin hD1 hN1 hD2 hF2 hN2
        first
          | exact ⟨_, rfl, v11.symm, hcl, fun _ _ _ h => h⟩
          | exact ⟨_, rfl, rfl, hcl⟩
      | 12, ho =>
        obtain rfl := (Option.some.inj ho).symm
        have e0 : a.tmps[22]?.getD undef = (.int .i64 (writeC s)) := (slot_eval a 22).trans (((id) (hL.get_new (j := 5) hi (by kernel_rfl))).trans v5)
        have e1 : a.tmps[28]?.getD undef = (.int .i64 (writeC s)) := (slot_eval a 28).trans (((id) (hL.get_new (j := 11) hi (by kernel_rfl))).trans v11)
        have hc := hL.cls
        refine step_wp rfl rfl ?_
        clear ho hL
        refine wp_val (v := (.bool true)) ?_ ⟨_, rfl, (id) v12.symm, hc.same hsz hin (by omega) (by omega), fun _ _ _ h => h⟩
        have q1 := hc.c1
        have q2 := hc.c2
        clear hi hin hsz v0 v1 v2 v3 v4 v5 v6 v7 v8 v9 v10 v11 v12 v13  hc
        unfold execOp
        go_simp
      | 13, ho =>
        obtain rfl := (Option.some.inj ho).symm
        have e0 : a.tmps[29]?.getD undef = (.bool true) := (slot_eval a 29).trans (((id) (hL.get_new (j := 12) hi (by kernel_rfl))).trans v12)
        have hc := hL.cls
        refine step_wp rfl rfl ?_
        clear ho hL
        refine wp_val (v := (.bool true)) ?_ ⟨_, rfl, (id) v13.symm, hc.same hsz hin (by omega) (by omega), fun _ _ _ h => h⟩
        clear hi hin hsz v0 v1 v2 v3 v4 v5 v6 v7 v8 v9 v10 v11 v12 v13  hc
        unfold execOp
        go_simp
      | (n + 14), ho => exact absurd hin (by simp)
    · intro a w1 listed hL hall
      have hc := hL.cls
      obtain ⟨vs, rfl, hR⟩ := hL.frame (by kernel_rfl) (sizes_spec (n := 110) (by kernel_rfl)) hall
      simp only [putAll, Act.put, List.setIfInBounds_toArray, List.set_cons_zero, List.set_cons_succ]
      simp only [Nat.zero_add, Nat.reduceAdd]
      have hP := hc.done (hall _ (by decide)) (hall _ (by decide))
      have hv := hR 13 _ 6 rfl rfl
      rw [v13] at hv
      clear hR hc hL
      simp only [hv]
      go_wp2
      go_ret
      exact ⟨rfl, hP⟩
  · have hS : actS s x = writeS s x.name x.data false := by unfold actS; rw [if_pos (by omega)]
    have hmi : ((x.what : Nat) : Int) % 6 = 1 := by omega
    rw [hS]
    clear hS hlt hm
    go_wp2
    obtain ⟨b, hb⟩ : ∃ b, w.heap.size = b := ⟨_, rfl⟩
    have hC0 := fun n i j => PairC.start (F := writeS s x.name x.data false) (n := n) (i := i) (j := j) hnb hP0.out
    rw [hb] at hC0 ⊢
    clear hP0 hnb k0 hb0 h1 h2
    obtain ⟨V, hV⟩ : ∃ V : Nat → Value, V = fun i => [(.pointer (some ⟨p, 0, none⟩)), (.pointer (some ⟨b, 1, none⟩)), (.string (B x.name)), (.pointer (some ⟨b, 2, none⟩)), (.string (B x.data)), (.int .i64 (writeC s)), (.pointer (some ⟨q, 0, none⟩)), (.pointer (some ⟨b, 1, none⟩)), (.string (B x.name)), (.pointer (some ⟨b, 2, none⟩)), (.string (B x.data)), (.int .i64 (writeC s)), (.bool true), (.bool true)].getD i undef := ⟨_, rfl⟩
    have v0 : V 0 = (.pointer (some ⟨p, 0, none⟩)) := by rw [hV]; rfl
    have v1 : V 1 = (.pointer (some ⟨b, 1, none⟩)) := by rw [hV]; rfl
    have v2 : V 2 = (.string (B x.name)) := by rw [hV]; rfl
    have v3 : V 3 = (.pointer (some ⟨b, 2, none⟩)) := by rw [hV]; rfl
    have v4 : V 4 = (.string (B x.data)) := by rw [hV]; rfl
    have v5 : V 5 = (.int .i64 (writeC s)) := by rw [hV]; rfl
    have v6 : V 6 = (.pointer (some ⟨q, 0, none⟩)) := by rw [hV]; rfl
    have v7 : V 7 = (.pointer (some ⟨b, 1, none⟩)) := by rw [hV]; rfl
    have v8 : V 8 = (.string (B x.name)) := by rw [hV]; rfl
    have v9 : V 9 = (.pointer (some ⟨b, 2, none⟩)) := by rw [hV]; rfl
    have v10 : V 10 = (.string (B x.data)) := by rw [hV]; rfl
    have v11 : V 11 = (.int .i64 (writeC s)) := by rw [hV]; rfl
    have v12 : V 12 = (.bool true) := by rw [hV]; rfl
    have v13 : V 13 = (.bool true) := by rw [hV]; rfl
    clear hV
    refine wp_region_listed (C := PairC w base p q b vl vm s x (writeS s x.name x.data false) 14 5 11) (R := fun i v _ => v = V i) (by kernel_rfl) (by kernel_rfl) (by kernel_rfl) ?_ (hC0 14 5 11).drew ?_ ?_
    · exact sizes_spec (n := 110) (by kernel_rfl)
    · intro i o listed a w1 ho hi hL
      have hin := (ready_spec hi).1
      have hsz : listed.size = 14 := hL.size
      match i, ho with
      | 0, ho =>
        obtain rfl := (Option.some.inj ho).symm
        have e0 : a.tmps[0]?.getD undef = (.pointer (some ⟨p, 0, none⟩)) := (slot_eval a 0).trans (hL.get_old hi (by kernel_rfl))
        have hc := hL.cls
        refine step_wp rfl rfl ?_
        clear ho hL
        refine wp_val (v := (.pointer (some ⟨p, 0, none⟩))) ?_ ⟨_, rfl, (id) v0.symm, hc.same hsz hin (by omega) (by omega), fun _ _ _ h => h⟩
        clear hi hin hsz v0 v1 v2 v3 v4 v5 v6 v7 v8 v9 v10 v11 v12 v13  hc
        unfold execOp
        go_simp
      | 1, ho =>
        obtain rfl := (Option.some.inj ho).symm
        have e0 : a.tmps[5]?.getD undef = (.pointer (some ⟨b, 0, none⟩)) := (slot_eval a 5).trans (hL.get_old hi (by kernel_rfl))
        have hc := hL.cls
        refine step_wp rfl rfl ?_
        clear ho hL
        refine wp_val (v := (.pointer (some ⟨b, 1, none⟩))) ?_ ⟨_, rfl, (id) v1.symm, hc.same hsz hin (by omega) (by omega), fun _ _ _ h => h⟩
        have q1 := hc.c1
        have q2 := hc.c2
        clear hi hin hsz v0 v1 v2 v3 v4 v5 v6 v7 v8 v9 v10 v11 v12 v13  hc
        unfold execOp
        go_simp
      | 2, ho =>
        obtain rfl := (Option.some.inj ho).symm
        have e0 : a.tmps[18]?.getD undef = (.pointer (some ⟨b, 1, none⟩)) := (slot_eval a 18).trans (((id) (hL.get_new (j := 1) hi (by kernel_rfl))).trans v1)
        have hc := hL.cls
        refine step_wp rfl rfl ?_
        clear ho hL
        refine wp_val (v := (.string (B x.name))) ?_ ⟨_, rfl, (id) v2.symm, hc.same hsz hin (by omega) (by omega), fun _ _ _ h => h⟩
        have q1 := hc.c1
        have q2 := hc.c2
        clear hi hin hsz v0 v1 v2 v3 v4 v5 v6 v7 v8 v9 v10 v11 v12 v13  hc
        unfold execOp
        go_simp
      | 3, ho =>
        obtain rfl := (Option.some.inj ho).symm
        have e0 : a.tmps[5]?.getD undef = (.pointer (some ⟨b, 0, none⟩)) := (slot_eval a 5).trans (hL.get_old hi (by kernel_rfl))
        have hc := hL.cls
        refine step_wp rfl rfl ?_
        clear ho hL
        refine wp_val (v := (.pointer (some ⟨b, 2, none⟩))) ?_ ⟨_, rfl, (id) v3.symm, hc.same hsz hin (by omega) (by omega), fun _ _ _ h => h⟩
        have q1 := hc.c1
        have q2 := hc.c2
        clear hi hin hsz v0 v1 v2 v3 v4 v5 v6 v7 v8 v9 v10 v11 v12 v13  hc
        unfold execOp
        go_simp
      | 4, ho =>
        obtain rfl := (Option.some.inj ho).symm
        have e0 : a.tmps[20]?.getD undef = (.pointer (some ⟨b, 2, none⟩)) := (slot_eval a 20).trans (((id) (hL.get_new (j := 3) hi (by kernel_rfl))).trans v3)
        have hc := hL.cls
        refine step_wp rfl rfl ?_
        clear ho hL
        refine wp_val (v := (.string (B x.data))) ?_ ⟨_, rfl, (id) v4.symm, hc.same hsz hin (by omega) (by omega), fun _ _ _ h => h⟩
        have q1 := hc.c1
        have q2 := hc.c2
        clear hi hin hsz v0 v1 v2 v3 v4 v5 v6 v7 v8 v9 v10 v11 v12 v13  hc
        unfold execOp
        go_simp
      | 5, ho =>
        obtain rfl := (Option.some.inj ho).symm
        have e0 : a.tmps[17]?.getD undef = (.pointer (some ⟨p, 0, none⟩)) := (slot_eval a 17).trans (((id) (hL.get_new (j := 0) hi (by kernel_rfl))).trans v0)
        have e1 : a.tmps[19]?.getD undef = (.string (B x.name)) := (slot_eval a 19).trans (((id) (hL.get_new (j := 2) hi (by kernel_rfl))).trans v2)
        have e2 : a.tmps[21]?.getD undef = (.string (B x.data)) := (slot_eval a 21).trans (((id) (hL.get_new (j := 4) hi (by kernel_rfl))).trans v4)
        have hc := hL.cls
        have hl : listed.getD 5 false = false := by rw [getD_of_size (by rw [hsz]; exact hin)]; exact (ready_spec hi).2.1
        clear ho hL
        refine step_wp rfl rfl ?_
        obtain ⟨vl1, hD1, hN1⟩ := hc.ours1 hl
        have hct := diskPut_calls (hc.atB hB) hD1 x.name x.data hok.name hd hf
        clear hi
        unfold Oper.wp execOp
        go_simp
        go_at_call 14
        refine hct.mono ?_
        rintro e w2 ⟨rfl, vl2, hD2, hF2, hN2⟩
        have hcl := hc.our hsz hl (by omega) hin hD1 hN1 hD2 hF2 hN2
        first
          | exact ⟨_, rfl, v5.symm, hcl, fun _ _ _ h => h⟩
          | exact ⟨_, rfl, rfl, hcl⟩
      | 6, ho =>
        obtain rfl := (Option.some.inj ho).symm
        have e0 : a.tmps[1]?.getD undef = (.pointer (some ⟨q, 0, none⟩)) := (slot_eval a 1).trans (hL.get_old hi (by kernel_rfl))
        have hc := hL.cls
        refine step_wp rfl rfl ?_
        clear ho hL
        refine wp_val (v := (.pointer (some ⟨q, 0, none⟩))) ?_ ⟨_, rfl, (id) v6.symm, hc.same hsz hin (by omega) (by omega), fun _ _ _ h => h⟩
        clear hi hin hsz v0 v1 v2 v3 v4 v5 v6 v7 v8 v9 v10 v11 v12 v13  hc
        unfold execOp
        go_simp
      | 7, ho =>
        obtain rfl := (Option.some.inj ho).symm
        have e0 : a.tmps[5]?.getD undef = (.pointer (some ⟨b, 0, none⟩)) := (slot_eval a 5).trans (hL.get_old hi (by kernel_rfl))
        have hc := hL.cls
        refine step_wp rfl rfl ?_
        clear ho hL
        refine wp_val (v := (.pointer (some ⟨b, 1, none⟩))) ?_ ⟨_, rfl, (id) v7.symm, hc.same hsz hin (by omega) (by omega), fun _ _ _ h => h⟩
        have q1 := hc.c1
        have q2 := hc.c2
        clear hi hin hsz v0 v1 v2 v3 v4 v5 v6 v7 v8 v9 v10 v11 v12 v13  hc
        unfold execOp
        go_simp
      | 8, ho =>
        obtain rfl := (Option.some.inj ho).symm
        have e0 : a.tmps[24]?.getD undef = (.pointer (some ⟨b, 1, none⟩)) := (slot_eval a 24).trans (((id) (hL.get_new (j := 7) hi (by kernel_rfl))).trans v7)
        have hc := hL.cls
        refine step_wp rfl rfl ?_
        clear ho hL
        refine wp_val (v := (.string (B x.name))) ?_ ⟨_, rfl, (id) v8.symm, hc.same hsz hin (by omega) (by omega), fun _ _ _ h => h⟩
        have q1 := hc.c1
        have q2 := hc.c2
        clear hi hin hsz v0 v1 v2 v3 v4 v5 v6 v7 v8 v9 v10 v11 v12 v13  hc
        unfold execOp
        go_simp
      | 9, ho =>
        obtain rfl := (Option.some.inj ho).symm
        have e0 : a.tmps[5]?.getD undef = (.pointer (some ⟨b, 0, none⟩)) := (slot_eval a 5).trans (hL.get_old hi (by kernel_rfl))
        have hc := hL.cls
        refine step_wp rfl rfl ?_
        clear ho hL
        refine wp_val (v := (.pointer (some ⟨b, 2, none⟩))) ?_ ⟨_, rfl, (id) v9.symm, hc.same hsz hin (by omega) (by omega), fun _ _ _ h => h⟩
        have q1 := hc.c1
        have q2 := hc.c2
        clear hi hin hsz v0 v1 v2 v3 v4 v5 v6 v7 v8 v9 v10 v11 v12 v13  hc
        unfold execOp
        go_simp
      | 10, ho =>
        obtain rfl := (Option.some.inj ho).symm
        have e0 : a.tmps[26]?.getD undef = (.pointer (some ⟨b, 2, none⟩)) := (slot_eval a 26).trans (((id) (hL.get_new (j := 9) hi (by kernel_rfl))).trans v9)
        have hc := hL.cls
        refine step_wp rfl rfl ?_
        clear ho hL
        refine wp_val (v := (.string (B x.data))) ?_ ⟨_, rfl, (id) v10.symm, hc.same hsz hin (by omega) (by omega), fun _ _ _ h => h⟩
        have q1 := hc.c1
        have q2 := hc.c2
        clear hi hin hsz v0 v1 v2 v3 v4 v5 v6 v7 v8 v9 v10 v11 v12 v13  hc
        unfold execOp
        go_simp
      | 11, ho =>
        obtain rfl := (Option.some.inj ho).symm
        have e0 : a.tmps[23]?.getD undef = (.pointer (some ⟨q, 0, none⟩)) := (slot_eval a 23).trans (((id) (hL.get_new (j := 6) hi (by kernel_rfl))).trans v6)
        have e1 : a.tmps[25]?.getD undef = (.string (B x.name)) := (slot_eval a 25).trans (((id) (hL.get_new (j := 8) hi (by kernel_rfl))).trans v8)
        have e2 : a.tmps[27]?.getD undef = (.string (B x.data)) := (slot_eval a 27).trans (((id) (hL.get_new (j := 10) hi (by kernel_rfl))).trans v10)
        have hc := hL.cls
        have hl : listed.getD 11 false = false := by rw [getD_of_size (by rw [hsz]; exact hin)]; exact (ready_spec hi).2.1
        clear ho hL
        refine step_wp rfl rfl ?_
        obtain ⟨vl1, hD1, hN1⟩ := hc.theirs1 hl
        have hct := refWrite_calls (hc.atB hB) hD1 x.name x.data false hok.name hd hf
        clear hi
        unfold Oper.wp execOp
        go_simp
        go_at_call 19
        refine hct.mono ?_
        rintro e w2 ⟨rfl, vl2, hD2, hF2, hN2⟩
        have hcl := hc.their hsz hl (by omega) hin hD1 hN1 hD2 hF2 hN2
        first
          | exact ⟨_, rfl, v11.symm, hcl, fun _ _ _ h => h⟩
          | exact ⟨_, rfl, rfl, hcl⟩
      | 12, ho =>
        obtain rfl := (Option.some.inj ho).symm
        have e0 : a.tmps[22]?.getD undef = (.int .i64 (writeC s)) := (slot_eval a 22).trans (((id) (hL.get_new (j := 5) hi (by kernel_rfl))).trans v5)
        have e1 : a.tmps[28]?.getD undef = (.int .i64 (writeC s)) := (slot_eval a 28).trans (((id) (hL.get_new (j := 11) hi (by kernel_rfl))).trans v11)
        have hc := hL.cls
        refine step_wp rfl rfl ?_
        clear ho hL
        refine wp_val (v := (.bool true)) ?_ ⟨_, rfl, (id) v12.symm, hc.same hsz hin (by omega) (by omega), fun _ _ _ h => h⟩
        have q1 := hc.c1
        have q2 := hc.c2
        clear hi hin hsz v0 v1 v2 v3 v4 v5 v6 v7 v8 v9 v10 v11 v12 v13  hc
        unfold execOp
        go_simp
      | 13, ho =>
        obtain rfl := (Option.some.inj ho).symm
        have e0 : a.tmps[29]?.getD undef = (.bool true) := (slot_eval a 29).trans (((id) (hL.get_new (j := 12) hi (by kernel_rfl))).trans v12)
        have hc := hL.cls
        refine step_wp rfl rfl ?_
        clear ho hL
        refine wp_val (v := (.bool true)) ?_ ⟨_, rfl, (id) v13.symm, hc.same hsz hin (by omega) (by omega), fun _ _ _ h => h⟩
        clear hi hin hsz v0 v1 v2 v3 v4 v5 v6 v7 v8 v9 v10 v11 v12 v13  hc
        unfold execOp
        go_simp
      | (n + 14), ho => exact absurd hin (by simp)
    · intro a w1 listed hL hall
      have hc := hL.cls
      obtain ⟨vs, rfl, hR⟩ := hL.frame (by kernel_rfl) (sizes_spec (n := 110) (by kernel_rfl)) hall
      simp only [putAll, Act.put, List.setIfInBounds_toArray, List.set_cons_zero, List.set_cons_succ]
      simp only [Nat.zero_add, Nat.reduceAdd]
      have hP := hc.done (hall _ (by decide)) (hall _ (by decide))
      have hv := hR 13 _ 6 rfl rfl
      rw [v13] at hv
      clear hR hc hL
      simp only [hv]
      go_wp2
      go_ret
      exact ⟨rfl, hP⟩
  · have hS : actS s x = writeS s x.name [] true := by unfold actS; rw [if_neg (by omega), if_pos (by omega)]
    have hmi : ((x.what : Nat) : Int) % 6 = 2 := by omega
    rw [hS]
    clear hS hlt hm
    go_wp2
    obtain ⟨b, hb⟩ : ∃ b, w.heap.size = b := ⟨_, rfl⟩
    have hC0 := fun n i j => PairC.start (F := writeS s x.name [] true) (n := n) (i := i) (j := j) hnb hP0.out
    rw [hb] at hC0 ⊢
    clear hP0 hnb k0 hb0 h1 h2
    obtain ⟨V, hV⟩ : ∃ V : Nat → Value, V = fun i => [(.pointer (some ⟨p, 0, none⟩)), (.pointer (some ⟨b, 1, none⟩)), (.string (B x.name)), (.int .i64 (writeC s)), (.pointer (some ⟨q, 0, none⟩)), (.pointer (some ⟨b, 1, none⟩)), (.string (B x.name)), (.int .i64 (writeC s)), (.bool true), (.bool true)].getD i undef := ⟨_, rfl⟩
    have v0 : V 0 = (.pointer (some ⟨p, 0, none⟩)) := by rw [hV]; rfl
    have v1 : V 1 = (.pointer (some ⟨b, 1, none⟩)) := by rw [hV]; rfl
    have v2 : V 2 = (.string (B x.name)) := by rw [hV]; rfl
    have v3 : V 3 = (.int .i64 (writeC s)) := by rw [hV]; rfl
    have v4 : V 4 = (.pointer (some ⟨q, 0, none⟩)) := by rw [hV]; rfl
    have v5 : V 5 = (.pointer (some ⟨b, 1, none⟩)) := by rw [hV]; rfl
    have v6 : V 6 = (.string (B x.name)) := by rw [hV]; rfl
    have v7 : V 7 = (.int .i64 (writeC s)) := by rw [hV]; rfl
    have v8 : V 8 = (.bool true) := by rw [hV]; rfl
    have v9 : V 9 = (.bool true) := by rw [hV]; rfl
    clear hV
    refine wp_region_listed (C := PairC w base p q b vl vm s x (writeS s x.name [] true) 10 3 7) (R := fun i v _ => v = V i) (by kernel_rfl) (by kernel_rfl) (by kernel_rfl) ?_ (hC0 10 3 7).drew ?_ ?_
    · exact sizes_spec (n := 110) (by kernel_rfl)
    · intro i o listed a w1 ho hi hL
      have hin := (ready_spec hi).1
      have hsz : listed.size = 10 := hL.size
      match i, ho with
      | 0, ho =>
        obtain rfl := (Option.some.inj ho).symm
        have e0 : a.tmps[0]?.getD undef = (.pointer (some ⟨p, 0, none⟩)) := (slot_eval a 0).trans (hL.get_old hi (by kernel_rfl))
        have hc := hL.cls
        refine step_wp rfl rfl ?_
        clear ho hL
        refine wp_val (v := (.pointer (some ⟨p, 0, none⟩))) ?_ ⟨_, rfl, (id) v0.symm, hc.same hsz hin (by omega) (by omega), fun _ _ _ h => h⟩
        clear hi hin hsz v0 v1 v2 v3 v4 v5 v6 v7 v8 v9  hc
        unfold execOp
        go_simp
      | 1, ho =>
        obtain rfl := (Option.some.inj ho).symm
        have e0 : a.tmps[5]?.getD undef = (.pointer (some ⟨b, 0, none⟩)) := (slot_eval a 5).trans (hL.get_old hi (by kernel_rfl))
        have hc := hL.cls
        refine step_wp rfl rfl ?_
        clear ho hL
        refine wp_val (v := (.pointer (some ⟨b, 1, none⟩))) ?_ ⟨_, rfl, (id) v1.symm, hc.same hsz hin (by omega) (by omega), fun _ _ _ h => h⟩
        have q1 := hc.c1
        have q2 := hc.c2
        clear hi hin hsz v0 v1 v2 v3 v4 v5 v6 v7 v8 v9  hc
        unfold execOp
        go_simp
      | 2, ho =>
        obtain rfl := (Option.some.inj ho).symm
        have e0 : a.tmps[33]?.getD undef = (.pointer (some ⟨b, 1, none⟩)) := (slot_eval a 33).trans (((id) (hL.get_new (j := 1) hi (by kernel_rfl))).trans v1)
        have hc := hL.cls
        refine step_wp rfl rfl ?_
        clear ho hL
        refine wp_val (v := (.string (B x.name))) ?_ ⟨_, rfl, (id) v2.symm, hc.same hsz hin (by omega) (by omega), fun _ _ _ h => h⟩
        have q1 := hc.c1
        have q2 := hc.c2
        clear hi hin hsz v0 v1 v2 v3 v4 v5 v6 v7 v8 v9  hc
        unfold execOp
        go_simp
      | 3, ho =>
        obtain rfl := (Option.some.inj ho).symm
        have e0 : a.tmps[32]?.getD undef = (.pointer (some ⟨p, 0, none⟩)) := (slot_eval a 32).trans (((id) (hL.get_new (j := 0) hi (by kernel_rfl))).trans v0)
        have e1 : a.tmps[34]?.getD undef = (.string (B x.name)) := (slot_eval a 34).trans (((id) (hL.get_new (j := 2) hi (by kernel_rfl))).trans v2)
        have hc := hL.cls
        have hl : listed.getD 3 false = false := by rw [getD_of_size (by rw [hsz]; exact hin)]; exact (ready_spec hi).2.1
        clear ho hL
        refine step_wp rfl rfl ?_
        obtain ⟨vl1, hD1, hN1⟩ := hc.ours1 hl
        have hct := diskDrop_calls hD1 x.name
        clear hi
        unfold Oper.wp execOp
        go_simp
        go_at_call 18
        refine hct.mono ?_
        rintro e w2 ⟨rfl, vl2, hD2, hF2, hN2⟩
        have hcl := hc.our hsz hl (by omega) hin hD1 hN1 hD2 hF2 hN2
        first
          | exact ⟨_, rfl, v3.symm, hcl, fun _ _ _ h => h⟩
          | exact ⟨_, rfl, rfl, hcl⟩
      | 4, ho =>
        obtain rfl := (Option.some.inj ho).symm
        have e0 : a.tmps[1]?.getD undef = (.pointer (some ⟨q, 0, none⟩)) := (slot_eval a 1).trans (hL.get_old hi (by kernel_rfl))
        have hc := hL.cls
        refine step_wp rfl rfl ?_
        clear ho hL
        refine wp_val (v := (.pointer (some ⟨q, 0, none⟩))) ?_ ⟨_, rfl, (id) v4.symm, hc.same hsz hin (by omega) (by omega), fun _ _ _ h => h⟩
        clear hi hin hsz v0 v1 v2 v3 v4 v5 v6 v7 v8 v9  hc
        unfold execOp
        go_simp
      | 5, ho =>
        obtain rfl := (Option.some.inj ho).symm
        have e0 : a.tmps[5]?.getD undef = (.pointer (some ⟨b, 0, none⟩)) := (slot_eval a 5).trans (hL.get_old hi (by kernel_rfl))
        have hc := hL.cls
        refine step_wp rfl rfl ?_
        clear ho hL
        refine wp_val (v := (.pointer (some ⟨b, 1, none⟩))) ?_ ⟨_, rfl, (id) v5.symm, hc.same hsz hin (by omega) (by omega), fun _ _ _ h => h⟩
        have q1 := hc.c1
        have q2 := hc.c2
        clear hi hin hsz v0 v1 v2 v3 v4 v5 v6 v7 v8 v9  hc
        unfold execOp
        go_simp
      | 6, ho =>
        obtain rfl := (Option.some.inj ho).symm
        have e0 : a.tmps[37]?.getD undef = (.pointer (some ⟨b, 1, none⟩)) := (slot_eval a 37).trans (((id) (hL.get_new (j := 5) hi (by kernel_rfl))).trans v5)
        have hc := hL.cls
        refine step_wp rfl rfl ?_
        clear ho hL
        refine wp_val (v := (.string (B x.name))) ?_ ⟨_, rfl, (id) v6.symm, hc.same hsz hin (by omega) (by omega), fun _ _ _ h => h⟩
        have q1 := hc.c1
        have q2 := hc.c2
        clear hi hin hsz v0 v1 v2 v3 v4 v5 v6 v7 v8 v9  hc
        unfold execOp
        go_simp
      | 7, ho =>
        obtain rfl := (Option.some.inj ho).symm
        have e0 : a.tmps[36]?.getD undef = (.pointer (some ⟨q, 0, none⟩)) := (slot_eval a 36).trans (((id) (hL.get_new (j := 4) hi (by kernel_rfl))).trans v4)
        have e1 : a.tmps[38]?.getD undef = (.string (B x.name)) := (slot_eval a 38).trans (((id) (hL.get_new (j := 6) hi (by kernel_rfl))).trans v6)
        have hc := hL.cls
        have hl : listed.getD 7 false = false := by rw [getD_of_size (by rw [hsz]; exact hin)]; exact (ready_spec hi).2.1
        clear ho hL
        refine step_wp rfl rfl ?_
        obtain ⟨vl1, hD1, hN1⟩ := hc.theirs1 hl
        have hct := refWrite_calls (hc.atB hB) hD1 x.name [] true hok.name (by simp) hf
        clear hi
        unfold Oper.wp execOp
        go_simp
        go_at_call 19
        refine hct.mono ?_
        rintro e w2 ⟨rfl, vl2, hD2, hF2, hN2⟩
        have hcl := hc.their hsz hl (by omega) hin hD1 hN1 hD2 hF2 hN2
        first
          | exact ⟨_, rfl, v7.symm, hcl, fun _ _ _ h => h⟩
          | exact ⟨_, rfl, rfl, hcl⟩
      | 8, ho =>
        obtain rfl := (Option.some.inj ho).symm
        have e0 : a.tmps[35]?.getD undef = (.int .i64 (writeC s)) := (slot_eval a 35).trans (((id) (hL.get_new (j := 3) hi (by kernel_rfl))).trans v3)
        have e1 : a.tmps[39]?.getD undef = (.int .i64 (writeC s)) := (slot_eval a 39).trans (((id) (hL.get_new (j := 7) hi (by kernel_rfl))).trans v7)
        have hc := hL.cls
        refine step_wp rfl rfl ?_
        clear ho hL
        refine wp_val (v := (.bool true)) ?_ ⟨_, rfl, (id) v8.symm, hc.same hsz hin (by omega) (by omega), fun _ _ _ h => h⟩
        have q1 := hc.c1
        have q2 := hc.c2
        clear hi hin hsz v0 v1 v2 v3 v4 v5 v6 v7 v8 v9  hc
        unfold execOp
        go_simp
      | 9, ho =>
        obtain rfl := (Option.some.inj ho).symm
        have e0 : a.tmps[40]?.getD undef = (.bool true) := (slot_eval a 40).trans (((id) (hL.get_new (j := 8) hi (by kernel_rfl))).trans v8)
        have hc := hL.cls
        refine step_wp rfl rfl ?_
        clear ho hL
        refine wp_val (v := (.bool true)) ?_ ⟨_, rfl, (id) v9.symm, hc.same hsz hin (by omega) (by omega), fun _ _ _ h => h⟩
        clear hi hin hsz v0 v1 v2 v3 v4 v5 v6 v7 v8 v9  hc
        unfold execOp
        go_simp
      | (n + 10), ho => exact absurd hin (by simp)
    · intro a w1 listed hL hall
      have hc := hL.cls
      obtain ⟨vs, rfl, hR⟩ := hL.frame (by kernel_rfl) (sizes_spec (n := 110) (by kernel_rfl)) hall
      simp only [putAll, Act.put, List.setIfInBounds_toArray, List.set_cons_zero, List.set_cons_succ]
      simp only [Nat.zero_add, Nat.reduceAdd]
      have hP := hc.done (hall _ (by decide)) (hall _ (by decide))
      have hv := hR 9 _ 6 rfl rfl
      rw [v9] at hv
      clear hR hc hL
      simp only [hv]
      go_wp2
      go_ret
      exact ⟨rfl, hP⟩
  · have hS : actS s x = failS s x.n x.part := by unfold actS; rw [if_neg (by omega), if_neg (by omega), if_pos (by omega)]
    have hmi : ((x.what : Nat) : Int) % 6 = 3 := by omega
    rw [hS]
    clear hS hlt hm
    obtain ⟨vl1, hD1, hN1⟩ := hP0.out.ours
    have k3 : ∀ W, Blk W w.heap.size 33 (actC x).toArray → W.cell? ⟨w.heap.size, 3, none⟩ = some (.int .i64 x.n) := fun W h => by rw [h.cell]; rfl
    have k4 : ∀ W, Blk W w.heap.size 33 (actC x).toArray → W.cell? ⟨w.heap.size, 4, none⟩ = some (.int .i64 x.part) := fun W h => by rw [h.cell]; rfl
    have hct := Lib.hid (diskFail_calls hD1 x.n x.part hok.n hok.part)
    have g3 := k3 _ hnb
    have g4 := k4 _ hnb
    have hnn := hok.n
    clear hb0 h1 h2
    by_cases hneg : x.n < 0
    · have hfs : failS s x.n x.part = { s with fuse := -1, part := x.part } := by
        unfold failS
        by_cases h1 : x.n < -1
        · rw [if_pos h1]
        · rw [if_neg h1, show x.n = -1 by omega]
      go_wp2_with (first
        | (go_at_call 13; go_must (refine hct.out.mono ?_); rintro e w2 ⟨rfl, hD2, hF2⟩
           have hP2 := Lib.hid (hP0.out.our hD1 hN1 hD2 hF2 (Newer.refl _ _))
           have hn2 : Blk w2 w.heap.size 33 (actC x).toArray := hF2.blk hnb (by
             intro hk
             rcases List.mem_cons.1 hk with e | hk
             · injection e with e
               exact (hnb.ne_ hD1.blk (by decide)) e
             · rw [List.mem_singleton] at hk
               exact own_blk_ne hD1.own hnb (by decide) hk)
           obtain ⟨vm1, hR1, hM1⟩ := hP2.out.theirs
           have f1 := hR1.fr 1
           have f2 := hR1.fr 2
           have m1 := hR1.c1
           have m2 := hR1.c2
           have n3 := k3 _ hn2
           have n4 := k4 _ hn2
           have hbq : w.heap.size ≠ q := hn2.ne_ hR1.blk (by decide)))
      go_ret
      have hFf := ((((Far.refl [some q] w2).set_ (p := ⟨q, 1, none⟩) (.inl (by simp)) (.int .i64 x.n)).set_ (p := ⟨q, 2, none⟩) (.inl (by simp)) (.int .i64 x.part)).set_ (p := ⟨q, 1, none⟩) (.inl (by simp)) (.int .i64 (-1)))
      have hRf : RDiskAt _ base q vm1 (failS s x.n x.part) := ⟨by rw [hfs]; exact (((hR1.blk.set_ 1 (.int .i64 x.n)).set_ 2 (.int .i64 x.part)).set_ 1 (.int .i64 (-1))), hFf.own hR1.own (fun k hk e => hR1.ne (by rw [List.mem_singleton] at e; injection e with e; rw [hk, e])), hR1.ok.fail hok.n hok.part⟩
      exact ⟨rfl, hP2.out.their hR1 hM1 hRf hFf (Newer.refl _ _)⟩
    · have hfs : failS s x.n x.part = { s with fuse := x.n, part := x.part } := by unfold failS; rw [if_neg (by omega)]
      go_wp2_with (first
        | (go_at_call 13; go_must (refine hct.out.mono ?_); rintro e w2 ⟨rfl, hD2, hF2⟩
           have hP2 := Lib.hid (hP0.out.our hD1 hN1 hD2 hF2 (Newer.refl _ _))
           have hn2 : Blk w2 w.heap.size 33 (actC x).toArray := hF2.blk hnb (by
             intro hk
             rcases List.mem_cons.1 hk with e | hk
             · injection e with e
               exact (hnb.ne_ hD1.blk (by decide)) e
             · rw [List.mem_singleton] at hk
               exact own_blk_ne hD1.own hnb (by decide) hk)
           obtain ⟨vm1, hR1, hM1⟩ := hP2.out.theirs
           have f1 := hR1.fr 1
           have f2 := hR1.fr 2
           have m1 := hR1.c1
           have m2 := hR1.c2
           have n3 := k3 _ hn2
           have n4 := k4 _ hn2
           have hbq : w.heap.size ≠ q := hn2.ne_ hR1.blk (by decide)))
      go_ret
      have hFf := (((Far.refl [some q] w2).set_ (p := ⟨q, 1, none⟩) (.inl (by simp)) (.int .i64 x.n)).set_ (p := ⟨q, 2, none⟩) (.inl (by simp)) (.int .i64 x.part))
      have hRf : RDiskAt _ base q vm1 (failS s x.n x.part) := ⟨by rw [hfs]; exact ((hR1.blk.set_ 1 (.int .i64 x.n)).set_ 2 (.int .i64 x.part)), hFf.own hR1.own (fun k hk e => hR1.ne (by rw [List.mem_singleton] at e; injection e with e; rw [hk, e])), hR1.ok.fail hok.n hok.part⟩
      exact ⟨rfl, hP2.out.their hR1 hM1 hRf hFf (Newer.refl _ _)⟩
  · have hS : actS s x = upS s := by unfold actS; rw [if_neg (by omega), if_neg (by omega), if_neg (by omega), if_pos (by omega)]
    have hmi : ((x.what : Nat) : Int) % 6 = 4 := by omega
    rw [hS]
    clear hS hlt hm
    obtain ⟨vl1, hD1, hN1⟩ := hP0.out.ours
    have hct := Lib.hid (diskRestart_calls hD1)
    clear hb0 h1 h2
    go_wp2_with (first
      | (go_at_call 12; go_must (refine hct.out.mono ?_); rintro e w2 ⟨rfl, hD2, hF2⟩
         have hP2 := Lib.hid (hP0.out.our hD1 hN1 hD2 hF2 (Newer.refl _ _))
         obtain ⟨vm1, hR1, hM1⟩ := hP2.out.theirs
         have f1 := hR1.fr 1
         have f3 := hR1.fr 3
         have m1 := hR1.c1
         have m3 := hR1.c3))
    go_ret
    have hFf := (((Far.refl [some q] w2).set_ (p := ⟨q, 1, none⟩) (.inl (by simp)) (.int .i64 (-1))).set_ (p := ⟨q, 3, none⟩) (.inl (by simp)) (.bool false))
    have hRf : RDiskAt _ base q vm1 (upS s) := ⟨((hR1.blk.set_ 1 (.int .i64 (-1))).set_ 3 (.bool false)), hFf.own hR1.own (fun k hk e => hR1.ne (by rw [List.mem_singleton] at e; injection e with e; rw [hk, e])), hR1.ok.up⟩
    exact ⟨rfl, hP2.out.their hR1 hM1 hRf hFf (Newer.refl _ _)⟩
  · have hS : actS s x = s := by unfold actS; rw [if_neg (by omega), if_neg (by omega), if_neg (by omega), if_neg (by omega)]
    have hmi : ((x.what : Nat) : Int) % 6 = 5 := by omega
    rw [hS]
    clear hS hlt hm
    obtain ⟨vl1, hD1, hN1⟩ := hP0.out.ours
    have hct := Lib.hid (diskGet_calls hD1 x.name)
    have g1 : (w.alloc (.cells (actC x).toArray 33)).cell? ⟨w.heap.size, 1, none⟩ = some (.string (B x.name)) := by rw [hnb.cell]; rfl
    clear hb0 h1 h2
    go_wp2_with (first
      | (go_at_call 16; go_must (refine hct.out.mono ?_); rintro e w2 ⟨rfl, hb2⟩
         have hP2 := Lib.hid (hP0.out.more hb2)
         have hn2 : Blk w2 w.heap.size 33 (actC x).toArray := hnb.below hb2 hnb.lt
         obtain ⟨vm1, hR1, hM1⟩ := hP2.out.theirs))
    obtain ⟨b, hb⟩ : ∃ b, w.heap.size = b := ⟨_, rfl⟩
    rw [hb] at hn2 ⊢
    have hS0 : ActG w2 base q b vm1 s x w2 := ⟨hR1, hn2, Below.refl _ _⟩
    clear hnb hP0 hct g1 k0 hD1 hb2 hn2 hR1 hb
    refine wp_region_class (C := ActG w2 base q b vm1 s x) (by kernel_rfl) (by kernel_rfl) hS0.drew ?_
    repeat
      first
        | ((with_reducible refine wpQuiet_ex ?_ ?_)
           · (go_simp; done)
           apply Exists.intro
           refine ⟨fun W hW => ?_, ?_⟩
           · have f0 := hW.rd.c0
             have f1 := hW.c1
             have hgt := refGet_calls s.l hW.rd.ok.ok vm1 W hW.rd.files x.name
             go_simp
             first
               | rfl
               | (go_at_call 20; with_reducible exact hW.keep hgt)
           simp only [Act.put, List.setIfInBounds_toArray, List.set_cons_zero, List.set_cons_succ])
        | ((with_reducible refine wpQuiet_pass ?_ ?_)
           · (first | rfl | (go_simp; done))
           simp only [Act.put, List.setIfInBounds_toArray, List.set_cons_zero, List.set_cons_succ])
    intro W hW
    have c3 := hW.rd.c3
    have hP3 := hP2.out.more hW.bel
    clear hP2 hS0 hW
    cases hdn : s.down with
    | true =>
      have hr : getR s x.name = ([], false) := by simp [getR, hdn]
      rw [hr]
      rw [hdn] at c3
      clear hr hdn
      go_wp2
      go_ret
      exact ⟨rfl, hP3⟩
    | false =>
      have hr : getR s x.name = getT (getL s.l x.name) := by
        unfold getR getT
        rw [hdn]
        rfl
      rw [hr]
      rw [hdn] at c3
      clear hr hdn
      generalize getT (getL s.l x.name) = r
      obtain ⟨r1, r2⟩ := r
      go_wp2
      go_ret
      exact ⟨rfl, hP3⟩
end Go.Proofs.Ytejaeclcgkcklaa
