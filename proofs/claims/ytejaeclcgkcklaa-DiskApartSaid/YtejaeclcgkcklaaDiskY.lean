/- The walk of layer 21 (disk), the document's side: Copied. No condition. -/
import Derived.Test.YtejaeclcgkcklaaDiskX
import Derived.Test.YtejaeclcgkcklaaInvW
namespace Go.Proofs.Ytejaeclcgkcklaa
open Go.RowKit
/-- What the region leaves. -/
def CpR (V : Nat → Value) (base : Nat) (s : DiskL) (i : Nat) (v : Value) (w : World) : Prop :=
  if i = 5 then OwnRF w base v s.l else if i = 18 then ∃ v', v = .agg (diskC v' s) ∧ OwnRF w base v' s.l
  else if i = 19 ∨ i = 20 then ∃ v' q', v = .pointer (some ⟨q', 0, none⟩) ∧ base ≤ q' ∧ Blk w q' 30 (diskC v' s) ∧ OwnRF w base v' s.l else v = V i
section
variable {V : Nat → Value} {base : Nat} {s : DiskL} {i : Nat} {v v' : Value} {w w' : World}
theorem cpR_at (hi : i ≠ 5 ∧ i ≠ 18 ∧ i ≠ 19 ∧ i ≠ 20) (h : CpR V base s i v w) : v = V i := by unfold CpR at h; rwa [if_neg hi.1, if_neg hi.2.1, if_neg (by omega)] at h
theorem cpR_mk (hi : i ≠ 5 ∧ i ≠ 18 ∧ i ≠ 19 ∧ i ≠ 20) (h : v = V i) : CpR V base s i v w := by unfold CpR; rwa [if_neg hi.1, if_neg hi.2.1, if_neg (by omega)]
theorem cpR_5 (h : OwnRF w base v s.l) : CpR V base s 5 v w := by unfold CpR; rwa [if_pos rfl]
theorem cpR_5at (h : CpR V base s 5 v w) : OwnRF w base v s.l := by unfold CpR at h; rwa [if_pos rfl] at h
theorem cpR_18 (h : OwnRF w base v' s.l) : CpR V base s 18 (.agg (diskC v' s)) w := by unfold CpR; rw [if_neg (by omega), if_pos rfl]; exact ⟨v', rfl, h⟩
theorem cpR_18at (h : CpR V base s 18 v w) : ∃ v', v = .agg (diskC v' s) ∧ OwnRF w base v' s.l := by unfold CpR at h; rwa [if_neg (by omega), if_pos rfl] at h
theorem cpR_19 (hi : i = 19 ∨ i = 20) {q' : Nat} (hq : base ≤ q') (hb : Blk w q' 30 (diskC v' s)) (h : OwnRF w base v' s.l) : CpR V base s i (.pointer (some ⟨q', 0, none⟩)) w := by
  unfold CpR; rw [if_neg (by omega), if_neg (by omega), if_pos hi]; exact ⟨v', q', rfl, hq, hb, h⟩
theorem cpR_19at (hi : i = 19 ∨ i = 20) (h : CpR V base s i v w) : ∃ v' q', v = .pointer (some ⟨q', 0, none⟩) ∧ base ≤ q' ∧ Blk w q' 30 (diskC v' s) ∧ OwnRF w base v' s.l := by
  unfold CpR at h; rwa [if_neg (by omega), if_neg (by omega), if_pos hi] at h
theorem cpR_alloc (h : CpR V base s i v w) (o : Obj) : CpR V base s i v (w.alloc o) := by
  by_cases h5 : i = 5
  · subst h5; exact cpR_5 (World.ownsRow.alloc (cpR_5at h) o)
  by_cases h18 : i = 18
  · subst h18
    obtain ⟨v', rfl, h1⟩ := cpR_18at h
    exact cpR_18 (World.ownsRow.alloc h1 o)
  by_cases h19 : i = 19 ∨ i = 20
  · obtain ⟨v', q', rfl, h1, h2, h3⟩ := cpR_19at h19 h
    exact cpR_19 h19 h1 (h2.alloc o) (World.ownsRow.alloc h3 o)
  · exact cpR_mk (by omega) (cpR_at (by omega) h)
theorem cpR_fixed (hi : ¬ (i = 5 ∨ i = 18 ∨ i = 19 ∨ i = 20)) (h : CpR V base s i v w) : CpR V base s i v w' := cpR_mk (by omega) (cpR_at (by omega) h)
end
structure CpC (w0 : World) (listed : Array Bool) (w : World) : Prop where
  bel : Below w0.heap.size w0 w
  none_ : listed.getD 0 false = false → w.heap.size = w0.heap.size
  own : listed.getD 0 false = true → listed.getD 5 false = false → OwnRF w w0.heap.size (.slice (some ⟨w0.heap.size, 0, none⟩) 0 0) []
section
variable {w0 w w' : World} {listed : Array Bool} {i : Nat}
theorem CpC.start (w : World) : CpC w (Array.replicate 21 false) { w with drawn := w.drawn + 1 } := ⟨(Below.refl _ _).drew, fun _ => rfl, fun h => by simp at h⟩
theorem CpC.same (h : CpC w0 listed w) (hsz : listed.size = 21) (hi : i < 21) (h0 : i ≠ 0) : CpC w0 (listed.setIfInBounds i true) w := by
  refine ⟨h.bel, fun hl => h.none_ ?_, fun h1 h2 => h.own ?_ ?_⟩
  · rwa [getD_set (by omega), if_neg (fun e => h0 e.symm)] at hl
  · rwa [getD_set (by omega), if_neg (fun e => h0 e.symm)] at h1
  · rw [getD_set (by omega)] at h2
    split at h2
    · cases h2
    · exact h2
theorem CpC.laid (h : CpC w0 listed w) (hsz : listed.size = 21) (hi : 0 < 21) (hl : listed.getD 0 false = false) : CpC w0 (listed.setIfInBounds 0 true) (w.alloc (.cells #[] 51)) := by
  have hz := h.none_ hl
  refine ⟨h.bel.alloc h.bel.size _, fun hl => (by rw [getD_set (by omega), if_pos rfl] at hl; cases hl), fun _ _ => ?_⟩
  have := World.ownsRow_lit (size := 2) (base := w0.heap.size) (e := 51) w #[] 0 (by omega) (by simp [maxLen]) rfl
  rw [hz] at this
  exact this
theorem CpC.appended (h : CpC w0 listed w) (hsz : listed.size = 21) (hi : 5 < 21) (hb : Below w0.heap.size w0 w') (hl0 : listed.getD 0 false = true) : CpC w0 (listed.setIfInBounds 5 true) w' :=
  ⟨hb, fun hl => (by rw [getD_set (by omega), if_neg (by omega), hl0] at hl; cases hl), fun _ h2 => by rw [getD_set (by omega), if_pos rfl] at h2; cases h2⟩
theorem CpC.boxed (h : CpC w0 listed w) (hsz : listed.size = 21) (hi : 19 < 21) (h0 : listed.getD 0 false = true) (h5 : listed.getD 5 false = true) (o : Obj) : CpC w0 (listed.setIfInBounds 19 true) (w.alloc o) :=
  ⟨h.bel.alloc h.bel.size o, fun hl => (by rw [getD_set (by omega), if_neg (by omega), h0] at hl; cases hl), fun _ h2 => by rw [getD_set (by omega), if_neg (by omega), h5] at h2; cases h2⟩
end
set_option maxRecDepth 100000 in
set_option maxHeartbeats 4000000 in
theorem refCopied_calls {w : World} {base q : Nat} {vm : Value} {s : DiskL} (h : RDiskAt w base q vm s) :
    Calls Try.prog 11 #[.pointer (some ⟨q, 0, none⟩)] w fun e w' => ∃ q' v', e = .returned (.pointer (some ⟨q', 0, none⟩)) ∧ RDiskAt w' w.heap.size q' v' s ∧ w.heap.size ≤ q' ∧ Below w.heap.size w w' := by
  have hok := h.ok.ok
  have hdk := h.ok
  have hfew := h.ok.few
  rcases Row.of_own (fileK hok) h.own with ⟨rfl, h0⟩ | ⟨g, cap, rfl, hg, hrow⟩
  · have hR := h
    clear h
    go_enter Try.func11, Try.ntmps11
    go_wp2
    obtain ⟨V, hV⟩ : ∃ V : Nat → Value, V = fun i => [(.slice (some ⟨w.heap.size, 0, none⟩) 0 0), (.pointer (some ⟨q, 0, none⟩)), (.pointer (some ⟨q, 0, none⟩)), (.pointer (some ⟨q, 0, none⟩)), (.slice none 0 0), undef, (.pointer (some ⟨q, 0, none⟩)), (.pointer (some ⟨q, 0, none⟩)), (.pointer (some ⟨q, 1, none⟩)), (.int .i64 s.fuse), (.pointer (some ⟨q, 0, none⟩)), (.pointer (some ⟨q, 0, none⟩)), (.pointer (some ⟨q, 2, none⟩)), (.int .i64 s.part), (.pointer (some ⟨q, 0, none⟩)), (.pointer (some ⟨q, 0, none⟩)), (.pointer (some ⟨q, 3, none⟩)), (.bool s.down), undef, undef, undef].getD i undef := ⟨_, rfl⟩
    have v0 : V 0 = (.slice (some ⟨w.heap.size, 0, none⟩) 0 0) := by rw [hV]; rfl
    have v1 : V 1 = (.pointer (some ⟨q, 0, none⟩)) := by rw [hV]; rfl
    have v2 : V 2 = (.pointer (some ⟨q, 0, none⟩)) := by rw [hV]; rfl
    have v3 : V 3 = (.pointer (some ⟨q, 0, none⟩)) := by rw [hV]; rfl
    have v4 : V 4 = (.slice none 0 0) := by rw [hV]; rfl
    have v6 : V 6 = (.pointer (some ⟨q, 0, none⟩)) := by rw [hV]; rfl
    have v7 : V 7 = (.pointer (some ⟨q, 0, none⟩)) := by rw [hV]; rfl
    have v8 : V 8 = (.pointer (some ⟨q, 1, none⟩)) := by rw [hV]; rfl
    have v9 : V 9 = (.int .i64 s.fuse) := by rw [hV]; rfl
    have v10 : V 10 = (.pointer (some ⟨q, 0, none⟩)) := by rw [hV]; rfl
    have v11 : V 11 = (.pointer (some ⟨q, 0, none⟩)) := by rw [hV]; rfl
    have v12 : V 12 = (.pointer (some ⟨q, 2, none⟩)) := by rw [hV]; rfl
    have v13 : V 13 = (.int .i64 s.part) := by rw [hV]; rfl
    have v14 : V 14 = (.pointer (some ⟨q, 0, none⟩)) := by rw [hV]; rfl
    have v15 : V 15 = (.pointer (some ⟨q, 0, none⟩)) := by rw [hV]; rfl
    have v16 : V 16 = (.pointer (some ⟨q, 3, none⟩)) := by rw [hV]; rfl
    have v17 : V 17 = (.bool s.down) := by rw [hV]; rfl
    clear hV
    refine wp_region_listed (C := CpC w) (R := CpR V w.heap.size s) (by kernel_rfl) (by kernel_rfl) (by kernel_rfl) ?_ (CpC.start w) ?_ ?_
    · exact sizes_spec (n := 23) (by kernel_rfl)
    · intro i o listed a w1 ho hi hL
      have hin := (ready_spec hi).1
      have hsz : listed.size = 21 := hL.size
      match i, ho with
      | 0, ho =>
        obtain rfl := (Option.some.inj ho).symm
        have hc := hL.cls
        have hl : listed.getD 0 false = false := by rw [getD_of_size (by rw [hsz]; exact hin)]; exact (ready_spec hi).2.1
        clear ho hL
        refine step_wp rfl rfl ?_
        have hz := Lib.hid (hc.none_ hl)
        have hcl := Lib.hid (hc.laid hsz hin hl)
        clear hi
        unfold Oper.wp execOp
        go_simp
        rw [← hz.out] at v0
        exact ⟨_, rfl, cpR_mk (by omega) v0.symm, hcl.out, fun j u _ h => cpR_alloc h _⟩
      | 1, ho =>
        obtain rfl := (Option.some.inj ho).symm
        have e0 : a.tmps[0]?.getD undef = (.pointer (some ⟨q, 0, none⟩)) := (slot_eval a 0).trans (hL.get_old hi (by kernel_rfl))
        have hc := hL.cls
        refine step_wp rfl rfl ?_
        clear ho hL
        refine wp_val (v := (.pointer (some ⟨q, 0, none⟩))) ?_ ⟨_, rfl, cpR_mk (by omega) v1.symm, hc.same hsz hin (by omega), fun _ _ _ h => h⟩
        clear hi hin hsz v0 v1 v2 v3 v4 v6 v7 v8 v9 v10 v11 v12 v13 v14 v15 v16 v17  hc
        unfold execOp
        go_simp
      | 2, ho =>
        obtain rfl := (Option.some.inj ho).symm
        have e0 : a.tmps[4]?.getD undef = (.pointer (some ⟨q, 0, none⟩)) := (slot_eval a 4).trans ((cpR_at (by omega) (hL.get_new (j := 1) hi (by kernel_rfl))).trans v1)
        have hc := hL.cls
        refine step_wp rfl rfl ?_
        clear ho hL
        refine wp_val (v := (.pointer (some ⟨q, 0, none⟩))) ?_ ⟨_, rfl, cpR_mk (by omega) v2.symm, hc.same hsz hin (by omega), fun _ _ _ h => h⟩
        have q0 := (hR.below hc.bel).c0
        have q1 := (hR.below hc.bel).c1
        have q2 := (hR.below hc.bel).c2
        have q3 := (hR.below hc.bel).c3
        clear hi hin hsz v0 v1 v2 v3 v4 v6 v7 v8 v9 v10 v11 v12 v13 v14 v15 v16 v17  hc
        unfold execOp
        go_simp
      | 3, ho =>
        obtain rfl := (Option.some.inj ho).symm
        have e0 : a.tmps[5]?.getD undef = (.pointer (some ⟨q, 0, none⟩)) := (slot_eval a 5).trans ((cpR_at (by omega) (hL.get_new (j := 2) hi (by kernel_rfl))).trans v2)
        have hc := hL.cls
        refine step_wp rfl rfl ?_
        clear ho hL
        refine wp_val (v := (.pointer (some ⟨q, 0, none⟩))) ?_ ⟨_, rfl, cpR_mk (by omega) v3.symm, hc.same hsz hin (by omega), fun _ _ _ h => h⟩
        have q0 := (hR.below hc.bel).c0
        have q1 := (hR.below hc.bel).c1
        have q2 := (hR.below hc.bel).c2
        have q3 := (hR.below hc.bel).c3
        clear hi hin hsz v0 v1 v2 v3 v4 v6 v7 v8 v9 v10 v11 v12 v13 v14 v15 v16 v17  hc
        unfold execOp
        go_simp
      | 4, ho =>
        obtain rfl := (Option.some.inj ho).symm
        have e0 : a.tmps[6]?.getD undef = (.pointer (some ⟨q, 0, none⟩)) := (slot_eval a 6).trans ((cpR_at (by omega) (hL.get_new (j := 3) hi (by kernel_rfl))).trans v3)
        have hc := hL.cls
        refine step_wp rfl rfl ?_
        clear ho hL
        refine wp_val (v := (.slice none 0 0)) ?_ ⟨_, rfl, cpR_mk (by omega) v4.symm, hc.same hsz hin (by omega), fun _ _ _ h => h⟩
        have q0 := (hR.below hc.bel).c0
        have q1 := (hR.below hc.bel).c1
        have q2 := (hR.below hc.bel).c2
        have q3 := (hR.below hc.bel).c3
        clear hi hin hsz v0 v1 v2 v3 v4 v6 v7 v8 v9 v10 v11 v12 v13 v14 v15 v16 v17  hc
        unfold execOp
        go_simp
      | 5, ho =>
        obtain rfl := (Option.some.inj ho).symm
        have e0 : a.tmps[3]?.getD undef = (.slice (some ⟨w.heap.size, 0, none⟩) 0 0) := (slot_eval a 3).trans ((cpR_at (by omega) (hL.get_new (j := 0) hi (by kernel_rfl))).trans v0)
        have e1 : a.tmps[7]?.getD undef = (.slice none 0 0) := (slot_eval a 7).trans ((cpR_at (by omega) (hL.get_new (j := 4) hi (by kernel_rfl))).trans v4)
        have hc := hL.cls
        have hl : listed.getD 5 false = false := by rw [getD_of_size (by rw [hsz]; exact hin)]; exact (ready_spec hi).2.1
        have hl0 := hL.before (j := 0) hi (by kernel_rfl)
        have l18 := hL.later (j := 18) hi (by kernel_rfl)
        have l19 := hL.later2 (j := 19) l18 (by kernel_rfl)
        have l20 := hL.later2 (j := 20) l19 (by kernel_rfl)
        have hown := hc.own hl0 hl
        clear ho hL
        refine step_wp rfl rfl ?_
        have hcl := Lib.hid (hc.same (i := 5) hsz hin (by omega))
        clear hi
        unfold Oper.wp execOp
        go_simp
        first
          | exact ⟨_, rfl, cpR_5 (by rw [h0]; exact hown), hcl.out, fun _ _ _ h => h⟩
          | exact ⟨_, rfl, cpR_5 (by rw [h0]; exact hown), hcl.out⟩
      | 6, ho =>
        obtain rfl := (Option.some.inj ho).symm
        have e0 : a.tmps[0]?.getD undef = (.pointer (some ⟨q, 0, none⟩)) := (slot_eval a 0).trans (hL.get_old hi (by kernel_rfl))
        have hc := hL.cls
        refine step_wp rfl rfl ?_
        clear ho hL
        refine wp_val (v := (.pointer (some ⟨q, 0, none⟩))) ?_ ⟨_, rfl, cpR_mk (by omega) v6.symm, hc.same hsz hin (by omega), fun _ _ _ h => h⟩
        clear hi hin hsz v0 v1 v2 v3 v4 v6 v7 v8 v9 v10 v11 v12 v13 v14 v15 v16 v17  hc
        unfold execOp
        go_simp
      | 7, ho =>
        obtain rfl := (Option.some.inj ho).symm
        have e0 : a.tmps[9]?.getD undef = (.pointer (some ⟨q, 0, none⟩)) := (slot_eval a 9).trans ((cpR_at (by omega) (hL.get_new (j := 6) hi (by kernel_rfl))).trans v6)
        have hc := hL.cls
        refine step_wp rfl rfl ?_
        clear ho hL
        refine wp_val (v := (.pointer (some ⟨q, 0, none⟩))) ?_ ⟨_, rfl, cpR_mk (by omega) v7.symm, hc.same hsz hin (by omega), fun _ _ _ h => h⟩
        have q0 := (hR.below hc.bel).c0
        have q1 := (hR.below hc.bel).c1
        have q2 := (hR.below hc.bel).c2
        have q3 := (hR.below hc.bel).c3
        clear hi hin hsz v0 v1 v2 v3 v4 v6 v7 v8 v9 v10 v11 v12 v13 v14 v15 v16 v17  hc
        unfold execOp
        go_simp
      | 8, ho =>
        obtain rfl := (Option.some.inj ho).symm
        have e0 : a.tmps[10]?.getD undef = (.pointer (some ⟨q, 0, none⟩)) := (slot_eval a 10).trans ((cpR_at (by omega) (hL.get_new (j := 7) hi (by kernel_rfl))).trans v7)
        have hc := hL.cls
        refine step_wp rfl rfl ?_
        clear ho hL
        refine wp_val (v := (.pointer (some ⟨q, 1, none⟩))) ?_ ⟨_, rfl, cpR_mk (by omega) v8.symm, hc.same hsz hin (by omega), fun _ _ _ h => h⟩
        have q0 := (hR.below hc.bel).c0
        have q1 := (hR.below hc.bel).c1
        have q2 := (hR.below hc.bel).c2
        have q3 := (hR.below hc.bel).c3
        clear hi hin hsz v0 v1 v2 v3 v4 v6 v7 v8 v9 v10 v11 v12 v13 v14 v15 v16 v17  hc
        unfold execOp
        go_simp
      | 9, ho =>
        obtain rfl := (Option.some.inj ho).symm
        have e0 : a.tmps[11]?.getD undef = (.pointer (some ⟨q, 1, none⟩)) := (slot_eval a 11).trans ((cpR_at (by omega) (hL.get_new (j := 8) hi (by kernel_rfl))).trans v8)
        have hc := hL.cls
        refine step_wp rfl rfl ?_
        clear ho hL
        refine wp_val (v := (.int .i64 s.fuse)) ?_ ⟨_, rfl, cpR_mk (by omega) v9.symm, hc.same hsz hin (by omega), fun _ _ _ h => h⟩
        have q0 := (hR.below hc.bel).c0
        have q1 := (hR.below hc.bel).c1
        have q2 := (hR.below hc.bel).c2
        have q3 := (hR.below hc.bel).c3
        clear hi hin hsz v0 v1 v2 v3 v4 v6 v7 v8 v9 v10 v11 v12 v13 v14 v15 v16 v17  hc
        unfold execOp
        go_simp
      | 10, ho =>
        obtain rfl := (Option.some.inj ho).symm
        have e0 : a.tmps[0]?.getD undef = (.pointer (some ⟨q, 0, none⟩)) := (slot_eval a 0).trans (hL.get_old hi (by kernel_rfl))
        have hc := hL.cls
        refine step_wp rfl rfl ?_
        clear ho hL
        refine wp_val (v := (.pointer (some ⟨q, 0, none⟩))) ?_ ⟨_, rfl, cpR_mk (by omega) v10.symm, hc.same hsz hin (by omega), fun _ _ _ h => h⟩
        clear hi hin hsz v0 v1 v2 v3 v4 v6 v7 v8 v9 v10 v11 v12 v13 v14 v15 v16 v17  hc
        unfold execOp
        go_simp
      | 11, ho =>
        obtain rfl := (Option.some.inj ho).symm
        have e0 : a.tmps[13]?.getD undef = (.pointer (some ⟨q, 0, none⟩)) := (slot_eval a 13).trans ((cpR_at (by omega) (hL.get_new (j := 10) hi (by kernel_rfl))).trans v10)
        have hc := hL.cls
        refine step_wp rfl rfl ?_
        clear ho hL
        refine wp_val (v := (.pointer (some ⟨q, 0, none⟩))) ?_ ⟨_, rfl, cpR_mk (by omega) v11.symm, hc.same hsz hin (by omega), fun _ _ _ h => h⟩
        have q0 := (hR.below hc.bel).c0
        have q1 := (hR.below hc.bel).c1
        have q2 := (hR.below hc.bel).c2
        have q3 := (hR.below hc.bel).c3
        clear hi hin hsz v0 v1 v2 v3 v4 v6 v7 v8 v9 v10 v11 v12 v13 v14 v15 v16 v17  hc
        unfold execOp
        go_simp
      | 12, ho =>
        obtain rfl := (Option.some.inj ho).symm
        have e0 : a.tmps[14]?.getD undef = (.pointer (some ⟨q, 0, none⟩)) := (slot_eval a 14).trans ((cpR_at (by omega) (hL.get_new (j := 11) hi (by kernel_rfl))).trans v11)
        have hc := hL.cls
        refine step_wp rfl rfl ?_
        clear ho hL
        refine wp_val (v := (.pointer (some ⟨q, 2, none⟩))) ?_ ⟨_, rfl, cpR_mk (by omega) v12.symm, hc.same hsz hin (by omega), fun _ _ _ h => h⟩
        have q0 := (hR.below hc.bel).c0
        have q1 := (hR.below hc.bel).c1
        have q2 := (hR.below hc.bel).c2
        have q3 := (hR.below hc.bel).c3
        clear hi hin hsz v0 v1 v2 v3 v4 v6 v7 v8 v9 v10 v11 v12 v13 v14 v15 v16 v17  hc
        unfold execOp
        go_simp
      | 13, ho =>
        obtain rfl := (Option.some.inj ho).symm
        have e0 : a.tmps[15]?.getD undef = (.pointer (some ⟨q, 2, none⟩)) := (slot_eval a 15).trans ((cpR_at (by omega) (hL.get_new (j := 12) hi (by kernel_rfl))).trans v12)
        have hc := hL.cls
        refine step_wp rfl rfl ?_
        clear ho hL
        refine wp_val (v := (.int .i64 s.part)) ?_ ⟨_, rfl, cpR_mk (by omega) v13.symm, hc.same hsz hin (by omega), fun _ _ _ h => h⟩
        have q0 := (hR.below hc.bel).c0
        have q1 := (hR.below hc.bel).c1
        have q2 := (hR.below hc.bel).c2
        have q3 := (hR.below hc.bel).c3
        clear hi hin hsz v0 v1 v2 v3 v4 v6 v7 v8 v9 v10 v11 v12 v13 v14 v15 v16 v17  hc
        unfold execOp
        go_simp
      | 14, ho =>
        obtain rfl := (Option.some.inj ho).symm
        have e0 : a.tmps[0]?.getD undef = (.pointer (some ⟨q, 0, none⟩)) := (slot_eval a 0).trans (hL.get_old hi (by kernel_rfl))
        have hc := hL.cls
        refine step_wp rfl rfl ?_
        clear ho hL
        refine wp_val (v := (.pointer (some ⟨q, 0, none⟩))) ?_ ⟨_, rfl, cpR_mk (by omega) v14.symm, hc.same hsz hin (by omega), fun _ _ _ h => h⟩
        clear hi hin hsz v0 v1 v2 v3 v4 v6 v7 v8 v9 v10 v11 v12 v13 v14 v15 v16 v17  hc
        unfold execOp
        go_simp
      | 15, ho =>
        obtain rfl := (Option.some.inj ho).symm
        have e0 : a.tmps[17]?.getD undef = (.pointer (some ⟨q, 0, none⟩)) := (slot_eval a 17).trans ((cpR_at (by omega) (hL.get_new (j := 14) hi (by kernel_rfl))).trans v14)
        have hc := hL.cls
        refine step_wp rfl rfl ?_
        clear ho hL
        refine wp_val (v := (.pointer (some ⟨q, 0, none⟩))) ?_ ⟨_, rfl, cpR_mk (by omega) v15.symm, hc.same hsz hin (by omega), fun _ _ _ h => h⟩
        have q0 := (hR.below hc.bel).c0
        have q1 := (hR.below hc.bel).c1
        have q2 := (hR.below hc.bel).c2
        have q3 := (hR.below hc.bel).c3
        clear hi hin hsz v0 v1 v2 v3 v4 v6 v7 v8 v9 v10 v11 v12 v13 v14 v15 v16 v17  hc
        unfold execOp
        go_simp
      | 16, ho =>
        obtain rfl := (Option.some.inj ho).symm
        have e0 : a.tmps[18]?.getD undef = (.pointer (some ⟨q, 0, none⟩)) := (slot_eval a 18).trans ((cpR_at (by omega) (hL.get_new (j := 15) hi (by kernel_rfl))).trans v15)
        have hc := hL.cls
        refine step_wp rfl rfl ?_
        clear ho hL
        refine wp_val (v := (.pointer (some ⟨q, 3, none⟩))) ?_ ⟨_, rfl, cpR_mk (by omega) v16.symm, hc.same hsz hin (by omega), fun _ _ _ h => h⟩
        have q0 := (hR.below hc.bel).c0
        have q1 := (hR.below hc.bel).c1
        have q2 := (hR.below hc.bel).c2
        have q3 := (hR.below hc.bel).c3
        clear hi hin hsz v0 v1 v2 v3 v4 v6 v7 v8 v9 v10 v11 v12 v13 v14 v15 v16 v17  hc
        unfold execOp
        go_simp
      | 17, ho =>
        obtain rfl := (Option.some.inj ho).symm
        have e0 : a.tmps[19]?.getD undef = (.pointer (some ⟨q, 3, none⟩)) := (slot_eval a 19).trans ((cpR_at (by omega) (hL.get_new (j := 16) hi (by kernel_rfl))).trans v16)
        have hc := hL.cls
        refine step_wp rfl rfl ?_
        clear ho hL
        refine wp_val (v := (.bool s.down)) ?_ ⟨_, rfl, cpR_mk (by omega) v17.symm, hc.same hsz hin (by omega), fun _ _ _ h => h⟩
        have q0 := (hR.below hc.bel).c0
        have q1 := (hR.below hc.bel).c1
        have q2 := (hR.below hc.bel).c2
        have q3 := (hR.below hc.bel).c3
        clear hi hin hsz v0 v1 v2 v3 v4 v6 v7 v8 v9 v10 v11 v12 v13 v14 v15 v16 v17  hc
        unfold execOp
        go_simp
      | 18, ho =>
        obtain rfl := (Option.some.inj ho).symm
        have e0 := hL.get_new (j := 5) (t := 8) hi (by kernel_rfl)
        have e1 : a.tmps[12]?.getD undef = (.int .i64 s.fuse) := (slot_eval a 12).trans ((cpR_at (by omega) (hL.get_new (j := 9) hi (by kernel_rfl))).trans v9)
        have e2 : a.tmps[16]?.getD undef = (.int .i64 s.part) := (slot_eval a 16).trans ((cpR_at (by omega) (hL.get_new (j := 13) hi (by kernel_rfl))).trans v13)
        have e3 : a.tmps[20]?.getD undef = (.bool s.down) := (slot_eval a 20).trans ((cpR_at (by omega) (hL.get_new (j := 17) hi (by kernel_rfl))).trans v17)
        have hc := hL.cls
        obtain ⟨A5, c5, e5⟩ := own_form' (cpR_5at e0)
        have ho5 := cpR_5at e0
        rw [e5] at ho5
        have hb : Try.prog.built 30 [(0, .slice A5 s.l.length c5), (1, .int .i64 s.fuse), (2, .int .i64 s.part), (3, .bool s.down)] = some (diskC (.slice A5 s.l.length c5) s) := by kernel_rfl
        have hcl := Lib.hid (hc.same (i := 18) hsz hin (by omega))
        clear ho hL
        refine step_wp rfl rfl ?_
        have ev : ((#[(0, Operand.tmp 8), (1, Operand.tmp 12), (2, Operand.tmp 16), (3, Operand.tmp 20)] : Array (Nat × Operand)).map fun (i, x) => (i, a.eval x)).toList = [(0, .slice A5 s.l.length c5), (1, .int .i64 s.fuse), (2, .int .i64 s.part), (3, .bool s.down)] := by
          simp [e5, (slot_eval a 12).symm.trans e1, (slot_eval a 16).symm.trans e2, (slot_eval a 20).symm.trans e3]
        refine wp_build _ _ rfl (by rw [ev, hb]; rfl) ?_
        rw [ev, hb]
        first
          | exact ⟨_, rfl, cpR_18 ho5, hcl.out, fun _ _ _ h => h⟩
          | exact ⟨_, rfl, cpR_18 ho5, hcl.out⟩
      | 19, ho =>
        obtain rfl := (Option.some.inj ho).symm
        have e0 := hL.get_new (j := 18) (t := 21) hi (by kernel_rfl)
        have hc := hL.cls
        obtain ⟨v8, e8, ho8⟩ := cpR_18at e0
        have e9 : a.tmps[21]?.getD undef = .agg (diskC v8 s) := (slot_eval a 21).trans e8
        have l18 := hL.before (j := 18) hi (by kernel_rfl)
        have l5 := hL.earlier (j := 18) (k := 5) l18 (by kernel_rfl)
        have l0 := hL.earlier (j := 5) (k := 0) l5 (by kernel_rfl)
        have hcl := Lib.hid (hc.boxed hsz hin l0 l5)
        have hr := cpR_19 (i := 19) (V := V) (.inl rfl) (s := s) (v' := v8) (base := w.heap.size) hc.bel.size (Blk.new w1 30 (diskC v8 s)) (World.ownsRow.alloc ho8 _)
        clear ho hL hi e0 e8
        refine step_wp rfl rfl ?_
        unfold Oper.wp execOp
        go_simp
        exact ⟨_, rfl, hr, hcl.out _, fun j u _ h => cpR_alloc h _⟩
      | 20, ho =>
        obtain rfl := (Option.some.inj ho).symm
        have e0 := hL.get_new (j := 19) (t := 22) hi (by kernel_rfl)
        have hc := hL.cls
        obtain ⟨v8, q8, e8, hq8, hb8, ho8⟩ := cpR_19at (.inl rfl) e0
        have e9 : a.tmps[22]?.getD undef = .pointer (some ⟨q8, 0, none⟩) := (slot_eval a 22).trans e8
        have hcl := Lib.hid (hc.same (i := 20) hsz hin (by omega))
        have hr := cpR_19 (i := 20) (V := V) (.inr rfl) hq8 hb8 ho8
        clear ho hL hi e0 e8
        refine step_wp rfl rfl ?_
        unfold Oper.wp execOp
        go_simp
        first
          | exact ⟨_, rfl, hr, hcl.out, fun _ _ _ h => h⟩
          | exact ⟨_, rfl, hr, hcl.out⟩
      | (n + 21), ho => exact absurd hin (by simp)
    · intro a w1 listed hL hall
      have hc := hL.cls
      obtain ⟨vs, rfl, hRR⟩ := hL.frame (by kernel_rfl) (sizes_spec (n := 23) (by kernel_rfl)) hall
      simp only [putAll, Act.put, List.setIfInBounds_toArray, List.set_cons_zero, List.set_cons_succ]
      simp only [Nat.zero_add, Nat.reduceAdd]
      obtain ⟨v8, q8, e8, hq8, hb8, ho8⟩ := cpR_19at (.inr rfl) (hRR 20 _ 2 rfl rfl)
      rw [e8]
      have hbel := hc.bel
      clear hRR hc hL
      go_wp2
      go_ret
      exact ⟨q8, v8, rfl, ⟨hb8, ho8, hdk⟩, hq8, hbel⟩
  · have hR := h
    obtain ⟨it, i1, i2, i3, i4⟩ := Try.rfileTy.hi
    clear h
    go_enter Try.func11, Try.ntmps11
    go_wp2
    obtain ⟨V, hV⟩ : ∃ V : Nat → Value, V = fun i => [(.slice (some ⟨w.heap.size, 0, none⟩) 0 0), (.pointer (some ⟨q, 0, none⟩)), (.pointer (some ⟨q, 0, none⟩)), (.pointer (some ⟨q, 0, none⟩)), (.slice (some ⟨g, 0, none⟩) s.l.length cap), undef, (.pointer (some ⟨q, 0, none⟩)), (.pointer (some ⟨q, 0, none⟩)), (.pointer (some ⟨q, 1, none⟩)), (.int .i64 s.fuse), (.pointer (some ⟨q, 0, none⟩)), (.pointer (some ⟨q, 0, none⟩)), (.pointer (some ⟨q, 2, none⟩)), (.int .i64 s.part), (.pointer (some ⟨q, 0, none⟩)), (.pointer (some ⟨q, 0, none⟩)), (.pointer (some ⟨q, 3, none⟩)), (.bool s.down), undef, undef, undef].getD i undef := ⟨_, rfl⟩
    have v0 : V 0 = (.slice (some ⟨w.heap.size, 0, none⟩) 0 0) := by rw [hV]; rfl
    have v1 : V 1 = (.pointer (some ⟨q, 0, none⟩)) := by rw [hV]; rfl
    have v2 : V 2 = (.pointer (some ⟨q, 0, none⟩)) := by rw [hV]; rfl
    have v3 : V 3 = (.pointer (some ⟨q, 0, none⟩)) := by rw [hV]; rfl
    have v4 : V 4 = (.slice (some ⟨g, 0, none⟩) s.l.length cap) := by rw [hV]; rfl
    have v6 : V 6 = (.pointer (some ⟨q, 0, none⟩)) := by rw [hV]; rfl
    have v7 : V 7 = (.pointer (some ⟨q, 0, none⟩)) := by rw [hV]; rfl
    have v8 : V 8 = (.pointer (some ⟨q, 1, none⟩)) := by rw [hV]; rfl
    have v9 : V 9 = (.int .i64 s.fuse) := by rw [hV]; rfl
    have v10 : V 10 = (.pointer (some ⟨q, 0, none⟩)) := by rw [hV]; rfl
    have v11 : V 11 = (.pointer (some ⟨q, 0, none⟩)) := by rw [hV]; rfl
    have v12 : V 12 = (.pointer (some ⟨q, 2, none⟩)) := by rw [hV]; rfl
    have v13 : V 13 = (.int .i64 s.part) := by rw [hV]; rfl
    have v14 : V 14 = (.pointer (some ⟨q, 0, none⟩)) := by rw [hV]; rfl
    have v15 : V 15 = (.pointer (some ⟨q, 0, none⟩)) := by rw [hV]; rfl
    have v16 : V 16 = (.pointer (some ⟨q, 3, none⟩)) := by rw [hV]; rfl
    have v17 : V 17 = (.bool s.down) := by rw [hV]; rfl
    clear hV
    refine wp_region_listed (C := CpC w) (R := CpR V w.heap.size s) (by kernel_rfl) (by kernel_rfl) (by kernel_rfl) ?_ (CpC.start w) ?_ ?_
    · exact sizes_spec (n := 23) (by kernel_rfl)
    · intro i o listed a w1 ho hi hL
      have hin := (ready_spec hi).1
      have hsz : listed.size = 21 := hL.size
      match i, ho with
      | 0, ho =>
        obtain rfl := (Option.some.inj ho).symm
        have hc := hL.cls
        have hl : listed.getD 0 false = false := by rw [getD_of_size (by rw [hsz]; exact hin)]; exact (ready_spec hi).2.1
        clear ho hL
        refine step_wp rfl rfl ?_
        have hz := Lib.hid (hc.none_ hl)
        have hcl := Lib.hid (hc.laid hsz hin hl)
        clear hi
        unfold Oper.wp execOp
        go_simp
        rw [← hz.out] at v0
        exact ⟨_, rfl, cpR_mk (by omega) v0.symm, hcl.out, fun j u _ h => cpR_alloc h _⟩
      | 1, ho =>
        obtain rfl := (Option.some.inj ho).symm
        have e0 : a.tmps[0]?.getD undef = (.pointer (some ⟨q, 0, none⟩)) := (slot_eval a 0).trans (hL.get_old hi (by kernel_rfl))
        have hc := hL.cls
        refine step_wp rfl rfl ?_
        clear ho hL
        refine wp_val (v := (.pointer (some ⟨q, 0, none⟩))) ?_ ⟨_, rfl, cpR_mk (by omega) v1.symm, hc.same hsz hin (by omega), fun _ _ _ h => h⟩
        clear hi hin hsz v0 v1 v2 v3 v4 v6 v7 v8 v9 v10 v11 v12 v13 v14 v15 v16 v17  hc
        unfold execOp
        go_simp
      | 2, ho =>
        obtain rfl := (Option.some.inj ho).symm
        have e0 : a.tmps[4]?.getD undef = (.pointer (some ⟨q, 0, none⟩)) := (slot_eval a 4).trans ((cpR_at (by omega) (hL.get_new (j := 1) hi (by kernel_rfl))).trans v1)
        have hc := hL.cls
        refine step_wp rfl rfl ?_
        clear ho hL
        refine wp_val (v := (.pointer (some ⟨q, 0, none⟩))) ?_ ⟨_, rfl, cpR_mk (by omega) v2.symm, hc.same hsz hin (by omega), fun _ _ _ h => h⟩
        have q0 := (hR.below hc.bel).c0
        have q1 := (hR.below hc.bel).c1
        have q2 := (hR.below hc.bel).c2
        have q3 := (hR.below hc.bel).c3
        clear hi hin hsz v0 v1 v2 v3 v4 v6 v7 v8 v9 v10 v11 v12 v13 v14 v15 v16 v17  hc
        unfold execOp
        go_simp
      | 3, ho =>
        obtain rfl := (Option.some.inj ho).symm
        have e0 : a.tmps[5]?.getD undef = (.pointer (some ⟨q, 0, none⟩)) := (slot_eval a 5).trans ((cpR_at (by omega) (hL.get_new (j := 2) hi (by kernel_rfl))).trans v2)
        have hc := hL.cls
        refine step_wp rfl rfl ?_
        clear ho hL
        refine wp_val (v := (.pointer (some ⟨q, 0, none⟩))) ?_ ⟨_, rfl, cpR_mk (by omega) v3.symm, hc.same hsz hin (by omega), fun _ _ _ h => h⟩
        have q0 := (hR.below hc.bel).c0
        have q1 := (hR.below hc.bel).c1
        have q2 := (hR.below hc.bel).c2
        have q3 := (hR.below hc.bel).c3
        clear hi hin hsz v0 v1 v2 v3 v4 v6 v7 v8 v9 v10 v11 v12 v13 v14 v15 v16 v17  hc
        unfold execOp
        go_simp
      | 4, ho =>
        obtain rfl := (Option.some.inj ho).symm
        have e0 : a.tmps[6]?.getD undef = (.pointer (some ⟨q, 0, none⟩)) := (slot_eval a 6).trans ((cpR_at (by omega) (hL.get_new (j := 3) hi (by kernel_rfl))).trans v3)
        have hc := hL.cls
        refine step_wp rfl rfl ?_
        clear ho hL
        refine wp_val (v := (.slice (some ⟨g, 0, none⟩) s.l.length cap)) ?_ ⟨_, rfl, cpR_mk (by omega) v4.symm, hc.same hsz hin (by omega), fun _ _ _ h => h⟩
        have q0 := (hR.below hc.bel).c0
        have q1 := (hR.below hc.bel).c1
        have q2 := (hR.below hc.bel).c2
        have q3 := (hR.below hc.bel).c3
        clear hi hin hsz v0 v1 v2 v3 v4 v6 v7 v8 v9 v10 v11 v12 v13 v14 v15 v16 v17  hc
        unfold execOp
        go_simp
      | 5, ho =>
        obtain rfl := (Option.some.inj ho).symm
        have e0 : a.tmps[3]?.getD undef = (.slice (some ⟨w.heap.size, 0, none⟩) 0 0) := (slot_eval a 3).trans ((cpR_at (by omega) (hL.get_new (j := 0) hi (by kernel_rfl))).trans v0)
        have e1 : a.tmps[7]?.getD undef = (.slice (some ⟨g, 0, none⟩) s.l.length cap) := (slot_eval a 7).trans ((cpR_at (by omega) (hL.get_new (j := 4) hi (by kernel_rfl))).trans v4)
        have hc := hL.cls
        have hl : listed.getD 5 false = false := by rw [getD_of_size (by rw [hsz]; exact hin)]; exact (ready_spec hi).2.1
        have hl0 := hL.before (j := 0) hi (by kernel_rfl)
        have l18 := hL.later (j := 18) hi (by kernel_rfl)
        have l19 := hL.later2 (j := 19) l18 (by kernel_rfl)
        have l20 := hL.later2 (j := 20) l19 (by kernel_rfl)
        have hown := hc.own hl0 hl
        clear ho hL
        refine step_wp rfl rfl ?_
        have hnw := ((hrow.below hc.bel).range_from (fileK hok) 0)
        refine wp_append_own w1 (.tmp 3) (.tmp 7) 28 rfl w.heap.size 51 it zFile 2 32 Try.rfileTy.ht i1 i2 i3 i4 Try.rfileTy.hzs Try.rfileTy.hsz _ 0 (rowsOf fileC []) ((slot_eval a 3).symm.trans e0) hown ⟨g, 0, none⟩ s.l.length cap (rowsOf fileC s.l) ((slot_eval a 7).symm.trans e1) (rowsOf_length (fileK hok)) (range_news (by simpa using hnw)) (fileOne s.l) (by simp only [maxLen]; omega) (by omega) hc.bel.size ?_
        intro v5 w5 hown5 hg5 _
        have hown5' : OwnRF w5 w.heap.size v5 s.l := by
          rw [Nat.zero_add] at hown5
          exact hown5
        exact ⟨_, rfl, cpR_5 hown5', hc.appended hsz hin (hc.bel.grown hg5 hc.bel.size (fun k hk => (World.ownsRow.lt hown k hk).1)) hl0, fun j u hj h => cpR_fixed (by rintro (rfl | rfl | rfl | rfl) <;> simp_all) h⟩
      | 6, ho =>
        obtain rfl := (Option.some.inj ho).symm
        have e0 : a.tmps[0]?.getD undef = (.pointer (some ⟨q, 0, none⟩)) := (slot_eval a 0).trans (hL.get_old hi (by kernel_rfl))
        have hc := hL.cls
        refine step_wp rfl rfl ?_
        clear ho hL
        refine wp_val (v := (.pointer (some ⟨q, 0, none⟩))) ?_ ⟨_, rfl, cpR_mk (by omega) v6.symm, hc.same hsz hin (by omega), fun _ _ _ h => h⟩
        clear hi hin hsz v0 v1 v2 v3 v4 v6 v7 v8 v9 v10 v11 v12 v13 v14 v15 v16 v17  hc
        unfold execOp
        go_simp
      | 7, ho =>
        obtain rfl := (Option.some.inj ho).symm
        have e0 : a.tmps[9]?.getD undef = (.pointer (some ⟨q, 0, none⟩)) := (slot_eval a 9).trans ((cpR_at (by omega) (hL.get_new (j := 6) hi (by kernel_rfl))).trans v6)
        have hc := hL.cls
        refine step_wp rfl rfl ?_
        clear ho hL
        refine wp_val (v := (.pointer (some ⟨q, 0, none⟩))) ?_ ⟨_, rfl, cpR_mk (by omega) v7.symm, hc.same hsz hin (by omega), fun _ _ _ h => h⟩
        have q0 := (hR.below hc.bel).c0
        have q1 := (hR.below hc.bel).c1
        have q2 := (hR.below hc.bel).c2
        have q3 := (hR.below hc.bel).c3
        clear hi hin hsz v0 v1 v2 v3 v4 v6 v7 v8 v9 v10 v11 v12 v13 v14 v15 v16 v17  hc
        unfold execOp
        go_simp
      | 8, ho =>
        obtain rfl := (Option.some.inj ho).symm
        have e0 : a.tmps[10]?.getD undef = (.pointer (some ⟨q, 0, none⟩)) := (slot_eval a 10).trans ((cpR_at (by omega) (hL.get_new (j := 7) hi (by kernel_rfl))).trans v7)
        have hc := hL.cls
        refine step_wp rfl rfl ?_
        clear ho hL
        refine wp_val (v := (.pointer (some ⟨q, 1, none⟩))) ?_ ⟨_, rfl, cpR_mk (by omega) v8.symm, hc.same hsz hin (by omega), fun _ _ _ h => h⟩
        have q0 := (hR.below hc.bel).c0
        have q1 := (hR.below hc.bel).c1
        have q2 := (hR.below hc.bel).c2
        have q3 := (hR.below hc.bel).c3
        clear hi hin hsz v0 v1 v2 v3 v4 v6 v7 v8 v9 v10 v11 v12 v13 v14 v15 v16 v17  hc
        unfold execOp
        go_simp
      | 9, ho =>
        obtain rfl := (Option.some.inj ho).symm
        have e0 : a.tmps[11]?.getD undef = (.pointer (some ⟨q, 1, none⟩)) := (slot_eval a 11).trans ((cpR_at (by omega) (hL.get_new (j := 8) hi (by kernel_rfl))).trans v8)
        have hc := hL.cls
        refine step_wp rfl rfl ?_
        clear ho hL
        refine wp_val (v := (.int .i64 s.fuse)) ?_ ⟨_, rfl, cpR_mk (by omega) v9.symm, hc.same hsz hin (by omega), fun _ _ _ h => h⟩
        have q0 := (hR.below hc.bel).c0
        have q1 := (hR.below hc.bel).c1
        have q2 := (hR.below hc.bel).c2
        have q3 := (hR.below hc.bel).c3
        clear hi hin hsz v0 v1 v2 v3 v4 v6 v7 v8 v9 v10 v11 v12 v13 v14 v15 v16 v17  hc
        unfold execOp
        go_simp
      | 10, ho =>
        obtain rfl := (Option.some.inj ho).symm
        have e0 : a.tmps[0]?.getD undef = (.pointer (some ⟨q, 0, none⟩)) := (slot_eval a 0).trans (hL.get_old hi (by kernel_rfl))
        have hc := hL.cls
        refine step_wp rfl rfl ?_
        clear ho hL
        refine wp_val (v := (.pointer (some ⟨q, 0, none⟩))) ?_ ⟨_, rfl, cpR_mk (by omega) v10.symm, hc.same hsz hin (by omega), fun _ _ _ h => h⟩
        clear hi hin hsz v0 v1 v2 v3 v4 v6 v7 v8 v9 v10 v11 v12 v13 v14 v15 v16 v17  hc
        unfold execOp
        go_simp
      | 11, ho =>
        obtain rfl := (Option.some.inj ho).symm
        have e0 : a.tmps[13]?.getD undef = (.pointer (some ⟨q, 0, none⟩)) := (slot_eval a 13).trans ((cpR_at (by omega) (hL.get_new (j := 10) hi (by kernel_rfl))).trans v10)
        have hc := hL.cls
        refine step_wp rfl rfl ?_
        clear ho hL
        refine wp_val (v := (.pointer (some ⟨q, 0, none⟩))) ?_ ⟨_, rfl, cpR_mk (by omega) v11.symm, hc.same hsz hin (by omega), fun _ _ _ h => h⟩
        have q0 := (hR.below hc.bel).c0
        have q1 := (hR.below hc.bel).c1
        have q2 := (hR.below hc.bel).c2
        have q3 := (hR.below hc.bel).c3
        clear hi hin hsz v0 v1 v2 v3 v4 v6 v7 v8 v9 v10 v11 v12 v13 v14 v15 v16 v17  hc
        unfold execOp
        go_simp
      | 12, ho =>
        obtain rfl := (Option.some.inj ho).symm
        have e0 : a.tmps[14]?.getD undef = (.pointer (some ⟨q, 0, none⟩)) := (slot_eval a 14).trans ((cpR_at (by omega) (hL.get_new (j := 11) hi (by kernel_rfl))).trans v11)
        have hc := hL.cls
        refine step_wp rfl rfl ?_
        clear ho hL
        refine wp_val (v := (.pointer (some ⟨q, 2, none⟩))) ?_ ⟨_, rfl, cpR_mk (by omega) v12.symm, hc.same hsz hin (by omega), fun _ _ _ h => h⟩
        have q0 := (hR.below hc.bel).c0
        have q1 := (hR.below hc.bel).c1
        have q2 := (hR.below hc.bel).c2
        have q3 := (hR.below hc.bel).c3
        clear hi hin hsz v0 v1 v2 v3 v4 v6 v7 v8 v9 v10 v11 v12 v13 v14 v15 v16 v17  hc
        unfold execOp
        go_simp
      | 13, ho =>
        obtain rfl := (Option.some.inj ho).symm
        have e0 : a.tmps[15]?.getD undef = (.pointer (some ⟨q, 2, none⟩)) := (slot_eval a 15).trans ((cpR_at (by omega) (hL.get_new (j := 12) hi (by kernel_rfl))).trans v12)
        have hc := hL.cls
        refine step_wp rfl rfl ?_
        clear ho hL
        refine wp_val (v := (.int .i64 s.part)) ?_ ⟨_, rfl, cpR_mk (by omega) v13.symm, hc.same hsz hin (by omega), fun _ _ _ h => h⟩
        have q0 := (hR.below hc.bel).c0
        have q1 := (hR.below hc.bel).c1
        have q2 := (hR.below hc.bel).c2
        have q3 := (hR.below hc.bel).c3
        clear hi hin hsz v0 v1 v2 v3 v4 v6 v7 v8 v9 v10 v11 v12 v13 v14 v15 v16 v17  hc
        unfold execOp
        go_simp
      | 14, ho =>
        obtain rfl := (Option.some.inj ho).symm
        have e0 : a.tmps[0]?.getD undef = (.pointer (some ⟨q, 0, none⟩)) := (slot_eval a 0).trans (hL.get_old hi (by kernel_rfl))
        have hc := hL.cls
        refine step_wp rfl rfl ?_
        clear ho hL
        refine wp_val (v := (.pointer (some ⟨q, 0, none⟩))) ?_ ⟨_, rfl, cpR_mk (by omega) v14.symm, hc.same hsz hin (by omega), fun _ _ _ h => h⟩
        clear hi hin hsz v0 v1 v2 v3 v4 v6 v7 v8 v9 v10 v11 v12 v13 v14 v15 v16 v17  hc
        unfold execOp
        go_simp
      | 15, ho =>
        obtain rfl := (Option.some.inj ho).symm
        have e0 : a.tmps[17]?.getD undef = (.pointer (some ⟨q, 0, none⟩)) := (slot_eval a 17).trans ((cpR_at (by omega) (hL.get_new (j := 14) hi (by kernel_rfl))).trans v14)
        have hc := hL.cls
        refine step_wp rfl rfl ?_
        clear ho hL
        refine wp_val (v := (.pointer (some ⟨q, 0, none⟩))) ?_ ⟨_, rfl, cpR_mk (by omega) v15.symm, hc.same hsz hin (by omega), fun _ _ _ h => h⟩
        have q0 := (hR.below hc.bel).c0
        have q1 := (hR.below hc.bel).c1
        have q2 := (hR.below hc.bel).c2
        have q3 := (hR.below hc.bel).c3
        clear hi hin hsz v0 v1 v2 v3 v4 v6 v7 v8 v9 v10 v11 v12 v13 v14 v15 v16 v17  hc
        unfold execOp
        go_simp
      | 16, ho =>
        obtain rfl := (Option.some.inj ho).symm
        have e0 : a.tmps[18]?.getD undef = (.pointer (some ⟨q, 0, none⟩)) := (slot_eval a 18).trans ((cpR_at (by omega) (hL.get_new (j := 15) hi (by kernel_rfl))).trans v15)
        have hc := hL.cls
        refine step_wp rfl rfl ?_
        clear ho hL
        refine wp_val (v := (.pointer (some ⟨q, 3, none⟩))) ?_ ⟨_, rfl, cpR_mk (by omega) v16.symm, hc.same hsz hin (by omega), fun _ _ _ h => h⟩
        have q0 := (hR.below hc.bel).c0
        have q1 := (hR.below hc.bel).c1
        have q2 := (hR.below hc.bel).c2
        have q3 := (hR.below hc.bel).c3
        clear hi hin hsz v0 v1 v2 v3 v4 v6 v7 v8 v9 v10 v11 v12 v13 v14 v15 v16 v17  hc
        unfold execOp
        go_simp
      | 17, ho =>
        obtain rfl := (Option.some.inj ho).symm
        have e0 : a.tmps[19]?.getD undef = (.pointer (some ⟨q, 3, none⟩)) := (slot_eval a 19).trans ((cpR_at (by omega) (hL.get_new (j := 16) hi (by kernel_rfl))).trans v16)
        have hc := hL.cls
        refine step_wp rfl rfl ?_
        clear ho hL
        refine wp_val (v := (.bool s.down)) ?_ ⟨_, rfl, cpR_mk (by omega) v17.symm, hc.same hsz hin (by omega), fun _ _ _ h => h⟩
        have q0 := (hR.below hc.bel).c0
        have q1 := (hR.below hc.bel).c1
        have q2 := (hR.below hc.bel).c2
        have q3 := (hR.below hc.bel).c3
        clear hi hin hsz v0 v1 v2 v3 v4 v6 v7 v8 v9 v10 v11 v12 v13 v14 v15 v16 v17  hc
        unfold execOp
        go_simp
      | 18, ho =>
        obtain rfl := (Option.some.inj ho).symm
        have e0 := hL.get_new (j := 5) (t := 8) hi (by kernel_rfl)
        have e1 : a.tmps[12]?.getD undef = (.int .i64 s.fuse) := (slot_eval a 12).trans ((cpR_at (by omega) (hL.get_new (j := 9) hi (by kernel_rfl))).trans v9)
        have e2 : a.tmps[16]?.getD undef = (.int .i64 s.part) := (slot_eval a 16).trans ((cpR_at (by omega) (hL.get_new (j := 13) hi (by kernel_rfl))).trans v13)
        have e3 : a.tmps[20]?.getD undef = (.bool s.down) := (slot_eval a 20).trans ((cpR_at (by omega) (hL.get_new (j := 17) hi (by kernel_rfl))).trans v17)
        have hc := hL.cls
        obtain ⟨A5, c5, e5⟩ := own_form' (cpR_5at e0)
        have ho5 := cpR_5at e0
        rw [e5] at ho5
        have hb : Try.prog.built 30 [(0, .slice A5 s.l.length c5), (1, .int .i64 s.fuse), (2, .int .i64 s.part), (3, .bool s.down)] = some (diskC (.slice A5 s.l.length c5) s) := by kernel_rfl
        have hcl := Lib.hid (hc.same (i := 18) hsz hin (by omega))
        clear ho hL
        refine step_wp rfl rfl ?_
        have ev : ((#[(0, Operand.tmp 8), (1, Operand.tmp 12), (2, Operand.tmp 16), (3, Operand.tmp 20)] : Array (Nat × Operand)).map fun (i, x) => (i, a.eval x)).toList = [(0, .slice A5 s.l.length c5), (1, .int .i64 s.fuse), (2, .int .i64 s.part), (3, .bool s.down)] := by
          simp [e5, (slot_eval a 12).symm.trans e1, (slot_eval a 16).symm.trans e2, (slot_eval a 20).symm.trans e3]
        refine wp_build _ _ rfl (by rw [ev, hb]; rfl) ?_
        rw [ev, hb]
        first
          | exact ⟨_, rfl, cpR_18 ho5, hcl.out, fun _ _ _ h => h⟩
          | exact ⟨_, rfl, cpR_18 ho5, hcl.out⟩
      | 19, ho =>
        obtain rfl := (Option.some.inj ho).symm
        have e0 := hL.get_new (j := 18) (t := 21) hi (by kernel_rfl)
        have hc := hL.cls
        obtain ⟨v8, e8, ho8⟩ := cpR_18at e0
        have e9 : a.tmps[21]?.getD undef = .agg (diskC v8 s) := (slot_eval a 21).trans e8
        have l18 := hL.before (j := 18) hi (by kernel_rfl)
        have l5 := hL.earlier (j := 18) (k := 5) l18 (by kernel_rfl)
        have l0 := hL.earlier (j := 5) (k := 0) l5 (by kernel_rfl)
        have hcl := Lib.hid (hc.boxed hsz hin l0 l5)
        have hr := cpR_19 (i := 19) (V := V) (.inl rfl) (s := s) (v' := v8) (base := w.heap.size) hc.bel.size (Blk.new w1 30 (diskC v8 s)) (World.ownsRow.alloc ho8 _)
        clear ho hL hi e0 e8
        refine step_wp rfl rfl ?_
        unfold Oper.wp execOp
        go_simp
        exact ⟨_, rfl, hr, hcl.out _, fun j u _ h => cpR_alloc h _⟩
      | 20, ho =>
        obtain rfl := (Option.some.inj ho).symm
        have e0 := hL.get_new (j := 19) (t := 22) hi (by kernel_rfl)
        have hc := hL.cls
        obtain ⟨v8, q8, e8, hq8, hb8, ho8⟩ := cpR_19at (.inl rfl) e0
        have e9 : a.tmps[22]?.getD undef = .pointer (some ⟨q8, 0, none⟩) := (slot_eval a 22).trans e8
        have hcl := Lib.hid (hc.same (i := 20) hsz hin (by omega))
        have hr := cpR_19 (i := 20) (V := V) (.inr rfl) hq8 hb8 ho8
        clear ho hL hi e0 e8
        refine step_wp rfl rfl ?_
        unfold Oper.wp execOp
        go_simp
        first
          | exact ⟨_, rfl, hr, hcl.out, fun _ _ _ h => h⟩
          | exact ⟨_, rfl, hr, hcl.out⟩
      | (n + 21), ho => exact absurd hin (by simp)
    · intro a w1 listed hL hall
      have hc := hL.cls
      obtain ⟨vs, rfl, hRR⟩ := hL.frame (by kernel_rfl) (sizes_spec (n := 23) (by kernel_rfl)) hall
      simp only [putAll, Act.put, List.setIfInBounds_toArray, List.set_cons_zero, List.set_cons_succ]
      simp only [Nat.zero_add, Nat.reduceAdd]
      obtain ⟨v8, q8, e8, hq8, hb8, ho8⟩ := cpR_19at (.inr rfl) (hRR 20 _ 2 rfl rfl)
      rw [e8]
      have hbel := hc.bel
      clear hRR hc hL
      go_wp2
      go_ret
      exact ⟨q8, v8, rfl, ⟨hb8, ho8, hdk⟩, hq8, hbel⟩
end Go.Proofs.Ytejaeclcgkcklaa
