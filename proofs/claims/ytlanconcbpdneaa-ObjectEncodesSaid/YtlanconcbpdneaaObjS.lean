/- The walk of layer 4: knapsackref04.May, at the other kinds. No condition. -/
import Derived.Test.YtlanconcbpdneaaObjR
namespace Go.Proofs.Ytlanconcbpdneaa
open Go.RowKit
attribute [local go_sem ↓] ldvI_eq
theorem kind_eq (n : Int) : (n < 1 → kindB n = false) ∧ (4 < n → kindB n = false) ∧ (¬ n < 1 → ¬ 4 < n → kindB n = true) := by
  unfold kindB
  refine ⟨fun h => ?_, fun h => ?_, fun h1 h2 => ?_⟩
  · rw [decide_eq_false (p := 1 ≤ n) (by omega)]; rfl
  · rw [decide_eq_false (p := n ≤ 4) (by omega)]; simp
  · rw [decide_eq_true (p := 1 ≤ n) (by omega), decide_eq_true (p := n ≤ 4) (by omega)]; rfl
set_option maxRecDepth 100000 in
set_option maxHeartbeats 4000000 in
theorem refMay_calls1 (o : ObjL) (hk : o.kind = 1) (A1 A2 : Option Addr) (k1 k2 : Nat) (w : World) (hv : ObjV w (.slice A1 o.ents.length k1) (.slice A2 o.pars.length k2) o) : Calls Try.prog 24 #[.agg (objC o (.slice A1 o.ents.length k1) (.slice A2 o.pars.length k2)).toArray] w fun e w' => e = .returned (.bool (mayB o)) ∧ Below w.heap.size w w' := by
  have ho := hv.ok
  have hO := boxed (w := w) (ve := .slice A1 o.ents.length k1) (vp := .slice A2 o.pars.length k2) ho
  have b0 : Below w.heap.size w (w.alloc (.cells (objC o (.slice A1 o.ents.length k1) (.slice A2 o.pars.length k2)).toArray 28)) := (Below.refl _ _).alloc (Nat.le_refl _) _
  have hv0 := hv.below b0
  obtain ⟨W0, hW0⟩ : ∃ W0, w.alloc (.cells (objC o (.slice A1 o.ents.length k1) (.slice A2 o.pars.length k2)).toArray 28) = W0 := ⟨_, rfl⟩
  rw [hW0] at hO b0 hv0
  have c0 := hO.kind
  have g1 := fun W => run_ldvI_at (w := W) (g := w.heap.size) (o := 3) (l := o.tree)
  have g2 := fun W => run_ldvI_at (w := W) (g := w.heap.size) (o := 38) (l := o.target)
  have z1 := fun W => equalIn_zero o.tree ho.tree W
  have z2 := fun W => equalIn_zero o.target ho.target W
  have e1 := Lib.hid (commit_eq o)
  have e2 := Lib.hid (tag_eq o)
  have ht : o.time < 4294967296 := ho.time
  obtain ⟨r, hr⟩ : ∃ r, Hid (r = mayB o) := ⟨_, Lib.hid rfl⟩
  rw [← hr.out]
  have hr2 := hr.out
  rw [may_one o hk, commit_eq, tag_eq] at hr2
  replace hr2 := Lib.hid hr2
  rw [hk] at c0
  have htr := Lib.hid ho.tree
  have hta := Lib.hid ho.target
  obtain ⟨Ez, hEz⟩ : ∃ Ez, treeN o = Ez := ⟨_, rfl⟩
  have hE1 : Hid (0 < o.ents.length → Ez = false) := fun h => by rw [← hEz]; unfold treeN; rw [beq_eq_false_iff_ne]; omega
  have hE2 : Hid (¬ 0 < o.ents.length → Ez = true) := fun h => by rw [← hEz]; unfold treeN; rw [beq_iff_eq]; omega
  have hr1 := hr2.out
  rw [hEz] at hr1
  replace hr2 := Lib.hid hr1
  clear hEz hr1
  clear hr ho hv e1 e2
  generalize decide (o.tree = List.replicate 32 0) = T at *
  generalize decide (o.target = List.replicate 32 0) = G at *
  obtain ⟨Pz, hPz⟩ : ∃ Pz, decide ((o.pars.length : Int) = 0) = Pz := ⟨_, rfl⟩
  have hP1 : 0 < o.pars.length → Pz = false := fun h => by rw [← hPz]; exact decide_eq_false (by omega)
  have hP2 : ¬ 0 < o.pars.length → Pz = true := fun h => by rw [← hPz]; exact decide_eq_true (by omega)
  replace hP1 := Lib.hid hP1
  replace hP2 := Lib.hid hP2
  have hr3 := hr2.out
  rw [hPz] at hr3
  replace hr2 := Lib.hid hr3
  clear hPz hr3
  generalize hcs : (objC o (.slice A1 o.ents.length k1) (.slice A2 o.pars.length k2)).toArray = cs at *
  clear hcs
  have s0 := b0.size
  go_enter Try.func24, Try.ntmps24
  go_upto_region 4 with (first
    | ((with_reducible refine lit_new_zero (.tmp 3) (.tmp 16) _ ?_ ?_ ?_ ?_); rfl; rfl; rfl
       intro W1 hb1 hbl1
       have hO1 := hO.below hbl1
       have c1 := hO1.data
       have c2 := hO1.ents
       have c35 := hO1.pars
       have c36 := hO1.time
       have c37 := hO1.text
       have c70 := hO1.of_
       have c71 := hO1.name
       have c0' := hO1.kind
       rw [hk] at c0'
       have q1 := g1 W1 hO1.tree htr.out
       have q2 := g2 W1 hO1.target hta.out
       have q3 := run_zero hb1))
  clear c0 hO hb1 htr hta g1 g2 hW0
  have b1 := b0.trans (hbl1.mono s0)
  have sz1 := Nat.le_trans s0 hbl1.size
  clear b0 hbl1 hv0
  go_upto_region 16 with fail
  all_goals try (exfalso; omega)
  all_goals try
    (go_ret
     refine ⟨?_, b1⟩
     rw [hr2.out]
     have hP1 := hP1.out
     have hP2 := hP2.out
     have hE1 := hE1.out
     have hE2 := hE2.out
     clear z1 z2 c1 c2 c35 c36 c37 c70 c71 q1 q2 q3 hO1 c0' hr2
     simp_all
     done)
  have hrT : Hid (r = true) := by
    show r = true
    rw [hr2.out]
    have hP1 := hP1.out
    have hP2 := hP2.out
    have hE1 := hE1.out
    have hE2 := hE2.out
    clear z1 z2 c1 c2 c35 c36 c37 c70 c71 q1 q2 q3 hO1 c0' hr2
    simp_all
  have hn0 : ¬ 0 < o.ents.length := by assumption
  have hni : ¬ (0 : Int) < (o.ents.length : Int) := by omega
  clear hr2 z1 z2 c1 c35 c36 c37 c70 c71 q1 q2 q3 c0' ht
  go_cut [5] (fun s5 wx => s5 = .int .i64 0 ∧ wx = W1)
  case first =>
    go_wp2
    go_meet
    case rel => exact ⟨rfl, rfl⟩
  obtain ⟨rfl, rfl⟩ := hcut
  go_wp2
  go_loopw [5] (fun vi wr => vi = .int .i64 0 ∧ wr = wc) (fun _ _ => 0)
  case atStart => exact ⟨rfl, rfl⟩
  case round =>
    obtain ⟨rfl, rfl⟩ := hrel
    go_wp2
    go_ret
    exact ⟨by rw [hrT.out]; rfl, b1⟩
set_option maxRecDepth 100000 in
set_option maxHeartbeats 4000000 in
theorem refMay_calls3 (o : ObjL) (hk : o.kind = 3) (A1 A2 : Option Addr) (k1 k2 : Nat) (w : World) (hv : ObjV w (.slice A1 o.ents.length k1) (.slice A2 o.pars.length k2) o) : Calls Try.prog 24 #[.agg (objC o (.slice A1 o.ents.length k1) (.slice A2 o.pars.length k2)).toArray] w fun e w' => e = .returned (.bool (mayB o)) ∧ Below w.heap.size w w' := by
  have ho := hv.ok
  have hO := boxed (w := w) (ve := .slice A1 o.ents.length k1) (vp := .slice A2 o.pars.length k2) ho
  have b0 : Below w.heap.size w (w.alloc (.cells (objC o (.slice A1 o.ents.length k1) (.slice A2 o.pars.length k2)).toArray 28)) := (Below.refl _ _).alloc (Nat.le_refl _) _
  have hv0 := hv.below b0
  obtain ⟨W0, hW0⟩ : ∃ W0, w.alloc (.cells (objC o (.slice A1 o.ents.length k1) (.slice A2 o.pars.length k2)).toArray 28) = W0 := ⟨_, rfl⟩
  rw [hW0] at hO b0 hv0
  have c0 := hO.kind
  have g1 := fun W => run_ldvI_at (w := W) (g := w.heap.size) (o := 3) (l := o.tree)
  have g2 := fun W => run_ldvI_at (w := W) (g := w.heap.size) (o := 38) (l := o.target)
  have z1 := fun W => equalIn_zero o.tree ho.tree W
  have z2 := fun W => equalIn_zero o.target ho.target W
  have e1 := Lib.hid (commit_eq o)
  have e2 := Lib.hid (tag_eq o)
  have ht : o.time < 4294967296 := ho.time
  obtain ⟨r, hr⟩ : ∃ r, Hid (r = mayB o) := ⟨_, Lib.hid rfl⟩
  rw [← hr.out]
  have hr2 := hr.out
  rw [may_three o hk, tag_eq] at hr2
  have hX : blobN o = List.isEmpty o.data := rfl
  rw [hX] at hr2
  replace hr2 := Lib.hid hr2
  rw [hk] at c0
  have htr := Lib.hid ho.tree
  have hta := Lib.hid ho.target
  obtain ⟨Ez, hEz⟩ : ∃ Ez, treeN o = Ez := ⟨_, rfl⟩
  have hE1 : Hid (0 < o.ents.length → Ez = false) := fun h => by rw [← hEz]; unfold treeN; rw [beq_eq_false_iff_ne]; omega
  have hE2 : Hid (¬ 0 < o.ents.length → Ez = true) := fun h => by rw [← hEz]; unfold treeN; rw [beq_iff_eq]; omega
  have hr1 := hr2.out
  rw [hEz] at hr1
  replace hr2 := Lib.hid hr1
  clear hEz hr1
  clear hr ho hX hv e1 e2
  generalize decide (o.tree = List.replicate 32 0) = T at *
  generalize decide (o.target = List.replicate 32 0) = G at *
  obtain ⟨Pz, hPz⟩ : ∃ Pz, decide (o.pars.length ≤ 8) = Pz := ⟨_, rfl⟩
  have hP1 : (8 : Int) < (o.pars.length : Int) → Pz = false := fun h => by rw [← hPz]; exact decide_eq_false (by omega)
  have hP2 : (o.pars.length : Int) ≤ 8 → Pz = true := fun h => by rw [← hPz]; exact decide_eq_true (by omega)
  replace hP1 := Lib.hid hP1
  replace hP2 := Lib.hid hP2
  have hr3 := hr2.out
  rw [hPz] at hr3
  replace hr2 := Lib.hid hr3
  clear hPz hr3
  generalize hcs : (objC o (.slice A1 o.ents.length k1) (.slice A2 o.pars.length k2)).toArray = cs at *
  clear hcs
  have s0 := b0.size
  go_enter Try.func24, Try.ntmps24
  go_upto_region 4 with (first
    | ((with_reducible refine lit_new_zero (.tmp 3) (.tmp 16) _ ?_ ?_ ?_ ?_); rfl; rfl; rfl
       intro W1 hb1 hbl1
       have hO1 := hO.below hbl1
       have c1 := hO1.data
       have c2 := hO1.ents
       have c35 := hO1.pars
       have c36 := hO1.time
       have c37 := hO1.text
       have c70 := hO1.of_
       have c71 := hO1.name
       have c0' := hO1.kind
       rw [hk] at c0'
       have q1 := g1 W1 hO1.tree htr.out
       have q2 := g2 W1 hO1.target hta.out
       have q3 := run_zero hb1))
  clear c0 hO hb1 htr hta g1 g2 hW0
  have b1 := b0.trans (hbl1.mono s0)
  have sz1 := Nat.le_trans s0 hbl1.size
  clear b0 hbl1 hv0
  go_upto_region 16 with fail
  all_goals try (exfalso; omega)
  all_goals try
    (go_ret
     refine ⟨?_, b1⟩
     rw [hr2.out]
     have hP1 := hP1.out
     have hP2 := hP2.out
     have hE1 := hE1.out
     have hE2 := hE2.out
     clear z1 z2 c1 c2 c35 c36 c37 c70 c71 q1 q2 q3 hO1 c0' hr2
     simp_all
     done)
  have hrT : Hid (r = true) := by
    show r = true
    rw [hr2.out]
    have hP1 := hP1.out
    have hP2 := hP2.out
    have hE1 := hE1.out
    have hE2 := hE2.out
    clear z1 z2 c1 c2 c35 c36 c37 c70 c71 q1 q2 q3 hO1 c0' hr2
    simp_all
  have hn0 : ¬ 0 < o.ents.length := by assumption
  have hni : ¬ (0 : Int) < (o.ents.length : Int) := by omega
  clear hr2 z1 z2 c1 c35 c36 c37 c70 c71 q1 q2 q3 c0' ht
  go_cut [5] (fun s5 wx => s5 = .int .i64 0 ∧ wx = W1)
  case first =>
    go_wp2
    go_meet
    case rel => exact ⟨rfl, rfl⟩
  obtain ⟨rfl, rfl⟩ := hcut
  go_wp2
  go_loopw [5] (fun vi wr => vi = .int .i64 0 ∧ wr = wc) (fun _ _ => 0)
  case atStart => exact ⟨rfl, rfl⟩
  case round =>
    obtain ⟨rfl, rfl⟩ := hrel
    go_wp2
    go_ret
    exact ⟨by rw [hrT.out]; rfl, b1⟩
set_option maxRecDepth 100000 in
set_option maxHeartbeats 4000000 in
theorem refMay_calls4 (o : ObjL) (hk : o.kind = 4) (A1 A2 : Option Addr) (k1 k2 : Nat) (w : World) (hv : ObjV w (.slice A1 o.ents.length k1) (.slice A2 o.pars.length k2) o) : Calls Try.prog 24 #[.agg (objC o (.slice A1 o.ents.length k1) (.slice A2 o.pars.length k2)).toArray] w fun e w' => e = .returned (.bool (mayB o)) ∧ Below w.heap.size w w' := by
  have ho := hv.ok
  have hO := boxed (w := w) (ve := .slice A1 o.ents.length k1) (vp := .slice A2 o.pars.length k2) ho
  have b0 : Below w.heap.size w (w.alloc (.cells (objC o (.slice A1 o.ents.length k1) (.slice A2 o.pars.length k2)).toArray 28)) := (Below.refl _ _).alloc (Nat.le_refl _) _
  have hv0 := hv.below b0
  obtain ⟨W0, hW0⟩ : ∃ W0, w.alloc (.cells (objC o (.slice A1 o.ents.length k1) (.slice A2 o.pars.length k2)).toArray 28) = W0 := ⟨_, rfl⟩
  rw [hW0] at hO b0 hv0
  have c0 := hO.kind
  have g1 := fun W => run_ldvI_at (w := W) (g := w.heap.size) (o := 3) (l := o.tree)
  have g2 := fun W => run_ldvI_at (w := W) (g := w.heap.size) (o := 38) (l := o.target)
  have z1 := fun W => equalIn_zero o.tree ho.tree W
  have z2 := fun W => equalIn_zero o.target ho.target W
  have e1 := Lib.hid (commit_eq o)
  have e2 := Lib.hid (tag_eq o)
  have ht : o.time < 4294967296 := ho.time
  obtain ⟨r, hr⟩ : ∃ r, Hid (r = mayB o) := ⟨_, Lib.hid rfl⟩
  rw [← hr.out]
  have hr2 := hr.out
  rw [may_four o hk, commit_eq] at hr2
  have hX : blobN o = List.isEmpty o.data := rfl
  rw [hX] at hr2
  replace hr2 := Lib.hid hr2
  rw [hk] at c0
  have htr := Lib.hid ho.tree
  have hta := Lib.hid ho.target
  obtain ⟨Ez, hEz⟩ : ∃ Ez, treeN o = Ez := ⟨_, rfl⟩
  have hE1 : Hid (0 < o.ents.length → Ez = false) := fun h => by rw [← hEz]; unfold treeN; rw [beq_eq_false_iff_ne]; omega
  have hE2 : Hid (¬ 0 < o.ents.length → Ez = true) := fun h => by rw [← hEz]; unfold treeN; rw [beq_iff_eq]; omega
  have hr1 := hr2.out
  rw [hEz] at hr1
  replace hr2 := Lib.hid hr1
  clear hEz hr1
  clear hr ho hX hv e1 e2
  generalize decide (o.tree = List.replicate 32 0) = T at *
  generalize decide (o.target = List.replicate 32 0) = G at *
  obtain ⟨Pz, hPz⟩ : ∃ Pz, decide ((o.pars.length : Int) = 0) = Pz := ⟨_, rfl⟩
  have hP1 : 0 < o.pars.length → Pz = false := fun h => by rw [← hPz]; exact decide_eq_false (by omega)
  have hP2 : ¬ 0 < o.pars.length → Pz = true := fun h => by rw [← hPz]; exact decide_eq_true (by omega)
  replace hP1 := Lib.hid hP1
  replace hP2 := Lib.hid hP2
  have hr3 := hr2.out
  rw [hPz] at hr3
  replace hr2 := Lib.hid hr3
  clear hPz hr3
  obtain ⟨k1', k2', k3'⟩ := kind_eq o.of_
  have hK1 := Lib.hid k1'
  have hK2 := Lib.hid k2'
  have hK3 := Lib.hid k3'
  have hnm := fun W => Lib.hid (refName_calls o.name hv0.ok.name W)
  clear k1' k2' k3'
  generalize kindB o.of_ = K at *
  generalize nameB o.name = N at *
  generalize hcs : (objC o (.slice A1 o.ents.length k1) (.slice A2 o.pars.length k2)).toArray = cs at *
  clear hcs
  have s0 := b0.size
  go_enter Try.func24, Try.ntmps24
  go_upto_region 4 with (first
    | ((with_reducible refine lit_new_zero (.tmp 3) (.tmp 16) _ ?_ ?_ ?_ ?_); rfl; rfl; rfl
       intro W1 hb1 hbl1
       have hO1 := hO.below hbl1
       have c1 := hO1.data
       have c2 := hO1.ents
       have c35 := hO1.pars
       have c36 := hO1.time
       have c37 := hO1.text
       have c70 := hO1.of_
       have c71 := hO1.name
       have c0' := hO1.kind
       rw [hk] at c0'
       have q1 := g1 W1 hO1.tree htr.out
       have q2 := g2 W1 hO1.target hta.out
       have q3 := run_zero hb1))
  clear c0 hO hb1 htr hta g1 g2 hW0
  have b1 := b0.trans (hbl1.mono s0)
  have sz1 := Nat.le_trans s0 hbl1.size
  clear b0 hbl1 hv0
  go_upto_region 16 with (first
    | ((with_reducible refine (hnm _).out.mono ?_); rintro e w3 ⟨rfl, hw3⟩; rw [hw3]; clear hw3))
  all_goals try (exfalso; omega)
  all_goals try
    (go_ret
     refine ⟨?_, b1⟩
     rw [hr2.out]
     have hP1 := hP1.out
     have hP2 := hP2.out
     have hE1 := hE1.out
     have hE2 := hE2.out
     have hK1 := hK1.out
     have hK2 := hK2.out
     have hK3 := hK3.out
     clear z1 z2 c1 c2 c35 c36 c37 c70 c71 q1 q2 q3 hO1 c0' hr2
     simp_all
     done)
  have hrT : Hid (r = true) := by
    show r = true
    rw [hr2.out]
    have hP1 := hP1.out
    have hP2 := hP2.out
    have hE1 := hE1.out
    have hE2 := hE2.out
    have hK1 := hK1.out
    have hK2 := hK2.out
    have hK3 := hK3.out
    clear z1 z2 c1 c2 c35 c36 c37 c70 c71 q1 q2 q3 hO1 c0' hr2
    simp_all
  have hn0 : ¬ 0 < o.ents.length := by assumption
  have hni : ¬ (0 : Int) < (o.ents.length : Int) := by omega
  clear hr2 z1 z2 c1 c35 c36 c37 c70 c71 q1 q2 q3 c0' ht
  go_cut [5] (fun s5 wx => s5 = .int .i64 0 ∧ wx = W1)
  case first =>
    go_wp2
    go_meet
    case rel => exact ⟨rfl, rfl⟩
  obtain ⟨rfl, rfl⟩ := hcut
  go_wp2
  go_loopw [5] (fun vi wr => vi = .int .i64 0 ∧ wr = wc) (fun _ _ => 0)
  case atStart => exact ⟨rfl, rfl⟩
  case round =>
    obtain ⟨rfl, rfl⟩ := hrel
    go_wp2
    go_ret
    exact ⟨by rw [hrT.out]; rfl, b1⟩
set_option maxRecDepth 100000 in
set_option maxHeartbeats 4000000 in
theorem refMay_calls0 (o : ObjL) (hk : o.kind < 1 ∨ 4 < o.kind) (A1 A2 : Option Addr) (k1 k2 : Nat) (w : World) (hv : ObjV w (.slice A1 o.ents.length k1) (.slice A2 o.pars.length k2) o) : Calls Try.prog 24 #[.agg (objC o (.slice A1 o.ents.length k1) (.slice A2 o.pars.length k2)).toArray] w fun e w' => e = .returned (.bool (mayB o)) ∧ Below w.heap.size w w' := by
  have ho := hv.ok
  have hO := boxed (w := w) (ve := .slice A1 o.ents.length k1) (vp := .slice A2 o.pars.length k2) ho
  have b0 : Below w.heap.size w (w.alloc (.cells (objC o (.slice A1 o.ents.length k1) (.slice A2 o.pars.length k2)).toArray 28)) := (Below.refl _ _).alloc (Nat.le_refl _) _
  obtain ⟨W0, hW0⟩ : ∃ W0, w.alloc (.cells (objC o (.slice A1 o.ents.length k1) (.slice A2 o.pars.length k2)).toArray 28) = W0 := ⟨_, rfl⟩
  rw [hW0] at hO b0
  have c0 := hO.kind
  obtain ⟨r, hr⟩ : ∃ r, Hid (r = mayB o) := ⟨_, Lib.hid rfl⟩
  rw [← hr.out]
  have hf : Hid (r = false) := by show r = false; rw [hr.out]; exact may_none o hk
  clear hr hv ho hO
  generalize (objC o (.slice A1 o.ents.length k1) (.slice A2 o.pars.length k2)).toArray = cs at *
  generalize o.kind = n at *
  go_enter Try.func24, Try.ntmps24
  by_cases h1 : n < 1
  · clear hk
    go_wp2
    all_goals try (exfalso; omega)
    go_ret
    exact ⟨by rw [hf.out]; rfl, b0⟩
  · have h4 : 4 < n := by omega
    clear hk
    go_wp2
    all_goals try (exfalso; omega)
    go_ret
    exact ⟨by rw [hf.out]; rfl, b0⟩
theorem refMay_calls (o : ObjL) (A1 A2 : Option Addr) (k1 k2 : Nat) (w : World) (hv : ObjV w (.slice A1 o.ents.length k1) (.slice A2 o.pars.length k2) o) : Calls Try.prog 24 #[.agg (objC o (.slice A1 o.ents.length k1) (.slice A2 o.pars.length k2)).toArray] w fun e w' => e = .returned (.bool (mayB o)) ∧ Below w.heap.size w w' := by
  by_cases h1 : o.kind = 1
  · exact refMay_calls1 o h1 A1 A2 k1 k2 w hv
  by_cases h2 : o.kind = 2
  · exact refMay_calls2 o h2 A1 A2 k1 k2 w hv
  by_cases h3 : o.kind = 3
  · exact refMay_calls3 o h3 A1 A2 k1 k2 w hv
  by_cases h4 : o.kind = 4
  · exact refMay_calls4 o h4 A1 A2 k1 k2 w hv
  exact refMay_calls0 o (by omega) A1 A2 k1 k2 w hv
end Go.Proofs.Ytlanconcbpdneaa
