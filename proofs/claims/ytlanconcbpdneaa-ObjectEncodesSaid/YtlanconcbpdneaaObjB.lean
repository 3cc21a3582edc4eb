/- The walk of layer 4: alone. No condition. -/
import Derived.Test.YtlanconcbpdneaaObjA
import Derived.Deep.DeepCutAuto
namespace Go.Proofs.Ytlanconcbpdneaa
open Go.RowKit
attribute [local go_sem ↓] ldvI_eq
/-- An object boxed: one block more. -/
theorem boxed {w : World} {ve vp : Value} {o : ObjL} (ho : ObjOk o) : ObjB (w.alloc (.cells (objC o ve vp).toArray 28)) w.heap.size o ve vp := ⟨Blk.new w _ _, ho.tree, ho.target⟩
theorem int_eq0 (n : Nat) : ((n : Int) == 0) = (n == 0) := by
  rw [Bool.eq_iff_iff, beq_iff_eq, beq_iff_eq]; omega
set_option maxRecDepth 100000 in
set_option maxHeartbeats 4000000 in
theorem alone_calls (o : ObjL) (ho : ObjOk o) (A1 A2 : Option Addr) (k1 k2 : Nat) (w : World) : Calls Try.prog 29 #[.agg (objC o (.slice A1 o.ents.length k1) (.slice A2 o.pars.length k2)).toArray] w fun e w' => e = .returned (.bool (aloneB o)) ∧ Below w.heap.size w w' := by
  have hO := boxed (w := w) (ve := .slice A1 o.ents.length k1) (vp := .slice A2 o.pars.length k2) ho
  have b0 : Below w.heap.size w (w.alloc (.cells (objC o (.slice A1 o.ents.length k1) (.slice A2 o.pars.length k2)).toArray 28)) := (Below.refl _ _).alloc (Nat.le_refl _) _
  generalize (objC o (.slice A1 o.ents.length k1) (.slice A2 o.pars.length k2)).toArray = cs at *
  obtain ⟨W0, hW0⟩ : ∃ W0, w.alloc (.cells cs 28) = W0 := ⟨_, rfl⟩
  rw [hW0] at hO b0
  have c0 := hO.kind
  have c1 := hO.data
  have c2 := hO.ents
  have c35 := hO.pars
  have c36 := hO.time
  have c37 := hO.text
  have c70 := hO.of_
  have c71 := hO.name
  have q1 := run_ldvI_at hO.tree ho.tree
  have q2 := run_ldvI_at hO.target ho.target
  have z1 := fun W => equalIn_zero o.tree ho.tree W
  have z2 := fun W => equalIn_zero o.target ho.target W
  have e1 : Hid (commitN o = (decide (o.tree = List.replicate 32 0) && decide ((o.pars.length : Int) = 0) && decide ((o.time : Int) = 0) && o.text.isEmpty)) := by
    show commitN o = _
    rw [show decide ((o.pars.length : Int) = 0) = (o.pars.length == 0) from by rw [Bool.eq_iff_iff, decide_eq_true_iff, beq_iff_eq]; omega, show decide ((o.time : Int) = 0) = (o.time == 0) from by rw [Bool.eq_iff_iff, decide_eq_true_iff, beq_iff_eq]; omega]
    rfl
  have e2 : Hid (tagN o = (decide (o.target = List.replicate 32 0) && decide (o.of_ = 0) && o.name.isEmpty)) := by
    show tagN o = _
    rw [show decide (o.of_ = 0) = (o.of_ == 0) from by rw [Bool.eq_iff_iff, decide_eq_true_iff, beq_iff_eq]]
    rfl
  have e3 : List.isEmpty o.data = blobN o := rfl
  have e4 : ((o.ents.length : Int) == 0) = treeN o := by
    unfold treeN
    exact int_eq0 _
  have ht : o.time < 4294967296 := ho.time
  obtain ⟨r, hr⟩ : ∃ r, Hid (r = aloneB o) := ⟨_, Lib.hid rfl⟩
  rw [← hr.out]
  have hr2 := hr.out
  unfold aloneB at hr2
  replace hr2 := Lib.hid hr2
  clear hr hO ho
  generalize decide (o.tree = List.replicate 32 0) = T at *
  generalize decide (o.target = List.replicate 32 0) = G at *
  generalize commitN o = C at *
  generalize tagN o = D at *
  generalize blobN o = X at *
  generalize treeN o = Y at *
  go_enter Try.func29, Try.ntmps29
  go_upto_region 3 with fail
  go_cut [5] (fun s5 wx => s5 = .bool C ∧ wx = W0)
  case first =>
    go_wp2
    all_goals
      go_meet
      case rel =>
        refine ⟨?_, rfl⟩
        rw [e1.out]
        clear c0 c1 c2 c35 c36 c37 c70 c71 q1 q2 z1 z2 e1 e2 hr2 e3 e4 b0 hW0
        simp_all
  case rest =>
    obtain ⟨rfl, rfl⟩ := hcut
    clear e1 c35 c36 c37 z1 q1
    go_upto_region 4 with fail
    go_cut [6] (fun s6 wx => s6 = .bool D ∧ wx = wc)
    case first =>
      go_wp2
      all_goals
        go_meet
        case rel =>
          refine ⟨?_, rfl⟩
          rw [e2.out]
          clear c0 c1 c2 c70 c71 q2 z2 e2 hr2 e3 e4 b0 hW0
          simp_all
    case rest =>
      obtain ⟨rfl, rfl⟩ := hcut
      clear e2 c70 c71 z2 q2
      clear hW0
      go_wp2
      all_goals
        go_ret
        refine ⟨?_, b0⟩
        rw [hr2.out]
        simp_all
end Go.Proofs.Ytlanconcbpdneaa
