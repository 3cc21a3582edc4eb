/- The walk of layer 4: may. No condition. -/
import Derived.Test.YtlanconcbpdneaaObjE
namespace Go.Proofs.Ytlanconcbpdneaa
open Go.RowKit
attribute [local go_sem ↓] ldvO_eq
set_option maxRecDepth 100000 in
set_option maxHeartbeats 4000000 in
theorem may_calls (o : ObjL) (A1 A2 : Option Addr) (k1 k2 : Nat) (w : World) (hv : ObjV w (.slice A1 o.ents.length k1) (.slice A2 o.pars.length k2) o) : Calls Try.prog 16 #[.agg (objC o (.slice A1 o.ents.length k1) (.slice A2 o.pars.length k2)).toArray] w fun e w' => e = .returned (.bool (mayB o)) ∧ Below w.heap.size w w' := by
  have ho := hv.ok
  have hO := boxed (w := w) (ve := .slice A1 o.ents.length k1) (vp := .slice A2 o.pars.length k2) ho
  have b0 : Below w.heap.size w (w.alloc (.cells (objC o (.slice A1 o.ents.length k1) (.slice A2 o.pars.length k2)).toArray 28)) := (Below.refl _ _).alloc (Nat.le_refl _) _
  have hv0 := hv.below b0
  have hal := fun W => Lib.hid (alone_calls o ho A1 A2 k1 k2 W)
  have hld := fun W (h : ObjB W w.heap.size o (.slice A1 o.ents.length k1) (.slice A2 o.pars.length k2)) => run_ldvO h ho
  obtain ⟨W0, hW0⟩ : ∃ W0, w.alloc (.cells (objC o (.slice A1 o.ents.length k1) (.slice A2 o.pars.length k2)).toArray 28) = W0 := ⟨_, rfl⟩
  rw [hW0] at hO b0 hv0
  have hen := fun W (hb : Below W0.heap.size W0 W) => Lib.hid (entries_calls o.ents ho.ents _ W (hv0.ents.below hb))
  have hnm := fun W => Lib.hid (name_calls o.name W)
  have hki := fun W => Lib.hid (kind_calls o.of_ W)
  have c0 := hO.kind
  have q0 := hld W0 hO
  obtain ⟨r, hr⟩ : ∃ r, Hid (r = mayB o) := ⟨_, Lib.hid rfl⟩
  rw [← hr.out]
  have hr2 := hr.out
  unfold mayB at hr2
  replace hr2 := Lib.hid hr2
  have d2 := fun W (hb : Below W0.heap.size W0 W) => (hO.below hb).ents
  have d35 := fun W (hb : Below W0.heap.size W0 W) => (hO.below hb).pars
  have d70 := fun W (hb : Below W0.heap.size W0 W) => (hO.below hb).of_
  have d71 := fun W (hb : Below W0.heap.size W0 W) => (hO.below hb).name
  clear hr hO hv hv0 ho hld
  generalize (objC o (.slice A1 o.ents.length k1) (.slice A2 o.pars.length k2)).toArray = cs at *
  generalize aloneB o = A at *
  generalize entsB o.ents = E at *
  generalize nameB o.name = N at *
  generalize kindB o.of_ = K at *
  have s0 := b0.size
  by_cases h2 : o.kind = 2
  · rw [h2] at c0
    have hf : Hid (r = (A && E)) := by show r = _; rw [hr2.out, if_pos h2]
    clear hr2 h2 hnm hki d35 d70 d71
    have hal := hal W0
    cases A with
    | false =>
      clear hen d2
      go_enter Try.func16, Try.ntmps16
      go_wp2_with (first
        | ((with_reducible refine hal.out.mono ?_); rintro e w1 ⟨rfl, hb1⟩))
      go_ret
      exact ⟨by rw [hf.out]; rfl, bthen b0 s0 hb1⟩
    | true =>
      go_enter Try.func16, Try.ntmps16
      go_wp2_with (first
        | ((with_reducible refine hal.out.mono ?_); rintro e w1 ⟨rfl, hb1⟩
           have c2 := d2 w1 hb1
           have hen := hen w1 hb1
           clear hal d2)
        | ((with_reducible refine hen.out.mono ?_); rintro e w2 ⟨rfl, hb2⟩))
      go_ret
      exact ⟨by rw [hf.out]; rfl, bthen b0 s0 (bthen hb1 hb1.size hb2)⟩
  have e2 : (o.kind == 2) = false := by rw [beq_eq_false_iff_ne]; exact h2
  by_cases h3 : o.kind = 3
  · rw [h3] at c0
    have hf : Hid (r = (A && decide ((o.pars.length : Int) ≤ 8))) := by
      show r = _; rw [hr2.out, if_neg h2, if_pos h3]
      congr 1
      rw [Bool.eq_iff_iff, decide_eq_true_iff, decide_eq_true_iff]; omega
    clear hr2 h2 h3 e2 hnm hki d2 d70 d71 hen
    have hal := hal W0
    cases A with
    | false =>
      clear d35
      go_enter Try.func16, Try.ntmps16
      go_wp2_with (first
        | ((with_reducible refine hal.out.mono ?_); rintro e w1 ⟨rfl, hb1⟩))
      go_ret
      exact ⟨by rw [hf.out]; rfl, bthen b0 s0 hb1⟩
    | true =>
      go_enter Try.func16, Try.ntmps16
      go_wp2_with (first
        | ((with_reducible refine hal.out.mono ?_); rintro e w1 ⟨rfl, hb1⟩
           have c35 := d35 w1 hb1
           clear hal d35))
      go_ret
      exact ⟨by rw [hf.out]; rfl, bthen b0 s0 hb1⟩
  have e3 : (o.kind == 3) = false := by rw [beq_eq_false_iff_ne]; exact h3
  by_cases h4 : o.kind = 4
  · rw [h4] at c0
    have hf : Hid (r = (A && K && N)) := by show r = _; rw [hr2.out, if_neg h2, if_neg h3, if_pos h4]
    clear hr2 h2 h3 h4 e2 e3 hen d2 d35
    have hal := hal W0
    cases A with
    | false =>
      clear hnm hki d70 d71
      go_enter Try.func16, Try.ntmps16
      go_wp2_with (first
        | ((with_reducible refine hal.out.mono ?_); rintro e w1 ⟨rfl, hb1⟩))
      go_ret
      exact ⟨by rw [hf.out]; rfl, bthen b0 s0 hb1⟩
    | true =>
      cases K with
      | false =>
        clear hnm d71
        go_enter Try.func16, Try.ntmps16
        go_wp2_with (first
          | ((with_reducible refine hal.out.mono ?_); rintro e w1 ⟨rfl, hb1⟩
             have c70 := d70 w1 hb1
             have hki := hki w1
             clear hal d70)
          | ((with_reducible refine hki.out.mono ?_); rintro e w2 ⟨rfl, rfl⟩))
        go_ret
        exact ⟨by rw [hf.out]; rfl, bthen b0 s0 hb1⟩
      | true =>
        go_enter Try.func16, Try.ntmps16
        go_wp2_with (first
          | ((with_reducible refine hal.out.mono ?_); rintro e w1 ⟨rfl, hb1⟩
             have c70 := d70 w1 hb1
             have c71 := d71 w1 hb1
             have hki := hki w1
             have hnm := hnm w1
             clear hal d70 d71)
          | ((with_reducible refine hki.out.mono ?_); rintro e w2 ⟨rfl, rfl⟩)
          | ((with_reducible refine hnm.out.mono ?_); rintro e w3 ⟨rfl, rfl⟩))
        go_ret
        exact ⟨by rw [hf.out]; rfl, bthen b0 s0 hb1⟩
  have e4 : (o.kind == 4) = false := by rw [beq_eq_false_iff_ne]; exact h4
  have hf : Hid (r = (o.kind == 1 && A)) := by show r = _; rw [hr2.out, if_neg h2, if_neg h3, if_neg h4]
  have hal := hal W0
  clear hr2 hnm hki d2 d35 d70 d71 hen
  by_cases h1 : o.kind = 1
  · rw [h1] at c0 hf
    clear h1 h2 h3 h4 e2 e3 e4
    go_enter Try.func16, Try.ntmps16
    go_wp2_with (first
      | ((with_reducible refine hal.out.mono ?_); rintro e w1 ⟨rfl, hb1⟩))
    go_ret
    exact ⟨by rw [hf.out]; rfl, bthen b0 s0 hb1⟩
  · have e1 : (o.kind == 1) = false := by rw [beq_eq_false_iff_ne]; exact h1
    rw [e1] at hf
    clear hal
    go_enter Try.func16, Try.ntmps16
    go_wp2
    go_ret
    exact ⟨by rw [hf.out]; simp [e1], b0⟩
end Go.Proofs.Ytlanconcbpdneaa
