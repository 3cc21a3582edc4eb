/- LzSteps of the statements of layer 5: for any steps and every limit it returns true, and the arguments read as they did. No condition. -/
import Derived.Test.YtlmchjiifcnpgaaPost
import Derived.Test.YtlmchjiifcnpgaaLzT
namespace Go.Proofs.Ytlmchjiifcnpgaa
open Go.ChangeShapes Go.WideShapes Go.ChangeAt Go.RowKit
open Go.WideMaps Go.WideElems

/-- What an argument of type []Step is, in the walk's words. -/
theorem open_steps {H : Type} {enc : TypeId × Value → H} {w : World} {base : Nat} {v : Value} {d : DataW H} {p : List MemPlace}
    (hv : Value.okWide Try.prog w .any base 29 v) (h : DataW.Trod enc Try.prog w 0 (fun _ => true) true 29 v d p) :
    ∃ (A : Option Addr) (cap : Nat) (l : List (Int × Int × List UInt8)), v = .slice A l.length cap ∧ StepsAt w A l ∧ StepsBe l ∧ l.length ≤ 9223372036854775807 := by
  obtain ⟨a0, len, cap, rfl⟩ := okWide_slice Try.underlying29 hv
  obtain ⟨fuel, hf⟩ := h
  rcases open_slice_fields Try.underlying29 Try.underlying31 (by kernel_rfl) (by kernel_rfl) hf with ⟨hcs, _⟩ | ⟨a, len', cap', m, D, Pl, hcs, _, hlc, hcm, hm, _, hi⟩
  · injection hcs with hcs
    injection hcs with e1 e2 e3
    subst e1 e2 e3
    exact ⟨none, 0, [], rfl, .inl rfl, fun i hi => absurd hi (by simp), by simp⟩
  · injection hcs with hcs
    injection hcs with e1 e2 e3
    subst e1 e2 e3
    have hlm : len ≤ m := by rw [hm]; split <;> omega
    have key : ∀ i, i < len → ∃ x : Int × Int × List UInt8, (w.cell? (a.add (i * 3 + 0)) = some (.int .i64 x.1) ∧ w.cell? (a.add (i * 3 + 1)) = some (.int .i64 x.2.1) ∧ w.cell? (a.add (i * 3 + 2)) = some (.string (B x.2.2))) ∧
        -9223372036854775808 ≤ x.1 ∧ x.1 ≤ 9223372036854775807 ∧ -9223372036854775808 ≤ x.2.1 ∧ x.2.1 ≤ 9223372036854775807 ∧ x.2.2.length ≤ 9223372036854775807 := by
      intro i hil
      obtain ⟨ys, n, _, _, _, hfd⟩ := hi i (by omega)
      obtain ⟨v0, y0, c0, _, t0⟩ := hfd 0 _ rfl
      obtain ⟨v1, y1, c1, _, t1⟩ := hfd 1 _ rfl
      obtain ⟨v2, y2, c2, _, t2⟩ := hfd 2 _ rfl
      obtain ⟨N, e0, _, w0⟩ := DataW.trod_int Try.underlying3 t0
      obtain ⟨F, e1, _, w1⟩ := DataW.trod_int Try.underlying3 t1
      obtain ⟨s, e2, _, w2⟩ := DataW.trod_string Try.underlying9 t2
      simp only [List.cons.injEq, and_true] at e0 e1 e2
      subst e0 e1 e2
      obtain ⟨t, rfl⟩ := B_mk s
      have b0 := bounds_i64 w0
      have b1 := bounds_i64 w1
      exact ⟨(N, F, t), ⟨c0, c1, c2⟩, b0.1, b0.2, b1.1, b1.2, by unfold maxLen at w2; rw [size_B] at w2; omega⟩
    obtain ⟨l, hl, hp⟩ := list_of len _ key
    subst hl
    refine ⟨some a, cap, l, rfl, ?_, fun i hi => (hp i hi).2, by unfold maxLen at hcm; omega⟩
    rcases Nat.eq_zero_or_pos l.length with h0 | h0
    · exact .inl (List.eq_nil_of_length_eq_zero h0)
    · have c0 := (hp 0 h0).1.1
      simp only [Nat.zero_mul, Nat.add_zero, Addr.add, if_true] at c0
      obtain ⟨ha, hlt⟩ := addr_form c0
      refine .inr ⟨a.block, a.off, by rw [← ha], hlt, fun i hi => ?_⟩
      have hc := (hp i hi).1
      rw [ha] at hc
      simp only [addr_add] at hc
      exact hc

set_option maxRecDepth 100000 in
theorem lzSteps_lifted (os : Os) (started : os.Started) (H : Type) (enc : TypeId × Value → H) :
    ReturnsInHanded {} Try.checked os 4 .any (Rows.lzStepsSpec.pre6 enc Try.prog Try.f4 Rows.lzStepsRow.domain false) (Rows.lzStepsSpec.post enc Try.prog Try.f4 false true false false) := by
  refine returnsInHanded_of_change (C := Try.checked) Try.own started (by kernel_rfl) Try.func4
    (ChangeSpec.witness6 (enc := enc) (C := Try.checked) false ⟨#[], #[.slice none 0 0, .int .i64 0], []⟩ 8 (by kernel_rfl) (by kernel_rfl) (by kernel_rfl) (by kernel_rfl)) ?_
  intro W base args ds gs before hval0 hW hcnd _
  have hval : ∀ (j : Nat) t v, Try.f4.params[j]? = some t → args[j]? = some v → Value.okWide Try.prog W .any base t v := hval0
  have hW' := hW
  obtain ⟨p, q, hA0, hV, rfl, hfz, hnd⟩ := hW
  have hA : DataW.TrodAll enc Try.prog W 0 (fun _ => true) true Try.f4.params.toList args.toList ds p := hA0
  rw [Try.params4] at hA hval
  obtain ⟨v0, v1, d0, d1, p0, p1, rfl, rfl, rfl, h0, h1⟩ := trodAll_two hA
  obtain ⟨rfl, rfl⟩ := trodVars_none hV
  obtain ⟨A, cap, l, rfl, hat, hbe, hll⟩ := open_steps (hval 0 29 v0 rfl rfl) h0
  obtain ⟨b, rfl, rfl, rfl, wb⟩ := open_int Try.underlying3 (hval 1 3 v1 rfl rfl) h1
  clear hA0 hval0
  refine (lzSteps_calls l A cap b W hat hbe hll (bounds_i64 wb).1).mono fun e W' ⟨he, hw⟩ => ?_
  subst he
  exact ⟨_, rfl, post_law Try.laidOut (by kernel_rfl) (by kernel_rfl) Try.underlying4 rfl ⟨rfl, rfl, rfl⟩ hW' hw⟩

theorem lzSteps_holds : Rows.LzStepsSaid :=
  OpenClaim.holds_of_wide 4 Try.f4 rfl rfl rfl rfl rfl rfl rfl ⟨rfl, rfl, rfl, rfl, rfl⟩ rfl rfl rfl rfl rfl (by kernel_rfl) Try.func4 (by kernel_rfl)
    (of_decide_eq_true (by kernel_rfl)) (by unfold Func.isWrapper; rw [if_neg (of_decide_eq_false (by kernel_rfl))]; exact ⟨rfl, rfl⟩)
    (fun os started H enc _ => lzSteps_lifted os started H enc)
#print axioms lzSteps_holds
end Go.Proofs.Ytlmchjiifcnpgaa
