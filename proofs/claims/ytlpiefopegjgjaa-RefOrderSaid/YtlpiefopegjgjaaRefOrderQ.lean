/- RefOrder of the statements of package knapsack/knapsacklaw09: for every input it returns true, and the arguments read as they did. No condition. -/
import Derived.Test.YtlpiefopegjgjaaPost
import Derived.Test.YtlpiefopegjgjaaRefOw
import Derived.Test.YtlpiefopegjgjaaOpenRef
namespace Go.Proofs.Ytlpiefopegjgjaa
open Go.ChangeShapes Go.WideShapes Go.ChangeAt Go.RowKit
open Go.WideMaps Go.WideElems
open Go.ChangeMaps (open_string shut_string)

set_option maxRecDepth 100000 in
theorem refOrder_lifted (os : Os) (started : os.Started) (H : Type) (enc : TypeId × Value → H) :
    ReturnsInHanded {} Try.checked os 4 .any (Rows.refOrderSpec.pre6 enc Try.prog Try.f4 Rows.refOrderRow.domain false) (Rows.refOrderSpec.post enc Try.prog Try.f4 false true false false) := by
  refine returnsInHanded_of_change (C := Try.checked) Try.own started (by kernel_rfl) Try.func4
    (ChangeSpec.witness6 (enc := enc) (C := Try.checked) false ⟨#[], #[.slice none 0 0, .slice none 0 0], []⟩ 8 (by kernel_rfl) (by kernel_rfl) (by kernel_rfl) (by kernel_rfl)) ?_
  intro W base args ds gs before hval0 hW hcnd _
  have hval : ∀ (j : Nat) t v, Try.f4.params[j]? = some t → args[j]? = some v → Value.okWide Try.prog W .any base t v := hval0
  have hW' := hW
  obtain ⟨p, q, hA0, hV, rfl, hfz, hnd⟩ := hW
  have hA : DataW.TrodAll enc Try.prog W 0 (fun _ => true) true Try.f4.params.toList args.toList ds p := hA0
  rw [Try.params4] at hA hval
  obtain ⟨v0, v1, d0, d1, p0, p1, rfl, rfl, rfl, h0, h1⟩ := trodAll_two hA
  obtain ⟨rfl, rfl⟩ := trodVars_none hV
  obtain ⟨s0, l0, c0, rfl⟩ := okWide_slice Try.underlying22 (hval 0 22 v0 rfl rfl)
  obtain ⟨r0, hv0, hok0⟩ := open_refs h0 rfl
  obtain ⟨s1, l1, c1, rfl⟩ := okWide_slice Try.underlying23 (hval 1 23 v1 rfl rfl)
  obtain ⟨r1, hv1, hok1⟩ := open_upds h1 rfl
  clear hA0 hval0
  refine (refOrder_calls r0 hok0 _ r1 hok1 _ W hv0 hv1).mono fun e W' ⟨he, hw⟩ => ?_
  subst he
  exact ⟨_, rfl, post_law Try.laidOut (by kernel_rfl) (by kernel_rfl) Try.underlying4 rfl ⟨rfl, rfl, rfl⟩ hW' hw⟩

theorem refOrder_holds : Rows.RefOrderSaid :=
  OpenClaim.holds_of_wide 4 Try.f4 rfl rfl rfl rfl rfl rfl rfl ⟨rfl, rfl, rfl, rfl, rfl⟩ rfl rfl rfl rfl rfl (by kernel_rfl) Try.func4 (by kernel_rfl)
    (of_decide_eq_true (by kernel_rfl)) (by unfold Func.isWrapper; rw [if_neg (of_decide_eq_false (by kernel_rfl))]; exact ⟨rfl, rfl⟩)
    (fun os started H enc _ => refOrder_lifted os started H enc)
#print axioms refOrder_holds
end Go.Proofs.Ytlpiefopegjgjaa
