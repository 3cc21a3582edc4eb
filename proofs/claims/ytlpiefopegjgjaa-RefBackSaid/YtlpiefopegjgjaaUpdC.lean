/- The walk of slices.ContainsFunc at updates. No condition. -/
import Derived.Test.YtlpiefopegjgjaaUpdI
import Derived.Test.YtlpiefopegjgjaaRefD
namespace Go.Proofs.Ytlpiefopegjgjaa
open Go.RowKit
theorem idxOf_any {α : Type} (p : α → Bool) (l : List α) : decide (0 ≤ idxOf p l) = l.any p := by
  rcases idx_cases p l with ⟨k, x, hx, hk, hi, hp, _⟩ | ⟨hi, hall⟩
  · rw [hi]
    have : l.any p = true := List.any_eq_true.2 ⟨x, List.mem_of_getElem? hx, hp⟩
    rw [this]
    simp
  · rw [hi]
    have : l.any p = false := by
      rw [List.any_eq_false]
      intro x hx
      have := List.all_eq_true.1 hall x hx
      simpa using this
    rw [this]
    rfl
set_option maxRecDepth 100000 in
set_option maxHeartbeats 400000 in
theorem contains_calls (l : List UpdL) (hok : UpdsOk l) (v : Value) (w : World) (hv : Upds w v l) (f : FuncId) (hf : ∀ (a : Array Value) (W : World), (callFunc f a).run Try.prog W = .ok (.enter f a) W) (c : Value) (p : UpdL → Bool)
    (hcl : ∀ (W : World) (x : UpdL), x ∈ l → Below w.heap.size w W → Calls Try.prog f #[.agg (updC x).toArray, c] W fun e w' => e = .returned (.bool (p x)) ∧ Below W.heap.size W w') :
    Calls Try.prog 44 #[v, .func (.func f) #[] #[c]] w fun e w' => e = .returned (.bool (l.any p)) ∧ Below w.heap.size w w' := by
  have hix := Lib.hid (indexFuncU_calls l hok v w hv f hf c p hcl)
  have hany := Lib.hid (idxOf_any p l)
  generalize idxOf p l = q at *
  clear hcl hf
  go_enter Try.func44, Try.ntmps44
  go_wp2_with (first
    | (go_at_call 52; go_must (refine hix.out.mono ?_); rintro e w1 ⟨rfl, hb1⟩))
  go_ret
  exact ⟨by rw [← hany.out]; rfl, hb1⟩
end Go.Proofs.Ytlpiefopegjgjaa
