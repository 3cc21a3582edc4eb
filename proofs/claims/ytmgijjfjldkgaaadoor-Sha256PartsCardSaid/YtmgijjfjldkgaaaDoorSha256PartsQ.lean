/- Sha256Parts of the statements of package knapsack/knapsacklaw02: for every input it returns true, and the arguments read as they did. Condition: the table of constants is as the program lays it (tied). -/
import Derived.Test.YtmgijjfjldkgaaaDoorPost
import Derived.Test.YtmgijjfjldkgaaaDoorCards
import Derived.Test.YtmgijjfjldkgaaaDoorTie
import Derived.Test.YtmgijjfjldkgaaaDoorTab
import Derived.Test.YtmgijjfjldkgaaaDoorShaM
namespace Go.Proofs.YtmgijjfjldkgaaaDoor
open Go.ChangeShapes Go.WideShapes Go.ChangeAt Go.RowKit
open Go.WideMaps Go.WideElems
open Go.ChangeMaps (open_string shut_string)

/-- What an argument of type []uint16 is, in the walk's words. -/
theorem open_u16s {H : Type} {enc : TypeId × Value → H} {w : World} {base : Nat} {v : Value} {d : DataW H} {p : List MemPlace}
    (hv : Value.okWide Tryd.prog w .any base 28 v) (h : DataW.Trod enc Tryd.prog w 0 (fun _ => true) true 28 v d p) :
    ∃ cs : List Nat, U16s w v cs ∧ (∀ j, cs.getD j 0 < 65536) ∧ cs.length ≤ 9223372036854775807 := by
  obtain ⟨a0, len, cap, rfl⟩ := okWide_slice Tryd.underlying28 hv
  obtain ⟨fuel, hf⟩ := h
  rcases open_ints Tryd.underlying28 Tryd.underlying30 (by kernel_rfl) hf with ⟨hcs, _⟩ | ⟨a, len', cap', zs, hcs, _, hlc, hcm, hz, _, hcell, hwz⟩
  · injection hcs with hcs
    injection hcs with e1 e2 e3
    subst e1 e2 e3
    exact ⟨[], .inl ⟨rfl, _, _, rfl⟩, fun j => by simp, by simp⟩
  · injection hcs with hcs
    injection hcs with e1 e2 e3
    subst e1 e2 e3
    have hlz : len ≤ zs.length := by rw [hz]; split <;> omega
    have hb : ∀ j, j < zs.length → 0 ≤ zs.getD j 0 ∧ zs.getD j 0 < 65536 := fun j hj => by
      have hm := List.getElem_mem hj
      have := bounds_u16 (hwz _ hm)
      simpa [List.getD, List.getElem?_eq_getElem hj] using this
    have hg (j : Nat) (hj : j < len) : (((zs.take len).map Int.toNat).getD j 0 : Nat) = (zs.getD j 0).toNat := by
      have h1 : j < zs.length := by omega
      have h2 : j < (zs.take len).length := by rw [List.length_take]; omega
      simp [List.getD, List.getElem?_eq_getElem h1, List.getElem?_take, hj]
    have hlen : ((zs.take len).map Int.toNat).length = len := by rw [List.length_map, List.length_take]; omega
    refine ⟨(zs.take len).map Int.toNat, ?_, fun j => ?_, by unfold maxLen at hcm; omega⟩
    · rcases Nat.eq_zero_or_pos len with h0 | h0
      · exact .inl ⟨List.eq_nil_of_length_eq_zero (by rw [hlen]; exact h0), _, _, by rw [h0]⟩
      · have c0 := hcell 0 (by omega)
        simp only [Addr.add, if_true] at c0
        obtain ⟨ha, hlt⟩ := addr_form c0
        refine .inr ⟨a.block, a.off, cap, by rw [hlen, ← ha], fun j hj => ?_, hlt⟩
        rw [hlen] at hj
        have hc := hcell j (by omega)
        rw [ha] at hc
        simp only [addr_add] at hc
        rw [hc, hg j hj]
        have := hb j (by omega)
        rw [Int.toNat_of_nonneg this.1]
    · rcases Nat.lt_or_ge j len with hj | hj
      · rw [hg j hj]
        have := hb j (by omega)
        omega
      · rw [List.getD, List.getElem?_eq_none (by rw [hlen]; exact hj)]
        decide

set_option maxRecDepth 100000 in
theorem sha256Parts_contract (H : Type) (enc : TypeId × Value → H) (W : World) (base : Nat) (args : Array Value) (ds gs : List (DataW H)) (before : List MemPlace)
    (hval0 : ∀ (j : Nat) t v, Tryd.f4.params[j]? = some t → args[j]? = some v → Value.okWide Tryd.prog W .any base t v)
    (hW : DataW.Whole enc Tryd.prog Tryd.f4.params.toList Rows.sha256PartsSpec.vars false W args.toList ds gs before) (hL : laidMetH Tryd.prog Rows.sha256PartsRow.laid W) :
    Calls Tryd.prog 4 args W fun e W' => ∃ v, e = .returned v ∧ Rows.sha256PartsSpec.post enc Tryd.prog Tryd.f4 false true false false W args v W' := by
  have hK : TabK W := tabK_of hL
  have hval : ∀ (j : Nat) t v, Tryd.f4.params[j]? = some t → args[j]? = some v → Value.okWide Tryd.prog W .any base t v := hval0
  have hW' := hW
  obtain ⟨p, q, hA0, hV, rfl, hfz, hnd⟩ := hW
  have hA : DataW.TrodAll enc Tryd.prog W 0 (fun _ => true) true Tryd.f4.params.toList args.toList ds p := hA0
  rw [Tryd.params4] at hA hval
  obtain ⟨v0, v1, d0, d1, p0, p1, rfl, rfl, rfl, h0, h1⟩ := trodAll_two hA
  obtain ⟨rfl, rfl⟩ := trodVars_none hV
  obtain ⟨s0, rfl, rfl, rfl, hs0⟩ := open_string Tryd.underlying9 (hval 0 9 v0 rfl rfl) h0
  obtain ⟨a0, rfl⟩ := B_mk s0
  have b0 : a0.length ≤ 9223372036854775807 := by unfold maxLen at hs0; rw [size_B] at hs0; omega
  obtain ⟨cs, hcv, hcl, hcn⟩ := open_u16s (hval 1 28 v1 rfl rfl) h1
  clear hA0 hval0
  refine (parts_calls a0 b0 v1 cs hcn hcl W hK hcv).mono fun e W' ⟨he, hw⟩ => ?_
  subst he
  exact ⟨_, rfl, post_law Tryd.laidOut (by kernel_rfl) (by kernel_rfl) Tryd.underlying4 rfl ⟨rfl, rfl, rfl⟩ hW' hw⟩
theorem sha256Parts_met (os : Os) : laidMet Tryd.prog Rows.sha256PartsRow.laid ((laidWorld os).forCall (fun _ _ => 0) ⟨#[], #[.string ⟨#[]⟩, .slice none 0 0], []⟩).memory :=
  laidMet_of_run' 8 (by kernel_rfl) (by kernel_rfl)
theorem sha256Parts_reads (os : Os) {H : Type} (enc : TypeId × Value → H) : ∃ places, DataW.whole enc Tryd.prog ((laidWorld os).forCall (fun _ _ => 0) ⟨#[], #[.string ⟨#[]⟩, .slice none 0 0], []⟩).memory Tryd.f4.params.toList Rows.sha256PartsSpec.vars false (#[.string ⟨#[]⟩, .slice none 0 0] : Array Value).toList 8 = some ([.lit (.string []), .nil], [], places) :=
  ⟨[], by kernel_rfl⟩
set_option maxRecDepth 100000 in
theorem sha256Parts_lifted (os : Os) (started : os.Started) (H : Type) (enc : TypeId × Value → H) (F : Stop.Interp) :
    ReturnsInHanded {} Tryd.checked os 4 .any ((OpenSpec.ofChange Rows.sha256PartsSpec).preRow enc Tryd.prog Tryd.f4 Rows.sha256PartsRow.domain false Rows.sha256PartsRow.laid) (((OpenSpec.ofChange Rows.sha256PartsSpec).at F).post enc Tryd.prog Tryd.f4 false true false false) := by
  obtain ⟨places, hx⟩ := sha256Parts_reads os enc
  refine returnsInHanded_of_row (C := Tryd.checked) (s := OpenSpec.ofChange Rows.sha256PartsSpec) Tryd.own started (by kernel_rfl) Tryd.func4
    (witness_row_at (enc := enc) (C := Tryd.checked) false (laidWorld os) #[.string ⟨#[]⟩, .slice none 0 0] rfl (by kernel_rfl) (by kernel_rfl) (by kernel_rfl)
      (OpenSpec.preRow_of_cond 8 hx (by kernel_rfl) (fun k hk => by cases hk) (by kernel_rfl) (sha256Parts_met os))) ?_
  intro W base args ds gs before hval hW _ _ _ hL _ _
  exact sha256Parts_contract H enc W base args ds gs before hval hW hL
theorem sha256Parts_said : Rows.Sha256PartsSaid :=
  OpenClaim.holds_of_cond 4 Tryd.f4 rfl rfl rfl rfl rfl rfl rfl ⟨rfl, rfl, rfl, rfl, rfl⟩ rfl rfl rfl rfl rfl (by kernel_rfl) Tryd.func4 (by kernel_rfl)
    (of_decide_eq_true (by kernel_rfl)) (by unfold Func.isWrapper; rw [if_neg (of_decide_eq_false (by kernel_rfl))]; exact ⟨rfl, rfl⟩)
    (fun os started H enc _ F => by rw [OpenClaim.pre_eq_preRow]; exact sha256Parts_lifted os started H enc F)
theorem sha256Parts_plain (f : FuncId) (fn : Func) (hf : Tryd.pinned.checked.prog.funcNamed "knapsack/knapsacklaw02.Sha256Parts" = some f) (hfn : Tryd.pinned.checked.prog.funcs[f]? = some fn) :
    false = Tryd.pinned.checked.prog.looks [] ∧ ∀ (j : Nat) t, fn.params[j]? = some t → Tryd.pinned.checked.prog.wantsStandIn t = false := by
  obtain rfl : f = 4 := Option.some.inj ((show Tryd.prog.funcNamed "knapsack/knapsacklaw02.Sha256Parts" = some 4 by kernel_rfl).symm.trans hf) |>.symm
  obtain rfl : fn = Tryd.f4 := (Option.some.inj (Tryd.func4.symm.trans hfn)).symm
  refine ⟨by kernel_rfl, fun j t ht => ?_⟩
  rw [Tryd.params4] at ht
  have hm : t ∈ [9, 28] := by simpa using Array.mem_of_getElem? ht
  have hall : ([9, 28].all fun u => !Tryd.prog.wantsStandIn u) = true := by kernel_rfl
  exact (show Tryd.prog.wantsStandIn t = false by simpa using List.all_eq_true.1 hall t hm)
theorem sha256Parts_holds : Rows.Sha256PartsCardSaid :=
  Claim7.holds_tied_plain_at .later [] _ _ _ _ sha256Parts_said (fun _ h => by cases h) (by kernel_rfl) (fun _ h => by cases h) sha256Parts_row_tie rfl ⟨rfl, rfl⟩ (by kernel_rfl) rfl sha256Parts_plain (by kernel_rfl)
#print axioms sha256Parts_holds
end Go.Proofs.YtmgijjfjldkgaaaDoor
