/- GraphMore of the statements of package knapsack/knapsacklaw12: for every input it returns true, and the arguments read as they did. Condition: the table of constants is as the program lays it (tied). -/
import Derived.Test.YtlojebhcemfodaaGreatDoorMn
import Derived.Test.YtlojebhcemfodaaGreatDoorCards
import Derived.Test.YtlojebhcemfodaaGreatDoorTie
namespace Go.Proofs.YtlojebhcemfodaaGreatDoor
open Go.ChangeShapes Go.WideShapes Go.ChangeAt Go.RowKit
open Go.WideMaps Go.WideElems
open Go.ChangeMaps (open_string shut_string)
set_option maxRecDepth 100000 in
theorem graphMore_contract (H:Type) (enc:TypeId×Value→H) (W:World) (base:Nat) (args:Array Value) (ds gs:List (DataW H)) (before:List MemPlace)
 (hval0 : ∀ (j:Nat) t v,Tryz.f5.params[j]?=some t→args[j]?=some v→Value.okWide Tryz.prog W .any base t v)
 (hW:DataW.Whole enc Tryz.prog Tryz.f5.params.toList Rows.graphMoreSpec.vars false W args.toList ds gs before) (hL:laidMetH Tryz.prog Rows.graphMoreRow.laid W) :
 Calls Tryz.prog 5 args W fun e W' => ∃ v,e = .returned v∧Rows.graphMoreSpec.post enc Tryz.prog Tryz.f5 false true false false W args v W':=by
 have hK:TabK W:=tabK_of hL
 have hval : ∀ (j:Nat) t v,Tryz.f5.params[j]?=some t→args[j]?=some v→Value.okWide Tryz.prog W .any base t v:=hval0
 have hW':=hW
 obtain ⟨p,q,hA0,hV,rfl,hfz,hnd⟩:=hW
 have hA:DataW.TrodAll enc Tryz.prog W 0 (fun _=>true) true Tryz.f5.params.toList args.toList ds p:=hA0
 rw [Tryz.params5] at hA hval
 obtain ⟨v0,v1,d0,d1,p0,p1,rfl,rfl,rfl,h0,h1⟩:=trodAll_two hA
 obtain ⟨rfl,rfl⟩:=trodVars_none hV
 obtain ⟨vs0,vo0,vf0,vc0,r0,rfl,hv0⟩:=open_his (hval 0 25 v0 rfl rfl) h0
 obtain ⟨s1,l1,c1,rfl⟩:=okWide_slice Tryz.underlying23 (hval 1 23 v1 rfl rfl)
 obtain ⟨r1,hv1⟩:=open_u8s h1 rfl
 clear hA0 hval0
 refine (graphMore_calls r0 _ _ _ _ r1 _ W hK hv0 hv1).mono fun e W' ⟨he,hw⟩=>?_
 subst he
 exact ⟨_,rfl,post_law Tryz.laidOut (by kernel_rfl) (by kernel_rfl) Tryz.underlying4 rfl ⟨rfl,rfl,rfl⟩ hW' hw⟩
theorem graphMore_met (os:Os):laidMet Tryz.prog Rows.graphMoreRow.laid ((laidWorld os).forCall (fun _ _=>0) ⟨#[], #[.agg #[.slice none 0 0, .slice none 0 0, .slice none 0 0, .slice none 0 0], .slice none 0 0],[]⟩).memory:=
 laidMet_of_run' 8 (by kernel_rfl) (by kernel_rfl)
theorem graphMore_reads (os:Os) {H:Type} (enc:TypeId×Value→H) : ∃ places,DataW.whole enc Tryz.prog ((laidWorld os).forCall (fun _ _=>0) ⟨#[], #[.agg #[.slice none 0 0, .slice none 0 0, .slice none 0 0, .slice none 0 0], .slice none 0 0],[]⟩).memory Tryz.f5.params.toList Rows.graphMoreSpec.vars false (#[.agg #[.slice none 0 0, .slice none 0 0, .slice none 0 0, .slice none 0 0], .slice none 0 0]:Array Value).toList 8=some ([.agg [.nil, .nil, .nil, .nil], .nil],[],places):=
 ⟨[],by kernel_rfl⟩
set_option maxRecDepth 100000 in
theorem graphMore_lifted (os:Os) (started:os.Started) (H:Type) (enc:TypeId×Value→H) (F:Stop.Interp) :
 ReturnsInHanded {} Tryz.checked os 5 .any ((OpenSpec.ofChange Rows.graphMoreSpec).preRow enc Tryz.prog Tryz.f5 Rows.graphMoreRow.domain false Rows.graphMoreRow.laid) (((OpenSpec.ofChange Rows.graphMoreSpec).at F).post enc Tryz.prog Tryz.f5 false true false false):=by
 obtain ⟨places,hx⟩:=graphMore_reads os enc
 refine returnsInHanded_of_row (C:=Tryz.checked) (s:=OpenSpec.ofChange Rows.graphMoreSpec) Tryz.own started (by kernel_rfl) Tryz.func5
  (witness_row_at (enc:=enc) (C:=Tryz.checked) false (laidWorld os) #[.agg #[.slice none 0 0, .slice none 0 0, .slice none 0 0, .slice none 0 0], .slice none 0 0] rfl (by kernel_rfl) (by kernel_rfl) (by kernel_rfl)
    (OpenSpec.preRow_of_cond 8 hx (by kernel_rfl) (fun k hk=>by cases hk) (by kernel_rfl) (graphMore_met os))) ?_
 intro W base args ds gs before hval hW _ _ _ hL hsh _
 exact graphMore_contract H enc W base args ds gs before hval hW hL
theorem graphMore_said : Rows.GraphMoreSaid:=
 OpenClaim.holds_of_cond 5 Tryz.f5 rfl rfl rfl rfl rfl rfl rfl ⟨rfl,rfl,rfl,rfl,rfl⟩ rfl rfl rfl rfl rfl (by kernel_rfl) Tryz.func5 (by kernel_rfl)
  (of_decide_eq_true (by kernel_rfl)) (by unfold Func.isWrapper;rw [if_neg (of_decide_eq_false (by kernel_rfl))];exact ⟨rfl,rfl⟩)
  (fun os started H enc _ F=>by rw [OpenClaim.pre_eq_preRow];exact graphMore_lifted os started H enc F)
theorem graphMore_plain (f:FuncId) (fn:Func) (hf:Tryz.pinned.checked.prog.funcNamed "knapsack/knapsacklaw12.GraphMore" = some f) (hfn:Tryz.pinned.checked.prog.funcs[f]?=some fn) :
 true=Tryz.pinned.checked.prog.looks [] ∧ ∀ (j:Nat) t,fn.params[j]?=some t→Tryz.pinned.checked.prog.wantsStandIn t=false:=by
 obtain rfl:f=5:=Option.some.inj ((show Tryz.prog.funcNamed "knapsack/knapsacklaw12.GraphMore" = some 5 by kernel_rfl).symm.trans hf) |>.symm
 obtain rfl:fn=Tryz.f5:=(Option.some.inj (Tryz.func5.symm.trans hfn)).symm
 refine ⟨by kernel_rfl,fun j t ht=>?_⟩
 rw [Tryz.params5] at ht
 have hm:t∈[25,23]:=by simpa using Array.mem_of_getElem? ht
 have hall:([25,23].all fun u => !Tryz.prog.wantsStandIn u)=true:=by kernel_rfl
 exact (show Tryz.prog.wantsStandIn t=false by simpa using List.all_eq_true.1 hall t hm)
theorem graphMore_holds : Rows.GraphMoreCardSaid:=
 Claim7.holds_tied_plain_at .later [] _ _ _ _ graphMore_said (fun _ h=>by cases h) (by kernel_rfl) (fun _ h=>by cases h) graphMore_row_tie rfl ⟨rfl,rfl⟩ (by kernel_rfl) rfl graphMore_plain (by kernel_rfl)
#print axioms graphMore_holds
end Go.Proofs.YtlojebhcemfodaaGreatDoor
