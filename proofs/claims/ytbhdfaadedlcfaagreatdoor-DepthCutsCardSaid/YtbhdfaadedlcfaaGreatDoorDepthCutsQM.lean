/- DepthCuts of the statements of package knapsack/knapsacklaw13: for every input it returns true, and the arguments read as they did. Condition: the table of constants is as the program lays it (tied). -/
import Derived.Test.YtbhdfaadedlcfaaGreatDoorMo
import Derived.Test.YtbhdfaadedlcfaaGreatDoorCards
import Derived.Test.YtbhdfaadedlcfaaGreatDoorTie
namespace Go.Proofs.YtbhdfaadedlcfaaGreatDoor
open Go.ChangeShapes Go.WideShapes Go.ChangeAt Go.RowKit
open Go.WideMaps Go.WideElems
open Go.ChangeMaps (open_string shut_string)
set_option maxRecDepth 100000 in
theorem depthCuts_contract (H:Type) (enc:TypeId×Value→H) (W:World) (base:Nat) (args:Array Value) (ds gs:List (DataW H)) (before:List MemPlace)
 (hval0 : ∀ (j:Nat) t v,Tryz.f4.params[j]?=some t→args[j]?=some v→Value.okWide Tryz.prog W .any base t v)
 (hW:DataW.Whole enc Tryz.prog Tryz.f4.params.toList Rows.depthCutsSpec.vars false W args.toList ds gs before) (hL:laidMetH Tryz.prog Rows.depthCutsRow.laid W) :
 Calls Tryz.prog 4 args W fun e W' => ∃ v,e = .returned v∧Rows.depthCutsSpec.post enc Tryz.prog Tryz.f4 false true false false W args v W':=by
 have hK:TabK W:=tabK_of hL
 have hval : ∀ (j:Nat) t v,Tryz.f4.params[j]?=some t→args[j]?=some v→Value.okWide Tryz.prog W .any base t v:=hval0
 have hW':=hW
 obtain ⟨p,q,hA0,hV,rfl,hfz,hnd⟩:=hW
 have hA:DataW.TrodAll enc Tryz.prog W 0 (fun _=>true) true Tryz.f4.params.toList args.toList ds p:=hA0
 rw [Tryz.params4] at hA hval
 obtain ⟨v0,v1,d0,d1,p0,p1,rfl,rfl,rfl,h0,h1⟩:=trodAll_two hA
 obtain ⟨rfl,rfl⟩:=trodVars_none hV
 obtain ⟨vs0,vo0,vf0,vc0,r0,rfl,hv0⟩:=open_his (hval 0 25 v0 rfl rfl) h0
 obtain ⟨a1,rfl,rfl,rfl,w1⟩:=open_int Tryz.underlying5 (hval 1 5 v1 rfl rfl) h1
 have b1:=bounds_u8 w1
 obtain ⟨a1,rfl⟩:=Int.eq_ofNat_of_zero_le b1.1
 clear hA0 hval0
 refine (depthCuts_calls r0 _ _ _ _ a1 W hK hv0).mono fun e W' ⟨he,hw⟩=>?_
 subst he
 exact ⟨_,rfl,post_law Tryz.laidOut (by kernel_rfl) (by kernel_rfl) Tryz.underlying4 rfl ⟨rfl,rfl,rfl⟩ hW' hw⟩
theorem depthCuts_met (os:Os):laidMet Tryz.prog Rows.depthCutsRow.laid ((laidWorld os).forCall (fun _ _=>0) ⟨#[], #[.agg #[.slice none 0 0, .slice none 0 0, .slice none 0 0, .slice none 0 0], .int .u8 0],[]⟩).memory:=
 laidMet_of_run' 8 (by kernel_rfl) (by kernel_rfl)
theorem depthCuts_reads (os:Os) {H:Type} (enc:TypeId×Value→H) : ∃ places,DataW.whole enc Tryz.prog ((laidWorld os).forCall (fun _ _=>0) ⟨#[], #[.agg #[.slice none 0 0, .slice none 0 0, .slice none 0 0, .slice none 0 0], .int .u8 0],[]⟩).memory Tryz.f4.params.toList Rows.depthCutsSpec.vars false (#[.agg #[.slice none 0 0, .slice none 0 0, .slice none 0 0, .slice none 0 0], .int .u8 0]:Array Value).toList 8=some ([.agg [.nil, .nil, .nil, .nil], .lit (.int .u8 0)],[],places):=
 ⟨[],by kernel_rfl⟩
set_option maxRecDepth 100000 in
theorem depthCuts_lifted (os:Os) (started:os.Started) (H:Type) (enc:TypeId×Value→H) (F:Stop.Interp) :
 ReturnsInHanded {} Tryz.checked os 4 .any ((OpenSpec.ofChange Rows.depthCutsSpec).preRow enc Tryz.prog Tryz.f4 Rows.depthCutsRow.domain false Rows.depthCutsRow.laid) (((OpenSpec.ofChange Rows.depthCutsSpec).at F).post enc Tryz.prog Tryz.f4 false true false false):=by
 obtain ⟨places,hx⟩:=depthCuts_reads os enc
 refine returnsInHanded_of_row (C:=Tryz.checked) (s:=OpenSpec.ofChange Rows.depthCutsSpec) Tryz.own started (by kernel_rfl) Tryz.func4
  (witness_row_at (enc:=enc) (C:=Tryz.checked) false (laidWorld os) #[.agg #[.slice none 0 0, .slice none 0 0, .slice none 0 0, .slice none 0 0], .int .u8 0] rfl (by kernel_rfl) (by kernel_rfl) (by kernel_rfl)
    (OpenSpec.preRow_of_cond 8 hx (by kernel_rfl) (fun k hk=>by cases hk) (by kernel_rfl) (depthCuts_met os))) ?_
 intro W base args ds gs before hval hW _ _ _ hL hsh _
 exact depthCuts_contract H enc W base args ds gs before hval hW hL
theorem depthCuts_said : Rows.DepthCutsSaid:=
 OpenClaim.holds_of_cond 4 Tryz.f4 rfl rfl rfl rfl rfl rfl rfl ⟨rfl,rfl,rfl,rfl,rfl⟩ rfl rfl rfl rfl rfl (by kernel_rfl) Tryz.func4 (by kernel_rfl)
  (of_decide_eq_true (by kernel_rfl)) (by unfold Func.isWrapper;rw [if_neg (of_decide_eq_false (by kernel_rfl))];exact ⟨rfl,rfl⟩)
  (fun os started H enc _ F=>by rw [OpenClaim.pre_eq_preRow];exact depthCuts_lifted os started H enc F)
theorem depthCuts_plain (f:FuncId) (fn:Func) (hf:Tryz.pinned.checked.prog.funcNamed "knapsack/knapsacklaw13.DepthCuts" = some f) (hfn:Tryz.pinned.checked.prog.funcs[f]?=some fn) :
 true=Tryz.pinned.checked.prog.looks [] ∧ ∀ (j:Nat) t,fn.params[j]?=some t→Tryz.pinned.checked.prog.wantsStandIn t=false:=by
 obtain rfl:f=4:=Option.some.inj ((show Tryz.prog.funcNamed "knapsack/knapsacklaw13.DepthCuts" = some 4 by kernel_rfl).symm.trans hf) |>.symm
 obtain rfl:fn=Tryz.f4:=(Option.some.inj (Tryz.func4.symm.trans hfn)).symm
 refine ⟨by kernel_rfl,fun j t ht=>?_⟩
 rw [Tryz.params4] at ht
 have hm:t∈[25,5]:=by simpa using Array.mem_of_getElem? ht
 have hall:([25,5].all fun u => !Tryz.prog.wantsStandIn u)=true:=by kernel_rfl
 exact (show Tryz.prog.wantsStandIn t=false by simpa using List.all_eq_true.1 hall t hm)
theorem depthCuts_holds : Rows.DepthCutsCardSaid:=
 Claim7.holds_tied_plain_at .later [] _ _ _ _ depthCuts_said (fun _ h=>by cases h) (by kernel_rfl) (fun _ h=>by cases h) depthCuts_row_tie rfl ⟨rfl,rfl⟩ (by kernel_rfl) rfl depthCuts_plain (by kernel_rfl)
#print axioms depthCuts_holds
end Go.Proofs.YtbhdfaadedlcfaaGreatDoor
