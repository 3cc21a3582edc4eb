/- AckTells of the statements of package knapsack/knapsacklaw19: for every input it returns true, and the arguments read as they did. Condition: the table of constants is as the program lays it (tied). -/
import Derived.Test.YtbcbmjdmlcldjaaGreatDoorMo
import Derived.Test.YtbcbmjdmlcldjaaGreatDoorCards
import Derived.Test.YtbcbmjdmlcldjaaGreatDoorTie
namespace Go.Proofs.YtbcbmjdmlcldjaaGreatDoor
open Go.ChangeShapes Go.WideShapes Go.ChangeAt Go.RowKit
open Go.WideMaps Go.WideElems
open Go.ChangeMaps (open_string shut_string)
set_option maxRecDepth 100000 in
theorem ackTells_contract (H:Type) (enc:TypeId×Value→H) (W:World) (base:Nat) (args:Array Value) (ds gs:List (DataW H)) (before:List MemPlace)
 (hval0 : ∀ (j:Nat) t v,Tryz.f3.params[j]?=some t→args[j]?=some v→Value.okWide Tryz.prog W .any base t v)
 (hW:DataW.Whole enc Tryz.prog Tryz.f3.params.toList Rows.ackTellsSpec.vars false W args.toList ds gs before) (hL:laidMetH Tryz.prog Rows.ackTellsRow.laid W) :
 Calls Tryz.prog 3 args W fun e W' => ∃ v,e = .returned v∧Rows.ackTellsSpec.post enc Tryz.prog Tryz.f3 false true false false W args v W':=by
 have hK:TabK W:=tabK_of hL
 have hval : ∀ (j:Nat) t v,Tryz.f3.params[j]?=some t→args[j]?=some v→Value.okWide Tryz.prog W .any base t v:=hval0
 have hW':=hW
 obtain ⟨p,q,hA0,hV,rfl,hfz,hnd⟩:=hW
 have hA:DataW.TrodAll enc Tryz.prog W 0 (fun _=>true) true Tryz.f3.params.toList args.toList ds p:=hA0
 rw [Tryz.params3] at hA hval
 obtain ⟨v0,v1,v2,d0,d1,d2,p0,p1,p2,rfl,rfl,rfl,h0,h1,h2⟩:=trodAll_three hA
 obtain ⟨rfl,rfl⟩:=trodVars_none hV
 obtain ⟨vs0,ua0,ub0,uc0,ud0,ue0,un0,r0,rfl,hv0⟩:=open_side (hval 0 25 v0 rfl rfl) h0
 obtain ⟨s1,l1,c1,rfl⟩:=okWide_slice Tryz.underlying26 (hval 1 26 v1 rfl rfl)
 obtain ⟨r1,hv1,hok1⟩:=open_ids h1 rfl
 obtain ⟨a2,rfl,rfl,rfl,w2⟩:=open_int Tryz.underlying3 (hval 2 3 v2 rfl rfl) h2
 clear hA0 hval0
 refine (ackTells_calls r0 _ _ _ _ _ _ _ r1 hok1 _ a2 W hK hv0 hv1).mono fun e W' ⟨he,hw⟩=>?_
 subst he
 exact ⟨_,rfl,post_law Tryz.laidOut (by kernel_rfl) (by kernel_rfl) Tryz.underlying4 rfl ⟨rfl,rfl,rfl⟩ hW' hw⟩
theorem ackTells_met (os:Os):laidMet Tryz.prog Rows.ackTellsRow.laid ((laidWorld os).forCall (fun _ _=>0) ⟨#[], #[.agg #[.slice none 0 0, .slice none 0 0, .slice none 0 0, .slice none 0 0, .slice none 0 0, .slice none 0 0, .int .i64 0], .slice none 0 0, .int .i64 0],[]⟩).memory:=
 laidMet_of_run' 8 (by kernel_rfl) (by kernel_rfl)
theorem ackTells_reads (os:Os) {H:Type} (enc:TypeId×Value→H) : ∃ places,DataW.whole enc Tryz.prog ((laidWorld os).forCall (fun _ _=>0) ⟨#[], #[.agg #[.slice none 0 0, .slice none 0 0, .slice none 0 0, .slice none 0 0, .slice none 0 0, .slice none 0 0, .int .i64 0], .slice none 0 0, .int .i64 0],[]⟩).memory Tryz.f3.params.toList Rows.ackTellsSpec.vars false (#[.agg #[.slice none 0 0, .slice none 0 0, .slice none 0 0, .slice none 0 0, .slice none 0 0, .slice none 0 0, .int .i64 0], .slice none 0 0, .int .i64 0]:Array Value).toList 8=some ([.agg [.nil, .nil, .nil, .nil, .nil, .nil, .lit (.int .i64 0)], .nil, .lit (.int .i64 0)],[],places):=
 ⟨[],by kernel_rfl⟩
set_option maxRecDepth 100000 in
theorem ackTells_lifted (os:Os) (started:os.Started) (H:Type) (enc:TypeId×Value→H) (F:Stop.Interp) :
 ReturnsInHanded {} Tryz.checked os 3 .any ((OpenSpec.ofChange Rows.ackTellsSpec).preRow enc Tryz.prog Tryz.f3 Rows.ackTellsRow.domain false Rows.ackTellsRow.laid) (((OpenSpec.ofChange Rows.ackTellsSpec).at F).post enc Tryz.prog Tryz.f3 false true false false):=by
 obtain ⟨places,hx⟩:=ackTells_reads os enc
 refine returnsInHanded_of_row (C:=Tryz.checked) (s:=OpenSpec.ofChange Rows.ackTellsSpec) Tryz.own started (by kernel_rfl) Tryz.func3
  (witness_row_at (enc:=enc) (C:=Tryz.checked) false (laidWorld os) #[.agg #[.slice none 0 0, .slice none 0 0, .slice none 0 0, .slice none 0 0, .slice none 0 0, .slice none 0 0, .int .i64 0], .slice none 0 0, .int .i64 0] rfl (by kernel_rfl) (by kernel_rfl) (by kernel_rfl)
    (OpenSpec.preRow_of_cond 8 hx (by kernel_rfl) (fun k hk=>by cases hk) (by kernel_rfl) (ackTells_met os))) ?_
 intro W base args ds gs before hval hW _ _ _ hL hsh _
 exact ackTells_contract H enc W base args ds gs before hval hW hL
theorem ackTells_said : Rows.AckTellsSaid:=
 OpenClaim.holds_of_cond 3 Tryz.f3 rfl rfl rfl rfl rfl rfl rfl ⟨rfl,rfl,rfl,rfl,rfl⟩ rfl rfl rfl rfl rfl (by kernel_rfl) Tryz.func3 (by kernel_rfl)
  (of_decide_eq_true (by kernel_rfl)) (by unfold Func.isWrapper;rw [if_neg (of_decide_eq_false (by kernel_rfl))];exact ⟨rfl,rfl⟩)
  (fun os started H enc _ F=>by rw [OpenClaim.pre_eq_preRow];exact ackTells_lifted os started H enc F)
theorem ackTells_plain (f:FuncId) (fn:Func) (hf:Tryz.pinned.checked.prog.funcNamed "knapsack/knapsacklaw19.AckTells" = some f) (hfn:Tryz.pinned.checked.prog.funcs[f]?=some fn) :
 true=Tryz.pinned.checked.prog.looks [] ∧ ∀ (j:Nat) t,fn.params[j]?=some t→Tryz.pinned.checked.prog.wantsStandIn t=false:=by
 obtain rfl:f=3:=Option.some.inj ((show Tryz.prog.funcNamed "knapsack/knapsacklaw19.AckTells" = some 3 by kernel_rfl).symm.trans hf) |>.symm
 obtain rfl:fn=Tryz.f3:=(Option.some.inj (Tryz.func3.symm.trans hfn)).symm
 refine ⟨by kernel_rfl,fun j t ht=>?_⟩
 rw [Tryz.params3] at ht
 have hm:t∈[25,26,3]:=by simpa using Array.mem_of_getElem? ht
 have hall:([25,26,3].all fun u => !Tryz.prog.wantsStandIn u)=true:=by kernel_rfl
 exact (show Tryz.prog.wantsStandIn t=false by simpa using List.all_eq_true.1 hall t hm)
theorem ackTells_holds : Rows.AckTellsCardSaid:=
 Claim7.holds_tied_plain_at .later [] _ _ _ _ ackTells_said (fun _ h=>by cases h) (by kernel_rfl) (fun _ h=>by cases h) ackTells_row_tie rfl ⟨rfl,rfl⟩ (by kernel_rfl) rfl ackTells_plain (by kernel_rfl)
#print axioms ackTells_holds
end Go.Proofs.YtbcbmjdmlcldjaaGreatDoor
