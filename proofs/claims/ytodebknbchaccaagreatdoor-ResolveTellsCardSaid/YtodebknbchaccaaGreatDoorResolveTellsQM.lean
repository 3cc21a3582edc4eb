/- ResolveTells of the statements of package knapsack/knapsacklaw16: for every input it returns true, and the arguments read as they did. Condition: the table of constants is as the program lays it (tied). -/
import Derived.Test.YtodebknbchaccaaGreatDoorMm
import Derived.Test.YtodebknbchaccaaGreatDoorCards
import Derived.Test.YtodebknbchaccaaGreatDoorTie
namespace Go.Proofs.YtodebknbchaccaaGreatDoor
open Go.ChangeShapes Go.WideShapes Go.ChangeAt Go.RowKit
open Go.WideMaps Go.WideElems
open Go.ChangeMaps (open_string shut_string)
set_option maxRecDepth 100000 in
theorem resolveTells_contract (H:Type) (enc:TypeId×Value→H) (W:World) (base:Nat) (args:Array Value) (ds gs:List (DataW H)) (before:List MemPlace)
 (hval0 : ∀ (j:Nat) t v,Tryz.f3.params[j]?=some t→args[j]?=some v→Value.okWide Tryz.prog W .any base t v)
 (hW:DataW.Whole enc Tryz.prog Tryz.f3.params.toList Rows.resolveTellsSpec.vars false W args.toList ds gs before) (hL:laidMetH Tryz.prog Rows.resolveTellsRow.laid W) :
 Calls Tryz.prog 3 args W fun e W' => ∃ v,e = .returned v∧Rows.resolveTellsSpec.post enc Tryz.prog Tryz.f3 false true false false W args v W':=by
 have hK:TabK W:=tabK_of hL
 have hval : ∀ (j:Nat) t v,Tryz.f3.params[j]?=some t→args[j]?=some v→Value.okWide Tryz.prog W .any base t v:=hval0
 have hW':=hW
 obtain ⟨p,q,hA0,hV,rfl,hfz,hnd⟩:=hW
 have hA:DataW.TrodAll enc Tryz.prog W 0 (fun _=>true) true Tryz.f3.params.toList args.toList ds p:=hA0
 rw [Tryz.params3] at hA hval
 obtain ⟨v0,v1,d0,d1,p0,p1,rfl,rfl,rfl,h0,h1⟩:=trodAll_two hA
 obtain ⟨rfl,rfl⟩:=trodVars_none hV
 obtain ⟨s0,t0,u0,r0,rfl,hv0⟩:=open_pack (hval 0 26 v0 rfl rfl) h0
 obtain ⟨o1,rfl,ho1,hb1,hd1⟩:=open_item (hval 1 30 v1 rfl rfl) h1
 clear hA0 hval0
 refine (zDC hv0 o1 ho1 hb1 hd1 hK).mono fun e W' ⟨he,hw⟩=>?_
 subst he
 exact ⟨_,rfl,post_law Tryz.laidOut (by kernel_rfl) (by kernel_rfl) Tryz.underlying4 rfl ⟨rfl,rfl,rfl⟩ hW' hw⟩
theorem resolveTells_met (os:Os):laidMet Tryz.prog Rows.resolveTellsRow.laid ((laidWorld os).forCall (fun _ _=>0) ⟨#[], #[.agg #[.slice none 0 0, .slice none 0 0, .slice none 0 0], .agg (pitC zPit).toArray],[]⟩).memory:=
 laidMet_of_run' 8 (by kernel_rfl) (by kernel_rfl)
theorem resolveTells_reads (os:Os) {H:Type} (enc:TypeId×Value→H) : ∃ places,DataW.whole enc Tryz.prog ((laidWorld os).forCall (fun _ _=>0) ⟨#[], #[.agg #[.slice none 0 0, .slice none 0 0, .slice none 0 0], .agg (pitC zPit).toArray],[]⟩).memory Tryz.f3.params.toList Rows.resolveTellsSpec.vars false (#[.agg #[.slice none 0 0, .slice none 0 0, .slice none 0 0], .agg (pitC zPit).toArray]:Array Value).toList 8=some ([.agg [.nil, .nil, .nil], .agg [.lit (.int .i64 0), .lit (.int .i64 0), .agg [.lit (.int .u8 0), .lit (.int .u8 0), .lit (.int .u8 0), .lit (.int .u8 0), .lit (.int .u8 0), .lit (.int .u8 0), .lit (.int .u8 0), .lit (.int .u8 0), .lit (.int .u8 0), .lit (.int .u8 0), .lit (.int .u8 0), .lit (.int .u8 0), .lit (.int .u8 0), .lit (.int .u8 0), .lit (.int .u8 0), .lit (.int .u8 0), .lit (.int .u8 0), .lit (.int .u8 0), .lit (.int .u8 0), .lit (.int .u8 0), .lit (.int .u8 0), .lit (.int .u8 0), .lit (.int .u8 0), .lit (.int .u8 0), .lit (.int .u8 0), .lit (.int .u8 0), .lit (.int .u8 0), .lit (.int .u8 0), .lit (.int .u8 0), .lit (.int .u8 0), .lit (.int .u8 0), .lit (.int .u8 0)], .lit (.string [])]],[],places):=
 ⟨[],by kernel_rfl⟩
set_option maxRecDepth 100000 in
theorem resolveTells_lifted (os:Os) (started:os.Started) (H:Type) (enc:TypeId×Value→H) (F:Stop.Interp) :
 ReturnsInHanded {} Tryz.checked os 3 .any ((OpenSpec.ofChange Rows.resolveTellsSpec).preRow enc Tryz.prog Tryz.f3 Rows.resolveTellsRow.domain false Rows.resolveTellsRow.laid) (((OpenSpec.ofChange Rows.resolveTellsSpec).at F).post enc Tryz.prog Tryz.f3 false true false false):=by
 obtain ⟨places,hx⟩:=resolveTells_reads os enc
 refine returnsInHanded_of_row (C:=Tryz.checked) (s:=OpenSpec.ofChange Rows.resolveTellsSpec) Tryz.own started (by kernel_rfl) Tryz.func3
  (witness_row_at (enc:=enc) (C:=Tryz.checked) false (laidWorld os) #[.agg #[.slice none 0 0, .slice none 0 0, .slice none 0 0], .agg (pitC zPit).toArray] rfl (by kernel_rfl) (by kernel_rfl) (by kernel_rfl)
    (OpenSpec.preRow_of_cond 8 hx (by kernel_rfl) (fun k hk=>by cases hk) (by kernel_rfl) (resolveTells_met os))) ?_
 intro W base args ds gs before hval hW _ _ _ hL hsh _
 exact resolveTells_contract H enc W base args ds gs before hval hW hL
theorem resolveTells_said : Rows.ResolveTellsSaid:=
 OpenClaim.holds_of_cond 3 Tryz.f3 rfl rfl rfl rfl rfl rfl rfl ⟨rfl,rfl,rfl,rfl,rfl⟩ rfl rfl rfl rfl rfl (by kernel_rfl) Tryz.func3 (by kernel_rfl)
  (of_decide_eq_true (by kernel_rfl)) (by unfold Func.isWrapper;rw [if_neg (of_decide_eq_false (by kernel_rfl))];exact ⟨rfl,rfl⟩)
  (fun os started H enc _ F=>by rw [OpenClaim.pre_eq_preRow];exact resolveTells_lifted os started H enc F)
theorem resolveTells_plain (f:FuncId) (fn:Func) (hf:Tryz.pinned.checked.prog.funcNamed "knapsack/knapsacklaw16.ResolveTells" = some f) (hfn:Tryz.pinned.checked.prog.funcs[f]?=some fn) :
 false=Tryz.pinned.checked.prog.looks [] ∧ ∀ (j:Nat) t,fn.params[j]?=some t→Tryz.pinned.checked.prog.wantsStandIn t=false:=by
 obtain rfl:f=3:=Option.some.inj ((show Tryz.prog.funcNamed "knapsack/knapsacklaw16.ResolveTells" = some 3 by kernel_rfl).symm.trans hf) |>.symm
 obtain rfl:fn=Tryz.f3:=(Option.some.inj (Tryz.func3.symm.trans hfn)).symm
 refine ⟨by kernel_rfl,fun j t ht=>?_⟩
 rw [Tryz.params3] at ht
 have hm:t∈[26,30]:=by simpa using Array.mem_of_getElem? ht
 have hall:([26,30].all fun u => !Tryz.prog.wantsStandIn u)=true:=by kernel_rfl
 exact (show Tryz.prog.wantsStandIn t=false by simpa using List.all_eq_true.1 hall t hm)
theorem resolveTells_holds : Rows.ResolveTellsCardSaid:=
 Claim7.holds_tied_plain_at .later [] _ _ _ _ resolveTells_said (fun _ h=>by cases h) (by kernel_rfl) (fun _ h=>by cases h) resolveTells_row_tie rfl ⟨rfl,rfl⟩ (by kernel_rfl) rfl resolveTells_plain (by kernel_rfl)
#print axioms resolveTells_holds
end Go.Proofs.YtodebknbchaccaaGreatDoor
