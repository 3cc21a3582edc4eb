/- Texts of this claim, laid together: Inv, InvW, LitB, Stage, InvA, Go. -/
import Derived.Test.YtlojebhcemfodaaGreatDoorMa
import Derived.Orders
import Derived.Great.BuildSlice
namespace Go.Proofs.YtlojebhcemfodaaGreatDoor
open Go.RowKit
section
variable {P:Program} {ops:Array Oper} {a0:Act} {C:Array Bool→World→Prop} {R:Nat→Value→World→Prop} {Q:Exit→Act→World→Prop}
/-- What the operations that are listed so far have left. -/
structure Left (ops:Array Oper) (a0:Act) (C:Array Bool→World→Prop) (R:Nat→Value→World→Prop) (listed:Array Bool) (a:Act) (w:World):Prop where
 cls:C listed w
 size:listed.size=ops.size
 closed : ∀ i o,ops[i]?=some o→listed.getD i false=true → ∀ e∈o.after,Region.binds .any e=true→listed.getD e.on false=true
 tsize:a.tmps.size=a0.tmps.size
 defers:a.defers=a0.defers
 old : ∀ t:Nat,(∀ (i:Nat) o,ops[i]?=some o→listed.getD i false=true→o.dst≠some t)→a.tmps[t]?=a0.tmps[t]?
 new : ∀ (i:Nat) o (t:Nat),ops[i]?=some o→listed.getD i false=true→o.dst=some t → ∃ v,a.tmps[t]?=some v∧R i v w
/-- Each operation waits only for earlier ones; no two write one slot; the slots are there. -/
def acyc (ops:Array Oper):Bool:=(List.range ops.size).all fun i=>match ops[i]? with
 | some o=>o.after.all fun e => !Region.binds .any e||decide (e.on<i)
 | none=>true
def apartB (ops:Array Oper):Bool:=(List.range ops.size).all fun i=>(List.range ops.size).all fun j=>decide (i=j)||match ops[i]?,ops[j]? with
 | some o,some q=>match o.dst,q.dst with
   | some s,some t=>decide (s≠t)
   | _,_=>true
 | _,_=>true
theorem acyc_spec (h:acyc ops=true) {i:Nat} {o:Oper} (ho:ops[i]?=some o) {e:Edge} (he:e∈o.after) (hb:Region.binds .any e=true):e.on<i:=by
 have hi:=(Array.getElem?_eq_some_iff.1 ho).1
 have:=List.all_eq_true.1 h i (List.mem_range.2 hi)
 rw [ho] at this
 have:=Array.all_eq_true_iff_forall_mem.1 this e he
 rw [hb] at this
 simpa using this
theorem apart_spec (h:apartB ops=true) {i j:Nat} {o q:Oper} {t:Nat} (ho:ops[i]?=some o) (hq:ops[j]?=some q) (h1:o.dst=some t) (h2:q.dst=some t):i=j:=by
 have hi:=(Array.getElem?_eq_some_iff.1 ho).1
 have hj:=(Array.getElem?_eq_some_iff.1 hq).1
 have:=List.all_eq_true.1 (List.all_eq_true.1 h i (List.mem_range.2 hi)) j (List.mem_range.2 hj)
 rw [ho,hq] at this
 simp only [h1,h2] at this
 simpa using this
theorem ready_spec {listed:Array Bool} {i:Nat} (h:i∈Region.ready .any ops listed):i<ops.size∧listed.getD i true=false ∧ ∀ o,ops[i]?=some o → ∀ e∈o.after,Region.binds .any e=true→listed.getD e.on false=true:=by
 unfold Region.ready at h
 rw [List.mem_filter,List.mem_range,Bool.and_eq_true] at h
 obtain ⟨h1,h2,h3⟩:=h
 refine ⟨h1,by simpa using h2,fun o ho e he hb=>?_⟩
 rw [ho] at h3
 simp only [Option.map_some,Option.getD_some] at h3
 have:=Array.all_eq_true_iff_forall_mem.1 h3 e he
 simpa [hb] using this
theorem getD_of_size {listed:Array Bool} {i:Nat} (h:i<listed.size):listed.getD i false=listed.getD i true:=by
 simp [Array.getD,h]
/-- Where none is ready, all are listed. -/
theorem all_listed (hac:acyc ops=true) {listed:Array Bool} (hs:listed.size=ops.size) (h:Region.ready .any ops listed=[]) : ∀ i,i<ops.size→listed.getD i false=true:=by
 intro i
 induction i using Nat.strongRecOn with
 | ind i ih=>
   intro hi
   cases hl:listed.getD i false with
   | true=>rfl
   | false=>
     have hmem:i∈Region.ready .any ops listed:=by
      unfold Region.ready
      rw [List.mem_filter,List.mem_range,Bool.and_eq_true]
      have ho:ops[i]?=some ops[i]:=Array.getElem?_eq_getElem hi
      refine ⟨hi,by rw [←getD_of_size (by omega),hl];rfl,?_⟩
      rw [ho]
      simp only [Option.map_some,Option.getD_some]
      rw [Array.all_eq_true_iff_forall_mem]
      intro e he
      cases hb:Region.binds .any e with
      | false=>simp
      | true=>
        have h1:=acyc_spec hac ho he hb
        rw [ih e.on h1 (by omega)]
        simp
     rw [h] at hmem
     cases hmem
/-- How many are not listed. -/
def unlisted (listed:Array Bool) (n:Nat):Nat:=((List.range n).filter fun i => !listed.getD i false).length
theorem unlisted_set {listed:Array Bool} {n i:Nat} (hi:i<n) (hs:listed.size=n) (hl:listed.getD i false=false):unlisted (listed.setIfInBounds i true) n<unlisted listed n:=by
 unfold unlisted
 have hsub:((List.range n).filter fun j => !(listed.setIfInBounds i true).getD j false).Sublist ((List.range n).filter fun j => !listed.getD j false):=by
  have:((List.range n).filter fun j => !(listed.setIfInBounds i true).getD j false)=(((List.range n).filter fun j => !listed.getD j false).filter fun j=>decide (j≠i)):=by
   rw [List.filter_filter]
   apply List.filter_congr
   intro j hj
   have hj:=List.mem_range.1 hj
   by_cases hji:j=i
   ·subst hji
    simp [Array.getD,hs,hj]
   ·have:(listed.setIfInBounds i true).getD j false=listed.getD j false:=by
     simp [Array.getD,hs,hj,Array.getElem_setIfInBounds,Ne.symm hji]
    simp [this,hji]
  rw [this]
  exact List.filter_sublist
 rcases Nat.lt_or_ge ((List.range n).filter fun j => !(listed.setIfInBounds i true).getD j false).length ((List.range n).filter fun j => !listed.getD j false).length with h | h
 ·exact h
 ·exfalso
  have heq:=hsub.eq_of_length_le h
  have hm:i∈((List.range n).filter fun j => !listed.getD j false):=by
   rw [List.mem_filter,List.mem_range]
   exact ⟨hi,by rw [hl];rfl⟩
  rw [←heq,List.mem_filter] at hm
  have:=hm.2
  simp [Array.getD,hs,hi] at this
theorem getD_set {listed:Array Bool} {i j:Nat} (hi:i<listed.size):(listed.setIfInBounds i true).getD j false=if j=i then true else listed.getD j false:=by
 by_cases hj:j=i
 ·subst hj
  simp [Array.getD,hi]
 ·rw [if_neg hj]
  simp only [Array.getD,Array.size_setIfInBounds]
  split
  ·rename_i h
   simp only [Array.getInternal_eq_getElem]
   rw [Array.getElem_setIfInBounds_ne _ (Ne.symm hj)]
  ·rfl
theorem put_at {a:Act} {d:Option Tmp} {v:Value} {t:Nat} (h:d≠some t):(a.put d v).tmps[t]?=a.tmps[t]?:=by
 cases d with
 | none=>rfl
 | some s=>
   have:s≠t:=fun e=>h (by rw [e])
   simp [Act.put,Array.getElem?_setIfInBounds,this]
theorem put_size (a:Act) (d:Option Tmp) (v:Value):(a.put d v).tmps.size=a.tmps.size:=by
 cases d<;>simp [Act.put]
theorem put_defers (a:Act) (d:Option Tmp) (v:Value):(a.put d v).defers=a.defers:=by
 cases d<;>simp [Act.put]
theorem Left.step {listed:Array Bool} {a:Act} {w w':World} {i:Nat} {o:Oper} {v:Value} (hd:apartB ops=true) (hsz : ∀ (i:Nat) o (t:Nat),ops[i]?=some o→o.dst=some t→t<a0.tmps.size)
 (h:Left ops a0 C R listed a w) (hi:i∈Region.ready .any ops listed) (ho:ops[i]?=some o) (hR:R i v w') (hC:C (listed.setIfInBounds i true) w') (hst : ∀ j u,listed.getD j false=true→R j u w→R j u w'):Left ops a0 C R (listed.setIfInBounds i true) (a.put o.dst v) w':=by
 obtain ⟨hin,hil,hdep⟩:=ready_spec hi
 have his:i<listed.size:=by rw [h.size];exact hin
 refine ⟨hC,by rw [Array.size_setIfInBounds];exact h.size,?_,by rw [put_size];exact h.tsize,by rw [put_defers];exact h.defers,?_,?_⟩
 ·intro j q hq hj e he hb
  rw [getD_set his]
  split
  ·rfl
  ·rw [getD_set his] at hj
   by_cases hji:j=i
   ·subst hji
    rw [ho] at hq
    injection hq with hq
    subst hq
    exact hdep o ho e he hb
   ·rw [if_neg hji] at hj
    exact h.closed j q hq hj e he hb
 ·intro t ht
  have h1:o.dst≠some t:=ht i o ho (by rw [getD_set his,if_pos rfl])
  rw [put_at h1]
  refine h.old t fun j q hq hj=>ht j q hq ?_
  rw [getD_set his]
  split
  ·rfl
  ·exact hj
 ·intro j q t hq hj ht
  by_cases hji:j=i
  ·subst hji
   rw [ho] at hq
   injection hq with hq
   subst hq
   refine ⟨v,?_,hR⟩
   have hlt:=hsz j o t ho ht
   rw [ht]
   simp [Act.put,h.tsize,hlt]
  ·rw [getD_set his,if_neg hji] at hj
   obtain ⟨u,h1,h2⟩:=h.new j q t hq hj ht
   refine ⟨u,?_,hst j u hj h2⟩
   rw [put_at (fun e=>hji (apart_spec hd hq ho ht e))]
   exact h1
theorem wpAny_left (hac:acyc ops=true) (hd:apartB ops=true) (hsz : ∀ (i:Nat) o (t:Nat),ops[i]?=some o→o.dst=some t→t<a0.tmps.size)
 (hstep : ∀ i o listed a w,ops[i]?=some o→i∈Region.ready .any ops listed→Left ops a0 C R listed a w→wpOp P ops Q i (fun a' w' => ∃ v,a'=a.put o.dst v∧R i v w'∧C (listed.setIfInBounds i true) w' ∧ ∀ j u,listed.getD j false=true→R j u w→R j u w') a w)
 (hend : ∀ a w listed,Left ops a0 C R listed a w→(∀ i,i<ops.size→listed.getD i false=true)→Q .normal a w) :
 ∀ (fuel:Nat) (listed:Array Bool) (a:Act) (w:World),Left ops a0 C R listed a w→unlisted listed ops.size≤fuel→wpAny P .any ops Q fuel listed a w
 | 0,listed,a,w,h,hu=>by
   have hall : ∀ i,i<ops.size→listed.getD i false=true:=by
    intro i hi
    cases hl:listed.getD i false with
    | true=>rfl
    | false=>
      have hm:i∈((List.range ops.size).filter fun i => !listed.getD i false):=by
       rw [List.mem_filter,List.mem_range]
       exact ⟨hi,by rw [hl];rfl⟩
      have:=List.length_pos_of_mem hm
      unfold unlisted at hu
      omega
   refine ⟨?_,hend a w listed h hall⟩
   rw [List.eq_nil_iff_forall_not_mem]
   intro i hi
   obtain ⟨h1,h2,_⟩:=ready_spec hi
   rw [←getD_of_size (by rw [h.size];exact h1),hall i h1] at h2
   cases h2
 | fuel+1,listed,a,w,h,hu=>by
   refine ⟨fun h0=>hend a w listed h (all_listed hac h.size h0),fun i hi=>?_⟩
   obtain ⟨h1,h2,_⟩:=ready_spec hi
   have ho:ops[i]?=some ops[i]:=Array.getElem?_eq_getElem h1
   refine wpOp_mono ?_ (hstep i _ listed a w ho hi h)
   rintro a' w' ⟨v,rfl,hR,hC,hst⟩
   refine wpAny_left hac hd hsz hstep hend fuel _ _ _ (h.step hd hsz hi ho hR hC hst) ?_
   have:=unlisted_set h1 h.size (by rw [getD_of_size (by rw [h.size];exact h1)];exact h2)
   omega
/-- The region's law. -/
theorem wp_region_listed {id:Nat} {w0:World} (hm:P.follows .mixedOrders=true) (hac:acyc ops=true) (hd:apartB ops=true) (hsz : ∀ (i:Nat) o (t:Nat),ops[i]?=some o→o.dst=some t→t<a0.tmps.size)
 (hC:C (Array.replicate ops.size false) { w0 with drawn:=w0.drawn+1 })
 (hstep : ∀ i o listed a w,ops[i]?=some o→i∈Region.ready .any ops listed→Left ops a0 C R listed a w→wpOp P ops Q i (fun a' w' => ∃ v,a'=a.put o.dst v∧R i v w'∧C (listed.setIfInBounds i true) w' ∧ ∀ j u,listed.getD j false=true→R j u w→R j u w') a w)
 (hend : ∀ a w listed,Left ops a0 C R listed a w→(∀ i,i<ops.size→listed.getD i false=true)→Q .normal a w):(Code.region id ops true).wp P Q a0 w0:=by
 refine wp_region_any hm (wpAny_left hac hd hsz hstep hend _ _ _ _ ⟨hC,by simp,?_,rfl,rfl,fun _ _=>rfl,?_⟩ ?_)
 ·intro i o ho hl
  exfalso
  have hi:=(Array.getElem?_eq_some_iff.1 ho).1
  simp [Array.getD,hi] at hl
 ·intro i o t ho hl
  exfalso
  have hi:=(Array.getElem?_eq_some_iff.1 ho).1
  simp [Array.getD,hi] at hl
 ·unfold unlisted
  exact Nat.le_trans (List.length_filter_le _ _) (by simp)
/-- What an operation reads: as it was, or what an earlier one has left. -/
def oldB (ops:Array Oper) (i t:Nat):Bool:=(List.range ops.size).all fun j=>match ops[j]? with
 | some q=>decide (q.dst≠some t)||decide (j=i)||q.after.any fun e=>Region.binds .any e&&decide (e.on=i)
 | none=>true
def newB (ops:Array Oper) (i j t:Nat):Bool:=match ops[i]?,ops[j]? with
 | some o,some q=>decide (q.dst=some t)&&o.after.any fun e=>Region.binds .any e&&decide (e.on=j)
 | _,_=>false
theorem Left.get_old {listed:Array Bool} {a:Act} {w:World} {i t:Nat} (h:Left ops a0 C R listed a w) (hi:i∈Region.ready .any ops listed) (hb:oldB ops i t=true):a.eval (.tmp t)=a0.eval (.tmp t):=by
 obtain ⟨hin,hil,_⟩:=ready_spec hi
 have key:a.tmps[t]?=a0.tmps[t]?:=by
  refine h.old t fun j q hq hj ht=>?_
  have hjn:=(Array.getElem?_eq_some_iff.1 hq).1
  have h1:=List.all_eq_true.1 hb j (List.mem_range.2 hjn)
  rw [hq] at h1
  simp only [Bool.or_eq_true,decide_eq_true_eq] at h1
  rcases h1 with (h1 | h1) | h1
  ·exact h1 ht
  ·subst h1
   rw [getD_of_size (by rw [h.size];exact hin),hil] at hj
   cases hj
  ·rw [Array.any_eq_true'] at h1
   obtain ⟨e,he,h2⟩:=h1
   simp only [Bool.and_eq_true,decide_eq_true_eq] at h2
   have:=h.closed j q hq hj e he h2.1
   rw [h2.2,getD_of_size (by rw [h.size];exact hin),hil] at this
   cases this
 simp only [Act.eval,Array.getD_eq_getD_getElem?,key]
theorem Left.get_new {listed:Array Bool} {a:Act} {w:World} {i j t:Nat} (h:Left ops a0 C R listed a w) (hi:i∈Region.ready .any ops listed) (hb:newB ops i j t=true):R j (a.eval (.tmp t)) w:=by
 obtain ⟨hin,hil,hdep⟩:=ready_spec hi
 unfold newB at hb
 split at hb
 ·rename_i o q ho hq
  simp only [Bool.and_eq_true,decide_eq_true_eq] at hb
  obtain ⟨h1,h2⟩:=hb
  rw [Array.any_eq_true'] at h2
  obtain ⟨e,he,h3⟩:=h2
  simp only [Bool.and_eq_true,decide_eq_true_eq] at h3
  have hj:=hdep o ho e he h3.1
  rw [h3.2] at hj
  obtain ⟨v,h4,h5⟩:=h.new j q t hq hj h1
  simp only [Act.eval,Array.getD_eq_getD_getElem?,h4,Option.getD_some]
  exact h5
 ·cases hb
def waitsB (ops:Array Oper) (j i:Nat):Bool:=match ops[j]? with
 | some q=>q.after.any fun e=>Region.binds .any e&&decide (e.on=i)
 | none=>false
/-- What waits for an operation is not listed ahead of it. -/
theorem Left.later {listed:Array Bool} {a:Act} {w:World} {i j:Nat} (h:Left ops a0 C R listed a w) (hi:i∈Region.ready .any ops listed) (hb:waitsB ops j i=true):listed.getD j false=false:=by
 obtain ⟨hin,hil,_⟩:=ready_spec hi
 cases hj:listed.getD j false with
 | false=>rfl
 | true=>
   exfalso
   unfold waitsB at hb
   split at hb
   ·rename_i q hq
    rw [Array.any_eq_true'] at hb
    obtain ⟨e,he,h2⟩:=hb
    simp only [Bool.and_eq_true,decide_eq_true_eq] at h2
    have:=h.closed j q hq hj e he h2.1
    rw [h2.2,getD_of_size (by rw [h.size];exact hin),hil] at this
    cases this
   ·cases hb
theorem step_wp {i:Nat} {o:Oper} {a:Act} {w:World} {K:Act→World→Prop} (ho:ops[i]?=some o) (hg:o.guard=none) (h:o.wp P a w K Q):wpOp P ops Q i K a w:=by
 unfold wpOp
 rw [ho]
 simp only
 rw [if_pos (by simp [Region.wanted,hg])]
 exact .inl h
def putAll (vs:Nat→Value):List Oper→Nat→Act→Act
 | [],_,a=>a
 | o::l,k,a=>putAll vs l (k+1) (a.put o.dst (vs k))
theorem putAll_defers (vs:Nat→Value) : ∀ (l:List Oper) (k:Nat) (a:Act),(putAll vs l k a).defers=a.defers
 | [],_,_=>rfl
 | o::l,k,a=>by rw [putAll,putAll_defers vs l,put_defers]
theorem putAll_old (vs:Nat→Value) {t:Nat} : ∀ (l:List Oper) (k:Nat) (a:Act),(∀ o∈l,o.dst≠some t)→(putAll vs l k a).tmps[t]?=a.tmps[t]?
 | [],_,_,_=>rfl
 | o::l,k,a,h=>by rw [putAll,putAll_old vs l _ _ (fun q hq=>h q (by simp [hq])),put_at (h o (by simp))]
theorem putAll_new (vs:Nat→Value) {t:Nat} : ∀ (l:List Oper) (k:Nat) (a:Act) (i:Nat) (o:Oper),l[i]?=some o→o.dst=some t→t<a.tmps.size→(∀ j q,l[j]?=some q→q.dst=some t→j=i)→(putAll vs l k a).tmps[t]?=some (vs (k+i))
 | [],_,_,i,o,h,_,_,_=>by simp at h
 | q::l,k,a,0,o,h,ht,hlt,hu=>by
   simp only [List.getElem?_cons_zero,Option.some.injEq] at h
   subst h
   rw [putAll,putAll_old vs l]
   ·rw [ht];simp [Act.put,hlt]
   ·intro r hr hrt
    obtain ⟨j,hj⟩:=List.getElem?_of_mem hr
    have:=hu (j+1) r (by simpa using hj) hrt
    omega
 | q::l,k,a,i+1,o,h,ht,hlt,hu=>by
   rw [putAll,putAll_new vs l (k+1) _ i o (by simpa using h) ht (by rw [put_size];exact hlt) (fun j r hj hr=>by have:=hu (j+1) r (by simpa using hj) hr;omega)]
   congr 2
   omega
theorem act_ext {a b:Act} (h1:a.tmps=b.tmps) (h2:a.defers=b.defers):a=b:=by
 cases a;cases b;simp only at h1 h2;rw [h1,h2]
/-- Behind the region: the frame, written out. -/
theorem Left.frame {l:List Oper} {listed:Array Bool} {a:Act} {w:World} (hd:apartB l.toArray=true) (hsz : ∀ (i:Nat) o (t:Nat),l.toArray[i]?=some o→o.dst=some t→t<a0.tmps.size)
 (h:Left l.toArray a0 C R listed a w) (hall : ∀ i,i<l.toArray.size→listed.getD i false=true) :
 ∃ vs:Nat→Value,a=putAll vs l 0 a0 ∧ ∀ (i:Nat) o (t:Nat),l[i]?=some o→o.dst=some t→R i (vs i) w:=by
 refine ⟨fun i=>match l[i]? with | some o=>(match o.dst with | some t=>a.tmps.getD t undef | none=>undef) | none=>undef,?_,?_⟩
 ·have h1:a.defers=(putAll (fun i=>match l[i]? with | some o=>(match o.dst with | some t=>a.tmps.getD t undef | none=>undef) | none=>undef) l 0 a0).defers:=by rw [putAll_defers,h.defers]
  have h2:a.tmps=(putAll (fun i=>match l[i]? with | some o=>(match o.dst with | some t=>a.tmps.getD t undef | none=>undef) | none=>undef) l 0 a0).tmps:=by
   apply Array.ext_getElem?
   intro t
   by_cases ht : ∃ (i:Nat) (o:Oper),l[i]?=some o∧o.dst=some t
   ·obtain ⟨i,o,hl,hdst⟩:=ht
    have hla:l.toArray[i]?=some o:=by simpa using hl
    have hin:=(List.getElem?_eq_some_iff.1 hl).1
    obtain ⟨v,hv,_⟩:=h.new i o t hla (hall i (by simpa using hin)) hdst
    rw [putAll_new _ l 0 a0 i o hl hdst (hsz i o t hla hdst) (fun j q hj hq=>apart_spec hd (by simpa using hj) hla hq hdst),hv]
    simp [hl,hdst,Array.getD_eq_getD_getElem?,hv]
   ·rw [putAll_old _ l 0 a0 (fun o ho hdst=>by
     obtain ⟨i,hi⟩:=List.getElem?_of_mem ho
     exact ht ⟨i,o,hi,hdst⟩)]
    exact h.old t fun i o hl _ hdst=>ht ⟨i,o,by simpa using hl,hdst⟩
  exact act_ext h2 h1
 ·intro i o t hl hdst
  have hla:l.toArray[i]?=some o:=by simpa using hl
  have hin:=(List.getElem?_eq_some_iff.1 hl).1
  obtain ⟨v,hv,hR⟩:=h.new i o t hla (hall i (by simpa using hin)) hdst
  simp only [hl,hdst,Array.getD_eq_getD_getElem?,hv,Option.getD_some]
  exact hR
def sizesB (ops:Array Oper) (n:Nat):Bool:=ops.all fun o=>match o.dst with
 | some t=>decide (t<n)
 | none=>true
theorem sizes_spec {n:Nat} (h:sizesB ops n=true) (i:Nat) (o:Oper) (t:Nat) (ho:ops[i]?=some o) (hd:o.dst=some t):t<n:=by
 obtain ⟨hi,he⟩:=Array.getElem?_eq_some_iff.1 ho
 have:=Array.all_eq_true_iff_forall_mem.1 h o (by rw [←he];exact Array.getElem_mem hi)
 rw [hd] at this
 simpa using this
end
end Go.Proofs.YtlojebhcemfodaaGreatDoor
namespace Go.Proofs.YtlojebhcemfodaaGreatDoor
open Go.RowKit
theorem slot_eval (a:Act) (t:Nat):a.tmps[t]?.getD undef=a.eval (.tmp t):=by simp [Act.eval]
theorem wp_val' {P:Program} {o:Oper} {a:Act} {w w':World} {v:Value} {K:Act→World→Prop} {Q:Exit→Act→World→Prop} (hrun:(execOp a.eval o).run P w = .ok (.value v) w') (hK:K (a.put o.dst v) w'):o.wp P a w K Q:=by
 unfold Oper.wp
 rw [hrun]
 exact hK
theorem wp_val {P:Program} {o:Oper} {a:Act} {w:World} {v:Value} {K:Act→World→Prop} {Q:Exit→Act→World→Prop} (hrun:(execOp a.eval o).run P w = .ok (.value v) w) (hK:K (a.put o.dst v) w):o.wp P a w K Q:=wp_val' hrun hK
section
variable {P:Program} {ops:Array Oper} {a0:Act} {C:Array Bool→World→Prop} {R:Nat→Value→World→Prop} {listed:Array Bool} {a:Act} {w:World} {i j k:Nat}
/-- What operation j waits for, if j is listed, is listed. -/
theorem Left.earlier (h:Left ops a0 C R listed a w) (hl:listed.getD j false=true) (hb:waitsB ops j k=true):listed.getD k false=true:=by
 unfold waitsB at hb
 split at hb
 ·rename_i q hq
  rw [Array.any_eq_true'] at hb
  obtain ⟨e,he,h2⟩:=hb
  simp only [Bool.and_eq_true,decide_eq_true_eq] at h2
  have:=h.closed j q hq hl e he h2.1
  rwa [h2.2] at this
 ·cases hb
theorem Left.later2 (h:Left ops a0 C R listed a w) (hl:listed.getD k false=false) (hb:waitsB ops j k=true):listed.getD j false=false:=by
 cases hj:listed.getD j false with
 | false=>rfl
 | true=>have:=h.earlier hj hb;rw [hl] at this;cases this
theorem Left.before (_:Left ops a0 C R listed a w) (hi:i∈Region.ready .any ops listed) (hb:waitsB ops i j=true):listed.getD j false=true:=by
 unfold waitsB at hb
 split at hb
 ·rename_i q hq
  rw [Array.any_eq_true'] at hb
  obtain ⟨e,he,h2⟩:=hb
  simp only [Bool.and_eq_true,decide_eq_true_eq] at h2
  have:=(ready_spec hi).2.2 q hq e he h2.1
  rwa [h2.2] at this
 ·cases hb
end
end Go.Proofs.YtlojebhcemfodaaGreatDoor
namespace Go.Proofs.YtlojebhcemfodaaGreatDoor
open Go.RowKit
theorem lit_build {P:Program} {w:World} {ops:Array Oper} {rest:List Oper} {a:Act} {Q:Exit→Act→World→Prop} {d:Option Tmp} {T rt:TypeId} {pos:String} {af:Array Edge} {fs:Array (Nat×Operand)} (vals:List (Nat×Value)) (cs:Array Value) (hb:P.built T vals=some cs)
 (hv:(fs.map fun (i,x)=>(i,a.eval x)).toList=vals) (h:wpList P ops Q rest (a.put d (.agg cs)) w):wpList P ops Q ({ dst:=d,op := .build T fs,type:=rt,pos:=pos,after:=af,guard:=none }::rest) a w:=
 wpList_plain rfl fun _ hK=>wp_build _ _ rfl (by rw [hv,hb];rfl) (by rw [hv,hb];exact hK _ _ h)
theorem lit_build1 {P:Program} {w:World} {ops:Array Oper} {rest:List Oper} {a:Act} {Q:Exit→Act→World→Prop} {d:Option Tmp} {T rt:TypeId} {pos:String} {af:Array Edge} {i0:Nat} {x0:Operand} {v0:Value} {cs:Array Value} (hb:P.built T [(i0,v0)]=some cs)
 (h0:a.eval x0=v0) (h:wpList P ops Q rest (a.put d (.agg cs)) w):wpList P ops Q ({ dst:=d,op := .build T #[(i0,x0)],type:=rt,pos:=pos,after:=af,guard:=none }::rest) a w:=
 lit_build [(i0,v0)] cs hb (by simp [h0]) h
theorem lit_build2 {P:Program} {w:World} {ops:Array Oper} {rest:List Oper} {a:Act} {Q:Exit→Act→World→Prop} {d:Option Tmp} {T rt:TypeId} {pos:String} {af:Array Edge} {i0 i1:Nat} {x0 x1:Operand} {v0 v1:Value} {cs:Array Value} (hb:P.built T [(i0,v0),(i1,v1)]=some cs)
 (h0:a.eval x0=v0) (h1:a.eval x1=v1) (h:wpList P ops Q rest (a.put d (.agg cs)) w):wpList P ops Q ({ dst:=d,op := .build T #[(i0,x0),(i1,x1)],type:=rt,pos:=pos,after:=af,guard:=none }::rest) a w:=
 lit_build [(i0,v0),(i1,v1)] cs hb (by simp [h0,h1]) h
theorem lit_build3 {P:Program} {w:World} {ops:Array Oper} {rest:List Oper} {a:Act} {Q:Exit→Act→World→Prop} {d:Option Tmp} {T rt:TypeId} {pos:String} {af:Array Edge} {i0 i1 i2:Nat} {x0 x1 x2:Operand} {v0 v1 v2:Value} {cs:Array Value} (hb:P.built T [(i0,v0),(i1,v1),(i2,v2)]=some cs)
 (h0:a.eval x0=v0) (h1:a.eval x1=v1) (h2:a.eval x2=v2) (h:wpList P ops Q rest (a.put d (.agg cs)) w):wpList P ops Q ({ dst:=d,op := .build T #[(i0,x0),(i1,x1),(i2,x2)],type:=rt,pos:=pos,after:=af,guard:=none }::rest) a w:=
 lit_build [(i0,v0),(i1,v1),(i2,v2)] cs hb (by simp [h0,h1,h2]) h
theorem lit_build4 {P:Program} {w:World} {ops:Array Oper} {rest:List Oper} {a:Act} {Q:Exit→Act→World→Prop} {d:Option Tmp} {T rt:TypeId} {pos:String} {af:Array Edge} {i0 i1 i2 i3:Nat} {x0 x1 x2 x3:Operand} {v0 v1 v2 v3:Value} {cs:Array Value} (hb:P.built T [(i0,v0),(i1,v1),(i2,v2),(i3,v3)]=some cs)
 (h0:a.eval x0=v0) (h1:a.eval x1=v1) (h2:a.eval x2=v2) (h3:a.eval x3=v3) (h:wpList P ops Q rest (a.put d (.agg cs)) w):wpList P ops Q ({ dst:=d,op := .build T #[(i0,x0),(i1,x1),(i2,x2),(i3,x3)],type:=rt,pos:=pos,after:=af,guard:=none }::rest) a w:=
 lit_build [(i0,v0),(i1,v1),(i2,v2),(i3,v3)] cs hb (by simp [h0,h1,h2,h3]) h
/-- A slice of one element of several cells. -/
theorem lit_slice1 {P:Program} {w:World} {ops:Array Oper} {rest:List Oper} {a:Act} {Q:Exit→Act→World→Prop} {d:Option Tmp} {rt:TypeId} {pos:String} {af:Array Edge} (x:Operand) {t e:TypeId} {z:Value} {size bytes:Nat} (hT:SliceTy P t e z size bytes) (cs:Array Value) (hcs:cs.size=size) (hsm:size≤1000) (hx:a.eval x = .agg cs)
 (h:wpList P ops Q rest (a.put d (.slice (some ⟨w.heap.size,0,none⟩) 1 1)) (w.alloc (.cells cs e))) :
 wpList P ops Q ({ dst:=d,op := .buildSlice t 1 #[(0,x)],type:=rt,pos:=pos,after:=af,guard:=none }::rest) a w:=
 wpList_plain rfl fun _ hK=>by
  have e1:((#[(0,x)]:Array (Nat×Operand)).map fun (i,x)=>(i,a.eval x)) = #[(0, .agg cs)]:=by simp [hx]
  have hrun:(Instr.buildSlice t 1 #[(0, .agg cs)]).run P w = .ok (.slice (some ⟨w.heap.size,0,none⟩) 1 1) (w.alloc (.cells cs e)):=by
   obtain ⟨it,hi,hz,hs,hb⟩:=hT.hi
   have h0:=hT.hsz
   refine run_buildSlice w _ _ 1 _ _ it _ hT.ht hi hz (by rw [hs];omega) (by rw [hs];omega) ?_
   rw [hs]
   have:=Great.fill_whole (s:=size) (by omega) [Value.agg cs] ((Array.range (1*size)).map (z.cells[· % z.cells.size]!)) (by
    intro v hv
    simp at hv
    subst hv
    exact hcs) (by simp)
   simpa [Value.cells] using this
  unfold Oper.wp execOp
  simp only [Sem.run_bind,e1,hrun,Result.andThen_ok]
  exact hK _ _ h
/-- append of one element that was just laid. -/
theorem lit_append_new {P:Program} {ops:Array Oper} {rest:List Oper} {a:Act} {W:World} {Q:Exit→Act→World→Prop} {d:Option Tmp} {rt:TypeId} {pos:String} {af:Array Edge}
 (s x:Operand) (c:Nat) (t:TypeId) {e:TypeId} {z:Value} {size bytes:Nat} (hT:SliceTy P t e z size bytes) {base n:Nat} {v:Value} {xs:List Value} (hown:W.ownsRow base e size v n xs)
 (cs:Array Value) {t':TypeId} (hl:cs.size=1*size) (h1 : ∀ u∈cs.toList,u.oneCell'=true) (h63:n+1≤9223372036854775807) (hbytes:(n+1)*bytes≤140737488355328) (hbase:base≤W.heap.size)
 (hs:a.eval s=v) (hx:a.eval x = .slice (some ⟨W.heap.size,0,none⟩) 1 c)
 (h : ∀ v' w',w'.ownsRow base e size v' (n+1) (xs++cs.toList)→Below base W w'→W.grownBy w' v.ownBlock→Newer W v v'→wpList P ops Q rest (a.put d v') w') :
 wpList P ops Q ({ dst:=d,op := .call { callee := .builtin .append,args := #[s,x],argTypes := #[t,t] },type:=rt,pos:=pos,after:=af,guard:=none }::rest) a (W.alloc (.cells cs t')):=by
 have hb0:Below W.heap.size W (W.alloc (.cells cs t')):=(Below.refl _ _).alloc (Nat.le_refl _) _
 have hown':=own_below hown hb0
 refine lit_append_at s x c t hT hown' (Blk.new W t' cs) hl h1 h63 hbytes (Nat.le_trans hbase hb0.size) hs hx ?_
 intro v' w' ho hg hn
 have hbel:Below base W w':=(hb0.mono hbase).grown hg (Nat.le_trans hbase hb0.size) (fun k hk=>(World.ownsRow.lt hown' k hk).1)
 have hg':W.grownBy w' v.ownBlock:=⟨hbel.os,hbel.tape,hbel.output,hbel.size,fun k hk hne=>(hg.block k (Nat.lt_of_lt_of_le hk hb0.size) hne).trans (hb0.block k hk)⟩
 exact h v' w' ho hbel hg' ((Newer.refl W v).then_ hn hb0.size)
end Go.Proofs.YtlojebhcemfodaaGreatDoor
namespace Go.Proofs.YtlojebhcemfodaaGreatDoor
open Go.RowKit
/-- Ahead of operation ap; behind it; behind operation st. -/
def Stage (ap st:Nat) (P1 P2 P3:World→Prop) (listed:Array Bool) (w:World):Prop:=
 if listed.getD st false=true then P3 w else if listed.getD ap false=true then P2 w else P1 w
section
variable {ap st i n:Nat} {P1 P2 P3:World→Prop} {listed:Array Bool} {w w':World}
theorem getD_other {l:Array Bool} {i j:Nat} (h:i≠j):(l.setIfInBounds i true).getD j false=l.getD j false:=by
 simp only [Array.getD_eq_getD_getElem?,Array.getElem?_setIfInBounds]
 rw [if_neg h]
theorem getD_here {l:Array Bool} {i:Nat} (h:i<l.size):(l.setIfInBounds i true).getD i false=true:=by
 simp [Array.getD_eq_getD_getElem?,Array.getElem?_setIfInBounds,h]
theorem getD_none (n i:Nat):(Array.replicate n false).getD i false=false:=by
 simp only [Array.getD_eq_getD_getElem?,Array.getElem?_replicate]
 split<;>rfl
theorem Stage.same (h:Stage ap st P1 P2 P3 listed w) (h1:i≠ap) (h2:i≠st):Stage ap st P1 P2 P3 (listed.setIfInBounds i true) w:=by
 unfold Stage at *
 rwa [getD_other h1,getD_other h2]
theorem Stage.start (h:P1 w):Stage ap st P1 P2 P3 (Array.replicate n false) w:=by
 unfold Stage
 rw [getD_none,getD_none,if_neg (by simp),if_neg (by simp)]
 exact h
theorem Stage.one (h:Stage ap st P1 P2 P3 listed w) (ha:listed.getD ap false=false) (hs:listed.getD st false=false):P1 w:=by
 unfold Stage at h
 rwa [ha,hs,if_neg (by simp),if_neg (by simp)] at h
theorem Stage.two (h:Stage ap st P1 P2 P3 listed w) (ha:listed.getD ap false=true) (hs:listed.getD st false=false):P2 w:=by
 unfold Stage at h
 rwa [ha,hs,if_neg (by simp),if_pos rfl] at h
theorem Stage.three (h:Stage ap st P1 P2 P3 listed w) (hs:listed.getD st false=true):P3 w:=by
 unfold Stage at h
 rwa [hs,if_pos rfl] at h
theorem Stage.to1 (h:P1 w) (ha:listed.getD ap false=false) (hs:listed.getD st false=false) (h1:i≠ap) (h2:i≠st):Stage ap st P1 P2 P3 (listed.setIfInBounds i true) w:=by
 unfold Stage
 rw [getD_other h1,getD_other h2,ha,hs,if_neg (by simp),if_neg (by simp)]
 exact h
theorem Stage.to2 (h:P2 w) (hs:listed.getD st false=false) (hi:ap<listed.size) (hne:ap≠st):Stage ap st P1 P2 P3 (listed.setIfInBounds ap true) w:=by
 unfold Stage
 rw [getD_other hne,getD_here hi,hs,if_neg (by simp),if_pos rfl]
 exact h
theorem Stage.to3 (h:P3 w) (hi:st<listed.size):Stage ap st P1 P2 P3 (listed.setIfInBounds st true) w:=by
 unfold Stage
 rw [getD_here hi,if_pos rfl]
 exact h
end
/-- What each operation leaves: a slice written out (li), what append gives (ap), else a value. -/
def StR (V:Nat→Value) (li ap:Nat) (L Q:Value→World→Prop) (i:Nat) (v:Value) (w:World):Prop:=if i=li then L v w else if i=ap then Q v w else v=V i
section
variable {V:Nat→Value} {li ap i:Nat} {L Q:Value→World→Prop} {v:Value} {w w':World}
theorem StR.at_ (h:StR V li ap L Q i v w) (h1:i≠li) (h2:i≠ap):v=V i:=by
 unfold StR at h
 rwa [if_neg h1,if_neg h2] at h
theorem StR.mk (h1:i≠li) (h2:i≠ap) (h:v=V i):StR V li ap L Q i v w:=by
 unfold StR
 rwa [if_neg h1,if_neg h2]
theorem StR.lit (h:StR V li ap L Q li v w):L v w:=by
 unfold StR at h
 rwa [if_pos rfl] at h
theorem StR.mkLit (h:L v w):StR V li ap L Q li v w:=by
 unfold StR
 rwa [if_pos rfl]
theorem StR.app (h:StR V li ap L Q ap v w) (hne:ap≠li):Q v w:=by
 unfold StR at h
 rwa [if_neg hne,if_pos rfl] at h
theorem StR.mkApp (h:Q v w) (hne:ap≠li):StR V li ap L Q ap v w:=by
 unfold StR
 rwa [if_neg hne,if_pos rfl]
theorem StR.keepL (hL : ∀ v,L v w→L v w') (hne:i≠ap) (h:StR V li ap L Q i v w):StR V li ap L Q i v w':=by
 unfold StR at *
 split
 ·rename_i hj;rw [if_pos hj] at h;exact hL v h
 ·rename_i hj
  rw [if_neg hj,if_neg hne] at h
  first
   | exact h
   | (rw [if_neg hne];exact h)
theorem StR.keepN (h1:i≠li) (h2:i≠ap) (h:StR V li ap L Q i v w):StR V li ap L Q i v w':=by
 unfold StR at *
 rwa [if_neg h1,if_neg h2] at *
theorem StR.keep (hL : ∀ v,L v w→L v w') (hQ : ∀ v,Q v w→Q v w') (j:Nat) (u:Value) (h:StR V li ap L Q j u w):StR V li ap L Q j u w':=by
 unfold StR at *
 split
 ·rename_i hj;rw [if_pos hj] at h;exact hL u h
 ·rename_i hj
  rw [if_neg hj] at h
  split
  ·rename_i hj2;rw [if_pos hj2] at h;exact hQ u h
  ·rename_i hj2;rwa [if_neg hj2] at h
end
theorem wp_skip {P:Program} {o:Oper} {a:Act} {w w':World} {K:Act→World→Prop} {Q:Exit→Act→World→Prop} (hrun:(execOp a.eval o).run P w = .ok .skip w') (hK:K (a.put o.dst undef) w'):o.wp P a w K Q:=by
 unfold Oper.wp
 rw [hrun]
 exact hK
theorem map1 {a:Act} {x:Operand} {v:Value} (h:a.eval x=v) : #[x].map a.eval = #[v]:=by simp [h]
theorem map3 {a:Act} {x y z:Operand} {v u t:Value} (h:a.eval x=v) (h2:a.eval y=u) (h3:a.eval z=t) : #[x,y,z].map a.eval = #[v,u,t]:=by simp [h,h2,h3]
/-- A call of a function whose contract is known. -/
theorem call_step {P:Program} {o:Oper} {a:Act} {w:World} {K:Act→World→Prop} {Q:Exit→Act→World→Prop} {f:FuncId} {args:Array Operand} {tys:Array TypeId} (ho:o.op = .call { callee := .value (.func f),args:=args,argTypes:=tys })
 {vals:Array Value} (hv:args.map a.eval=vals) (hcf:(callFunc f vals).run P w = .ok (.enter f vals) w) {R:Ending→World→Prop} (hc:Calls P f vals w R) (hK : ∀ e w',R e w' → ∃ v,e = .returned v∧K (a.put o.dst v) w'):o.wp P a w K Q:=by
 subst hv
 unfold Oper.wp execOp
 simp only [ho]
 go_simp
 refine hc.mono ?_
 intro e w' hR
 obtain ⟨v,rfl,hk⟩:=hK e w' hR
 exact hk
/-- A struct is written out. -/
theorem build_step {P:Program} {o:Oper} {a:Act} {w:World} {K:Act→World→Prop} {Q:Exit→Act→World→Prop} {T:TypeId} {fs:Array (Nat×Operand)} (ho:o.op = .build T fs) {vals:List (Nat×Value)} {cs:Array Value} (hb:P.built T vals=some cs)
 (hv:(fs.map fun (i,x)=>(i,a.eval x)).toList=vals) (h:K (a.put o.dst (.agg cs)) w):o.wp P a w K Q:=
 wp_build _ _ ho (by rw [hv,hb];rfl) (by rw [hv,hb];exact h)
theorem parts2 {a:Act} {i j:Nat} {x y:Operand} {v u:Value} (h:a.eval x=v) (h2:a.eval y=u):((#[(i,x),(j,y)]:Array (Nat×Operand)).map fun (i,x)=>(i,a.eval x)).toList=[(i,v),(j,u)]:=by simp [h,h2]
theorem parts3 {a:Act} {i j k:Nat} {x y z:Operand} {v u t:Value} (h:a.eval x=v) (h2:a.eval y=u) (h3:a.eval z=t):((#[(i,x),(j,y),(k,z)]:Array (Nat×Operand)).map fun (i,x)=>(i,a.eval x)).toList=[(i,v),(j,u),(k,t)]:=by simp [h,h2,h3]
theorem slot_is {a:Act} {t:Nat} {v:Value} (h:a.tmps[t]?.getD undef=v):a.eval (.tmp t)=v:=(slot_eval a t).symm.trans h
/-- A field's block, the slice that it holds, and what else lies there. -/
structure F1 (B gO:Nat) (TO:TypeId) (cO:Array Value) (e:TypeId) (k:Nat) (ve:Value) (n:Nat) (xs:List Value) (I J:World→Prop) (w:World):Prop where
 blk:Blk w gO TO cO
 own:w.ownsRow B e k ve n xs
 inv:I w
 pre:J w
 size:B≤w.heap.size
structure F2 (B gO:Nat) (TO:TypeId) (cO:Array Value) (I:World→Prop) (w:World):Prop where
 blk:Blk w gO TO cO
 inv:I w
 size:B≤w.heap.size
def F3 (B gO off:Nat) (TO:TypeId) (cO:Array Value) (e:TypeId) (k:Nat) (n:Nat) (xs ys:List Value) (I:World→Prop) (w:World):Prop:=
 ∃ v',Blk w gO TO (cO.setIfInBounds off v')∧w.ownsRow B e k v' (n+1) (xs++ys)∧I w∧B≤w.heap.size
def LitR (B:Nat) (e:TypeId) (ve:Value) (ys:List Value) (v:Value) (w:World):Prop := ∃ b,v = .slice (some ⟨b,0,none⟩) 1 1∧Blk w b e ys.toArray∧B≤b∧ve.ownBlock≠some b
def AppR (B:Nat) (e:TypeId) (k n:Nat) (xs ys:List Value) (v:Value) (w:World):Prop:=w.ownsRow B e k v (n+1) (xs++ys)
section
variable {B gO off:Nat} {TO e:TypeId} {cO:Array Value} {k:Nat} {ve:Value} {n:Nat} {xs ys:List Value} {I J:World→Prop} {w w':World}
theorem F1.below (h:F1 B gO TO cO e k ve n xs I J w) (hb:Below w.heap.size w w') (hI:I w') (hJ:J w'):F1 B gO TO cO e k ve n xs I J w':=
 ⟨h.blk.below hb h.blk.lt,own_below h.own hb,hI,hJ,Nat.le_trans h.size hb.size⟩
theorem F1.far {S:List (Option Nat)} (h:F1 B gO TO cO e k ve n xs I J w) (hf:Far S w w') (hO:some gO ∉ S) (hS : ∀ k,some k∈S→k<B) (hI:I w') (hJ:J w'):F1 B gO TO cO e k ve n xs I J w':=
 ⟨hf.blk h.blk hO,hf.own h.own (fun k hk hm=>by have h1:=(World.ownsRow.lt h.own k hk).1;have h2:=hS k hm;omega),hI,hJ,Nat.le_trans h.size hf.size⟩
theorem LitR.below {v:Value} (h:LitR B e ve ys v w) (hb:Below w.heap.size w w'):LitR B e ve ys v w':=by
 obtain ⟨b,h1,h2,h3,h4⟩:=h
 exact ⟨b,h1,h2.below hb h2.lt,h3,h4⟩
theorem AppR.below {v:Value} (h:AppR B e k n xs ys v w) (hb:Below w.heap.size w w'):AppR B e k n xs ys v w':=own_below h hb
/-- Far-reaching: a block that is neither. -/
theorem LitR.set_ {v:Value} {p:Addr} (h:LitR B e ve ys v w) (hp:p.block<B) (u:Value):LitR B e ve ys v (w.setCell p u):=by
 obtain ⟨b,h1,h2,h3,h4⟩:=h
 exact ⟨b,h1,h2.far (by omega) u,h3,h4⟩
theorem own_set {v:Value} {m:Nat} {zs:List Value} {p:Addr} (h:w.ownsRow B e k v m zs) (hp:p.block<B) (u:Value):(w.setCell p u).ownsRow B e k v m zs:=by
 refine Far.own (S:=[some p.block]) ((Far.refl _ w).set_ (.inl (by simp)) u) h ?_
 intro q hq
 have:=(World.ownsRow.lt h q hq).1
 simp;omega
variable {P:Program}
/-- The slice is written out. -/
theorem slice_step {a:Act} {o:Oper} {K:Act→World→Prop} {Q:Exit→Act→World→Prop} {x:Operand} {t:TypeId} {z:Value} {size bytes:Nat} (ho:o.op = .buildSlice t 1 #[(0,x)]) (hT:SliceTy P t e z size bytes) (hle:size≤65536) (hy:ys.length=size) (hx:a.eval x = .agg ys.toArray∨(size=1∧ys=[a.eval x]∧(a.eval x).cells = #[a.eval x]))
 (h:K (a.put o.dst (.slice (some ⟨w.heap.size,0,none⟩) 1 1)) (w.alloc (.cells ys.toArray e))):o.wp P a w K Q:=by
 obtain ⟨v,hv,hc⟩ : ∃ v,a.eval x=v∧v.cells.toList=ys:=by
  rcases hx with hx | ⟨_,h2,h3⟩
  ·exact ⟨_,hx,by simp [Value.cells]⟩
  ·exact ⟨_,rfl,by rw [h3,h2]⟩
 have e1:((#[(0,x)]:Array (Nat×Operand)).map fun (i,x)=>(i,a.eval x)) = #[(0,v)]:=by simp [hv]
 have hrun:(Instr.buildSlice t 1 #[(0,v)]).run P w = .ok (.slice (some ⟨w.heap.size,0,none⟩) 1 1) (w.alloc (.cells ys.toArray e)):=by
  obtain ⟨it,hi,hz,hs,hb⟩:=hT.hi
  have h0:=hT.hsz
  refine run_buildSlice w _ _ 1 _ _ it _ hT.ht hi hz (by rw [hs];omega) (by rw [hs];omega) ?_
  rw [hs]
  have:=Great.fill_whole (s:=size) (by omega) [v] ((Array.range (1*size)).map (z.cells[· % z.cells.size]!)) (by
   intro u hu
   simp at hu
   subst hu
   rw [←Array.length_toList,hc]
   exact hy) (by simp)
  simpa [hc] using this
 unfold Oper.wp execOp
 simp only [ho,Sem.run_bind,e1,hrun,Result.andThen_ok]
 exact h
/-- It is appended. -/
theorem app_step {a:Act} {o:Oper} {K:Act→World→Prop} {Q:Exit→Act→World→Prop} {s x:Operand} {t:TypeId} {z:Value} {bytes:Nat} (ho:o.op = .call { callee := .builtin .append,args := #[s,x],argTypes := #[t,t] }) (hT:SliceTy P t e z k bytes)
 (h:F1 B gO TO cO e k ve n xs I J w) (hgO:gO<B) {v:Value} (hl:LitR B e ve ys v w) (hy:ys.length=k) (h1 : ∀ u∈ys,u.oneCell'=true) (h63:n+1≤9223372036854775807) (hbytes:(n+1)*bytes≤140737488355328)
 (hI : ∀ w',Below B w w'→I w') (hs:a.eval s=ve) (hx:a.eval x=v)
 (hK : ∀ v' w',F2 B gO TO cO I w'→AppR B e k n xs ys v' w'→(∀ u,LitR B e ve ys u w→LitR B e ve ys u w')→Below B w w'→K (a.put o.dst v') w'):o.wp P a w K Q:=by
 obtain ⟨b,rfl,hb,hB,hne⟩:=hl
 refine wp_append_blk s x t ho e z k bytes hT B ve n xs hs h.own b 1 1 e ys.toArray hx hb (by simpa using hy) (by simpa using h1) h63 hbytes w (Below.refl _ _) h.size ?_
 intro v' w' hown hbel hgr
 refine hK v' w' ⟨(hbel.block gO hgO).trans h.blk,hI w' hbel,Nat.le_trans h.size hgr.size⟩ (by simpa [AppR] using hown) ?_ hbel
 rintro u ⟨b2,g1,g2,g3,g4⟩
 exact ⟨b2,g1,g2.grown hgr (fun e=>g4 e.symm),g3,g4⟩
/-- It is stored. -/
theorem F2.stored (h:F2 B gO TO cO I w) {v:Value} (hv:AppR B e k n xs ys v w) (hgO:gO<B) (hI:I (w.setCell ⟨gO,off,none⟩ v)):F3 B gO off TO cO e k n xs ys I (w.setCell ⟨gO,off,none⟩ v):=
 ⟨v,h.blk.set_ off v,own_set hv hgO v,hI,by rw [World.size_setCell];exact h.size⟩
theorem AppR.set_ {v:Value} {p:Addr} (h:AppR B e k n xs ys v w) (hp:p.block<B) (u:Value):AppR B e k n xs ys v (w.setCell p u):=own_set h hp u
end
end Go.Proofs.YtlojebhcemfodaaGreatDoor
namespace Go.Proofs.YtlojebhcemfodaaGreatDoor
open Go.RowKit
section
variable {P:Program} {ops:Array Oper} {a0:Act} {C:Array Bool→Act→World→Prop} {R:Nat→Value→World→Prop} {Q:Exit→Act→World→Prop}
theorem Left.as {C C':Array Bool→World→Prop} {listed:Array Bool} {a:Act} {w:World} (h:Left ops a0 C R listed a w) (hc:C' listed w):Left ops a0 C' R listed a w:=⟨hc,h.size,h.closed,h.tsize,h.defers,h.old,h.new⟩
end
/-- A variable is laid by operation al into slot s, and written by operation st. -/
structure VarC (al st s:Nat) (T:TypeId) (B:Nat) (Z cs:Array Value) (I:World→Prop) (listed:Array Bool) (a:Act) (w:World):Prop where
 inv:I w
 size:B≤w.heap.size
 at_:listed.getD al false=true → ∃ b,a.eval (.tmp s) = .pointer (some ⟨b,0,none⟩)∧B≤b∧Blk w b T (if listed.getD st false=true then cs else Z)
section
variable {al st s i:Nat} {T:TypeId} {B:Nat} {Z cs:Array Value} {I:World→Prop} {listed:Array Bool} {a:Act} {w w':World}
theorem eval_put {d:Option Tmp} {v:Value} (h:d≠some s):(a.put d v).eval (.tmp s)=a.eval (.tmp s):=by
 simp only [Act.eval,Array.getD_eq_getD_getElem?,put_at h]
theorem VarC.start {n:Nat} (hI:I w) (hB:B≤w.heap.size):VarC al st s T B Z cs I (Array.replicate n false) a w:=⟨hI,hB,fun h=>by rw [getD_none] at h;cases h⟩
theorem VarC.below (h:VarC al st s T B Z cs I listed a w) (h1:i≠al) (h2:i≠st) {d:Option Tmp} {v:Value} (hd:d≠some s) (hb:Below w.heap.size w w') (hI:I w'):VarC al st s T B Z cs I (listed.setIfInBounds i true) (a.put d v) w':=
 ⟨hI,Nat.le_trans h.size hb.size,fun hl=>by
  rw [getD_other h1] at hl
  rw [getD_other h2]
  obtain ⟨b,e1,e2,e3⟩:=h.at_ hl
  exact ⟨b,by rw [eval_put hd];exact e1,e2,e3.below hb e3.lt⟩⟩
theorem VarC.same (h:VarC al st s T B Z cs I listed a w) (h1:i≠al) (h2:i≠st) {d:Option Tmp} {v:Value} (hd:d≠some s):VarC al st s T B Z cs I (listed.setIfInBounds i true) (a.put d v) w:=h.below h1 h2 hd (Below.refl _ _) h.inv
variable {P:Program} {o:Oper} {K:Act→World→Prop} {Q:Exit→Act→World→Prop}
theorem alloc_step (ho:o.op = .alloc T) (hz:(zeroValue T).run P w = .ok (.agg Z) w) (h:K (a.put o.dst (.pointer (some ⟨w.heap.size,0,none⟩))) (w.alloc (.cells Z T))):o.wp P a w K Q:=by
 unfold Oper.wp execOp
 simp only [ho]
 go_simp
 exact h
theorem VarC.laid (h:VarC al st s T B Z cs I listed a w) (hs:listed.getD st false=false) (hne:al≠st) (ht:s<a.tmps.size) (hI:I (w.alloc (.cells Z T))):VarC al st s T B Z cs I (listed.setIfInBounds al true) (a.put (some s) (.pointer (some ⟨w.heap.size,0,none⟩))) (w.alloc (.cells Z T)):=
 ⟨hI,by rw [size_alloc'];have:=h.size;omega,fun _=>⟨w.heap.size,by simp [Act.eval,Act.put,ht],h.size,by rw [getD_other hne,hs,if_neg (by simp)];exact Blk.new _ _ _⟩⟩
theorem VarC.stored (h:VarC al st s T B Z cs I listed a w) (hl:listed.getD al false=true) (hs:listed.getD st false=false) (hi:st<listed.size) {y:Operand} (ho:o.op = .store T (.tmp s) y) (hy:a.eval y = .agg cs) (hsz:(P.info? T).map (·.size)=some cs.size) (hzc:Z.size=cs.size) (hone:cs.all (·.oneCell')=true) (hne:al≠st)
 (hd:o.dst=none) (hI : ∀ b,B≤b→I (w.setRow b cs)) (hK : ∀ w',(∃ b,B≤b∧b<w.heap.size∧w'=w.setRow b cs∧Blk w b T Z)→VarC al st s T B Z cs I (listed.setIfInBounds st true) (a.put o.dst undef) w'→K (a.put o.dst undef) w'):o.wp P a w K Q:=by
 obtain ⟨b,e1,e2,e3⟩:=h.at_ hl
 rw [hs,if_neg (by simp)] at e3
 refine wp_store_row T (.tmp s) y ho b cs e1 hy T Z e3 hsz hzc hone (hK _ ⟨b,e2,e3.lt,rfl,e3⟩ ⟨hI b e2,by simpa using h.size,fun _=>⟨b,by rw [hd];exact e1,e2,?_⟩⟩)
 rw [getD_here hi,if_pos rfl]
 exact setRow_heap _ _ _ _ _ _ e3
end
end Go.Proofs.YtlojebhcemfodaaGreatDoor
namespace Go.Proofs.YtlojebhcemfodaaGreatDoor
open Go.RowKit
/-- What an operation waits for, at whatever remove: as bits. -/
def maskStep (acc:List Nat) (o:Oper):Nat:=o.after.toList.foldl (fun m e=>if Region.binds .any e then m ||| (1 <<< e.on ||| acc.getD e.on 0) else m) 0
def masks : List Oper→List Nat→List Nat
 | [],acc=>acc
 | o::l,acc=>masks l (acc++[maskStep acc o])
def waitsT (ops:Array Oper) (i j:Nat):Bool:=((masks ops.toList []).getD i 0).testBit j
theorem maskStep_bit {acc:List Nat} {j:Nat} : ∀ (l:List Edge) (m:Nat),(l.foldl (fun m e=>if Region.binds .any e then m ||| (1 <<< e.on ||| acc.getD e.on 0) else m) m).testBit j=true→m.testBit j=true ∨ ∃ e∈l,Region.binds .any e=true∧(e.on=j∨(acc.getD e.on 0).testBit j=true)
 | [],m,h => .inl h
 | e::l,m,h=>by
   rw [List.foldl_cons] at h
   rcases maskStep_bit l _ h with h1 | ⟨e',he',h2⟩
   ·split at h1
    ·rename_i hb
     rw [Nat.testBit_or,Nat.testBit_or,Bool.or_eq_true,Bool.or_eq_true] at h1
     rcases h1 with h1 | h1 | h1
     ·exact .inl h1
     ·refine .inr ⟨e,by simp,hb, .inl ?_⟩
      rw [Nat.one_shiftLeft,Nat.testBit_two_pow] at h1
      simpa using h1
     ·exact .inr ⟨e,by simp,hb, .inr h1⟩
    ·exact .inl h1
   ·exact .inr ⟨e',by simp [he'],h2⟩
theorem masks_old : ∀ (l:List Oper) (acc:List Nat) (k:Nat),k<acc.length→(masks l acc).getD k 0=acc.getD k 0
 | [],acc,k,h=>rfl
 | o::l,acc,k,h=>by
   unfold masks
   rw [masks_old l _ k (by rw [List.length_append];exact Nat.lt_of_lt_of_le h (Nat.le_add_right _ _))]
   rw [List.getD_eq_getElem?_getD,List.getD_eq_getElem?_getD,List.getElem?_append_left h]
theorem masks_at : ∀ (l:List Oper) (acc:List Nat) (n j:Nat),((masks l acc).getD (acc.length+n) 0).testBit j=true → ∃ o,l[n]?=some o ∧ ∃ e∈o.after,Region.binds .any e=true∧(e.on=j∨(e.on<acc.length+n∧((masks l acc).getD e.on 0).testBit j=true))
 | [],acc,n,j,h=>by
   unfold masks at h
   rw [List.getD_eq_getElem?_getD,List.getElem?_eq_none (by omega)] at h
   simp at h
 | o::l,acc,0,j,h=>by
   have ho:(masks (o::l) acc).getD acc.length 0=maskStep acc o:=by
    unfold masks
    rw [masks_old l _ _ (by simp),List.getD_eq_getElem?_getD,List.getElem?_append_right (Nat.le_refl _),Nat.sub_self]
    rfl
   rw [Nat.add_zero,ho] at h
   rcases maskStep_bit _ _ h with h1 | ⟨e,he,h1,h2⟩
   ·simp at h1
   ·refine ⟨o,rfl,e,by simpa using he,h1,?_⟩
    rcases h2 with h2 | h2
    ·exact .inl h2
    ·have hlt:e.on<acc.length:=by
      rcases Nat.lt_or_ge e.on acc.length with h | h
      ·exact h
      ·rw [List.getD_eq_getElem?_getD,List.getElem?_eq_none h] at h2;simp at h2
     exact .inr ⟨by omega,by rw [masks_old _ _ _ hlt];exact h2⟩
 | o::l,acc,n+1,j,h=>by
   unfold masks at h ⊢
   have:=masks_at l (acc++[maskStep acc o]) n j (by rw [List.length_append];simpa [Nat.add_assoc,Nat.add_comm 1 n] using h)
   obtain ⟨o',h1,e,h2,h3,h4⟩:=this
   refine ⟨o',h1,e,h2,h3,h4.imp id fun h=>⟨?_,h.2⟩⟩
   have:=h.1
   rw [List.length_append] at this
   simp at this
   omega
theorem waitsT_spec {ops:Array Oper} {i j:Nat} (h:waitsT ops i j=true) : ∃ o,ops[i]?=some o ∧ ∃ e∈o.after,Region.binds .any e=true∧(e.on=j∨(e.on<i∧waitsT ops e.on j=true)):=by
 have:=masks_at ops.toList [] i j (by simpa [waitsT] using h)
 obtain ⟨o,h1,e,h2,h3,h4⟩:=this
 exact ⟨o,by rw [←Array.getElem?_toList];exact h1,e,h2,h3,h4.imp id fun h=>⟨by simpa using h.1,h.2⟩⟩
abbrev Foot := Nat→Prop
structure Agree (F:Foot) (w w':World):Prop where
 size:w.heap.size≤w'.heap.size
 same : ∀ k,k<w.heap.size→F k→w'.heap[k]?=w.heap[k]?
/-- What holds by the blocks of F alone. -/
def Stab (p:Foot→World→Prop):Prop := ∀ (F F':Foot) w w',(∀ k,F k→F' k)→Agree F w w'→p F w→p F' w'
/-- What an operation does: it yields a value, and nothing else comes of it. -/
def doesAt (P:Program) (o:Oper) (a:Act) (w:World) (post:Value→World→Prop):Prop:=
 o.wp P a w (fun a' w' => ∃ u,a'=a.put o.dst u∧post u w') (fun _ _ _=>False)
section
variable {P:Program} {o:Oper} {a:Act} {w w':World} {post:Value→World→Prop}
theorem does_val {v:Value} (h:(execOp a.eval o).run P w = .ok (.value v) w') (hp:post v w'):doesAt P o a w post:=by
 unfold doesAt Oper.wp
 rw [h]
 exact ⟨v,rfl,hp⟩
theorem put_same {a b:Act} {d:Option Tmp} {u v:Value} (hs:a.tmps.size=b.tmps.size) (h:a.put d u=a.put d v):b.put d u=b.put d v:=by
 cases d with
 | none=>rfl
 | some t=>
   rcases Nat.lt_or_ge t a.tmps.size with hl | hl
   ·have e:=congrArg (fun x:Act=>x.tmps[t]?) h
    simp only [Act.put,Array.getElem?_setIfInBounds_self_of_lt hl] at e
    injection e with e
    rw [e]
   ·have h1 : ∀ x,b.tmps.setIfInBounds t x=b.tmps:=fun x=>Array.setIfInBounds_eq_of_size_le (by omega)
    simp only [Act.put,h1]
theorem does_congr {b:Act} (he:execOp a.eval o=execOp b.eval o) (hs:a.tmps.size=b.tmps.size) (hd:a.defers=b.defers) (h:doesAt P o a w post):doesAt P o b w post:=by
 unfold doesAt Oper.wp at *
 rw [←he]
 generalize (execOp a.eval o).run P w=r at *
 cases r with
 | ok n w2=>
   cases n<;>simp only [Oper.upon] at h ⊢
   case value v=>
    obtain ⟨u,e,q⟩:=h
    exact ⟨u,put_same hs e,q⟩
   case skip=>
    obtain ⟨u,e,q⟩:=h
    exact ⟨u,put_same hs e,q⟩
   case defer d=>
    obtain ⟨u,e,q⟩:=h
    have e1:=congrArg (fun x:Act=>x.defers.length) e
    simp [put_defers] at e1
   case enter f args=>
    refine Calls.mono h ?_
    intro e w3 he
    cases e with
    | returned v=>
      obtain ⟨u,e,q⟩:=he
      exact ⟨u,put_same hs e,q⟩
    | panicked c=>exact he
    | outgrown=>exact he
   case row r args=>
    refine Rows.mono h ?_
    rintro v w3 ⟨u,e,q⟩
    exact ⟨u,put_same hs e,q⟩
 | halt x w2=>cases x<;>simp only [Oper.upon] at h
end
/-- What is told of an operation: its value; what holds of what it makes; what holds of what it takes out of another one's; a variable that it lays; a variable that it writes; a block that it writes; what holds when it has taken over what another one made. -/
inductive Sp where
 | det (f:List Value→Value)
 | new (r:List Value→Value→Foot→World→Prop)
 | der (j:Nat) (r:List Value→Value→Foot→World→Prop)
 | al (T:TypeId) (Z:Array Value)
 | st (j:Nat) (T:TypeId) (n:Nat)
 | wr (r:List Value→Value→Foot→World→Prop)
 | ov (j:Nat) (r:List Value→Value→Foot→World→Prop)
/-- What an operation is given. -/
def vals (o:Oper) (a:Act):List Value:=o.op.operands.toList.map a.eval
/-- Blocks that were there and that are written: by which operation, which block, what holds ahead of it. -/
abbrev Pres := List (Nat×Option Nat×(World→Prop))
abbrev Facts := List (Nat×(Foot→World→Prop))
def alP (B:Nat) (v:Value) (T:TypeId) (n:Nat) (F:Foot) (w:World):Prop := ∃ b,v = .pointer (some ⟨b,0,none⟩)∧B≤b∧F b ∧ ∃ cs:Array Value,cs.size=n∧Blk w b T cs
def stP (B:Nat) (x y:Value) (T:TypeId) (F:Foot) (w:World):Prop := ∃ b cs,x = .pointer (some ⟨b,0,none⟩)∧y = .agg cs∧B≤b∧F b∧Blk w b T cs
theorem alP_stab (B:Nat) (v:Value) (T:TypeId) (n:Nat):Stab (alP B v T n):=fun _ _ _ _ hf ha ⟨b,e,h0,hb,cs,hc,hk⟩=>⟨b,e,h0,hf b hb,cs,hc,(ha.same b hk.lt hb).trans hk⟩
theorem stP_stab (B:Nat) (x y:Value) (T:TypeId):Stab (stP B x y T):=fun _ _ _ _ hf ha ⟨b,cs,e,e2,h0,hb,hk⟩=>⟨b,cs,e,e2,h0,hf b hb,(ha.same b hk.lt hb).trans hk⟩
section
variable (P:Program) (ops:Array Oper) (w0:World) (rows:List (Option Nat)) (pres:Pres) (sps:List Sp)
def OldB (k:Nat):Prop:=k<w0.heap.size∧some k ∉ rows
structure Have (i:Nat) (D:Facts) (w:World):Prop where
 fact : ∀ q∈D,waitsT ops i q.1=true → ∃ F,q.2 F w
 pre : ∀ q∈pres,waitsT ops q.1 i=true→q.2.2 w
def NewR (r:Value→Foot→World→Prop) (row:Option Nat) (w:World) (u:Value) (w':World):Prop := ∀ F:Foot,(∀ k,OldB w0 rows k→F k)→(∀ k,some k=row→F k)→(∀ k,w.heap.size≤k→k<w'.heap.size→F k)→r u F w'
/-- Behind a step that writes what another one made: the blocks of F alone are turned. -/
structure OverR (Old:Nat→Prop) (r:Value→Foot→World→Prop) (F:Foot) (w:World) (u:Value) (w':World):Prop where
 os:w'.os=w.os
 tape:w'.tape=w.tape
 output:w'.output=w.output
 size:w.heap.size≤w'.heap.size
 block : ∀ k,k<w.heap.size→(F k→Old k)→w'.heap[k]?=w.heap[k]?
 rel : ∀ F':Foot,(∀ k,F k→F' k)→(∀ k,w.heap.size≤k→k<w'.heap.size→F' k)→r u F' w'
def spAt (i:Nat):Sp:=sps.getD i (.det fun _=>undef)
def isVal : Sp→Bool | .new _=>true | .der _ _=>true | .wr _=>true | .ov _ _=>true | _=>false
def isOv : Sp→Bool | .ov _ _=>true | _=>false
def ovs : Bool:=sps.any isOv
/-- Whose memory an operation's is. -/
def gOf : Nat→Nat→Nat
 | 0,i=>i
 | f+1,i=>match spAt sps i with
   | .der j _=>gOf f j
   | .ov j _=>gOf f j
   | .st j _ _=>j
   | _=>i
def gAt (i:Nat):Nat:=gOf sps sps.length i
def keepB (i m:Nat):Bool := !isOv (spAt sps i)||gAt sps m != gAt sps i
/-- What is still known behind an operation. -/
def keepD (i:Nat) (s:Sp) (D:Facts):Facts:=match s with
 | .ov _ _=>D.filter fun q=>gAt sps q.1 != gAt sps i
 | _=>D
theorem keepD_mem (i:Nat) (D:Facts) (q:Nat×(Foot→World→Prop)):q∈keepD sps i (spAt sps i) D↔q∈D∧keepB sps i q.1=true:=by
 unfold keepD keepB
 cases spAt sps i<;>simp [isOv,List.mem_filter]
def noAl : Sp→Bool | .al _ _=>false | _=>true
def gOk (i:Nat):Bool:=match spAt sps i with
 | .det _=>true
 | .der j _=>gAt sps i==gAt sps j
 | .ov j _=>gAt sps i==gAt sps j&&noAl (spAt sps (gAt sps i))
 | .st j _ _=>gAt sps i==j
 | _=>gAt sps i==i
def sepB (i k:Nat):Bool:=k==i||waitsT ops i k||waitsT ops k i||(gAt sps k != gAt sps i&&(List.range ops.size).all fun m=>gAt sps m != gAt sps i || !waitsT ops k m)
def ovB : Bool := !ovs sps||(List.range ops.size).all fun i=>gOk sps i&&(!isOv (spAt sps i)||(List.range ops.size).all fun k=>sepB ops sps i k)
def claim (i:Nat) (o:Oper) (s:Sp) (a:Act) (D:Facts):Prop:=match s with
 | .det f => ∀ w,Far rows w0 w→Have ops pres i D w→doesAt P o a w fun u w'=>u=f (vals o a)∧Below w.heap.size w w'
 | .new r=>(∀ ρ v,Stab (r ρ v)) ∧ ∀ w,Far rows w0 w→Have ops pres i D w→doesAt P o a w fun u w'=>Below w.heap.size w w'∧NewR w0 rows (r (vals o a)) none w u w'
 | .der j r=>(∀ ρ v,Stab (r ρ v))∧waitsT ops i j=true∧isVal (spAt sps j)=true ∧ ∀ (w:World) (F:Foot),Far rows w0 w→(∀ k,OldB w0 rows k→F k)→Have ops pres i D w→(∀ p,(j,p)∈D→p F w)→doesAt P o a w fun u w'=>w'=w∧r (vals o a) u F w
 | .al T Z=>o.op = .alloc T ∧ ∀ w,(zeroValue T).run P w = .ok (.agg Z) w
 | .st j T n=>waitsT ops i j=true∧o.dst=none∧(P.info? T).map (·.size)=some n∧(∃ Z:Array Value,spAt sps j = .al T Z∧Z.size=n) ∧ ∃ x y,o.op = .store T x y∧(j,alP w0.heap.size (a.eval x) T n)∈D ∧ ∀ w,Far rows w0 w→Have ops pres i D w → ∃ cs:Array Value,a.eval y = .agg cs∧cs.size=n∧cs.all (·.oneCell')=true
 | .wr r=>(∀ ρ v,Stab (r ρ v)) ∧ ∃ row p0,(i,row,p0)∈pres ∧ ∀ w,Far rows w0 w→Have ops pres i D w→p0 w→doesAt P o a w fun u w'=>w.grownBy w' row∧NewR w0 rows (r (vals o a)) row w u w'
 | .ov j r=>(∀ ρ v,Stab (r ρ v))∧waitsT ops i j=true∧isVal (spAt sps j)=true ∧ ∀ (w:World) (F:Foot),Far rows w0 w→(∀ k,OldB w0 rows k→F k)→Have ops pres i D w→(∀ p,(j,p)∈D→p F w)→doesAt P o a w fun u w'=>OverR (OldB w0 rows) (r (vals o a)) F w u w'
def dom (s:Sp) (ρ:List Value) (v:Value):Prop:=match s with
 | .det f=>v=f ρ
 | .st _ _ _=>v=undef
 | _=>True
def ext (i:Nat) (o:Oper) (s:Sp) (a:Act) (v:Value):Facts:=match s with
 | .det _=>[]
 | .new r=>[(i,r (vals o a) v)]
 | .der _ r=>[(i,r (vals o a) v)]
 | .wr r=>[(i,r (vals o a) v)]
 | .ov _ r=>[(i,r (vals o a) v)]
 | .al T Z=>[(i,alP w0.heap.size v T Z.size)]
 | .st _ T _=>match o.op with
   | .store _ x y=>[(i,stP w0.heap.size (a.eval x) (a.eval y) T)]
   | _=>[]
def Lx (E:Act→Facts→Prop):List Nat→Act→Facts→Prop
 | [],a,D=>E a D
 | i::U,a,D => ∀ o,ops[i]?=some o→if Region.wanted o (yielded ops a.tmps)=true then claim P ops w0 rows pres sps i o (spAt sps i) a D ∧ ∀ v,dom (spAt sps i) (vals o a) v→Lx E U (a.put o.dst v) (ext w0 i o (spAt sps i) a v++keepD sps i (spAt sps i) D) else Lx E U (a.put o.dst undef) D
end
section
variable {P:Program} {ops:Array Oper} {w0:World} {rows:List (Option Nat)} {pres:Pres} {sps:List Sp} {E:Act→Facts→Prop} {i k:Nat} {o ok oi:Oper} {s:Sp} {a b:Act} {D D':Facts} {w:World}
theorem Have.of (h:Have ops pres i D w) (hD : ∀ q,waitsT ops i q.1=true→q∈D'→q∈D):Have ops pres i D' w:=⟨fun q hq hw=>h.fact q (hD q hw hq) hw,h.pre⟩
theorem vals_congr (hx : ∀ x∈o.op.operands,a.eval x=b.eval x):vals o a=vals o b:=by
 exact List.map_congr_left fun x h=>hx x (by simpa using h)
theorem claim_congr (hns : ∀ cs b,o.op ≠ .select cs b) (hx : ∀ x∈o.op.operands,a.eval x=b.eval x) (hsz:a.tmps.size=b.tmps.size) (hdf:a.defers=b.defers) (hD : ∀ q,waitsT ops i q.1=true→(q∈D↔q∈D'))
 (h:claim P ops w0 rows pres sps i o s a D):claim P ops w0 rows pres sps i o s b D':=by
 have he:execOp a.eval o=execOp b.eval o:=execOp_congr o hns hx
 have hv:=vals_congr hx
 have hH : ∀ w,Have ops pres i D' w→Have ops pres i D w:=fun w h=>h.of fun q hw hq=>(hD q hw).1 hq
 cases s with
 | det f=>exact fun w hw hh=>by rw [←hv];exact does_congr he hsz hdf (h w hw (hH w hh))
 | new r=>exact ⟨h.1,fun w hw hh=>by rw [←hv];exact does_congr he hsz hdf (h.2 w hw (hH w hh))⟩
 | der j r=>
   obtain ⟨h1,h2,h3,h4⟩:=h
   exact ⟨h1,h2,h3,fun w F hw hF hh hp=>by rw [←hv];exact does_congr he hsz hdf (h4 w F hw hF (hH w hh) fun p hq=>hp p ((hD _ h2).1 hq))⟩
 | al T Z=>exact h
 | st j T n=>
   obtain ⟨h1,h2,h3,h4,x,y,h5,h6,h7⟩:=h
   have hop:x∈o.op.operands∧y∈o.op.operands:=by rw [h5];simp [Op.operands]
   refine ⟨h1,h2,h3,h4,x,y,h5,?_,fun w hw hh=>?_⟩
   ·rw [←hx x hop.1];exact (hD _ h1).1 h6
   ·rw [←hx y hop.2];exact h7 w hw (hH w hh)
 | wr r=>
   obtain ⟨h1,row,p0,h3,h4⟩:=h
   exact ⟨h1,row,p0,h3,fun w hw hh hp=>by rw [←hv];exact does_congr he hsz hdf (h4 w hw (hH w hh) hp)⟩
 | ov j r=>
   obtain ⟨h1,h2,h3,h4⟩:=h
   exact ⟨h1,h2,h3,fun w F hw hF hh hp=>by rw [←hv];exact does_congr he hsz hdf (h4 w F hw hF (hH w hh) fun p hq=>hp p ((hD _ h2).1 hq))⟩
theorem ext_congr (hx : ∀ x∈o.op.operands,a.eval x=b.eval x) (v:Value):ext w0 i o s a v=ext w0 i o s b v:=by
 cases s with
 | st j T n=>
   unfold ext
   cases ho:o.op<;>simp only
   rename_i t x y
   rw [hx x (by rw [ho];simp [Op.operands]),hx y (by rw [ho];simp [Op.operands])]
 | new r=>simp only [ext,vals_congr hx]
 | der j r=>simp only [ext,vals_congr hx]
 | wr r=>simp only [ext,vals_congr hx]
 | ov j r=>simp only [ext,vals_congr hx]
 | _=>rfl
theorem dom_some (s:Sp) (ρ:List Value) : ∃ v,dom s ρ v:=by
 cases s with
 | det f=>exact ⟨f ρ,rfl⟩
 | st j T n=>exact ⟨undef,rfl⟩
 | _=>exact ⟨undef,trivial⟩
/-- k and i do not touch one another. -/
structure Indep (ops:Array Oper) (sps:List Sp) (ok oi:Oper) (k i:Nat):Prop where
 ap:ok.apart ops oi=true
 ik:waitsT ops i k=false
 ki:waitsT ops k i=false
 kk : ∀ m,waitsT ops k m=true→keepB sps i m=true
 ii : ∀ m,waitsT ops i m=true→keepB sps k m=true
 si:keepB sps i k=true
 sk:keepB sps k i=true
theorem eval_apart (ap:ok.apart ops oi=true) (a:Act) (v:Value):(∀ x∈oi.op.operands,(a.put ok.dst v).eval x=a.eval x)∧(∀ x∈ok.op.operands,(a.put oi.dst v).eval x=a.eval x):=by
 obtain ⟨h1,_,h3⟩:=Oper.apart_spec ap
 refine ⟨fun x hx=>Act.eval_put fun d hd hxd=>h1 d hd ?_,fun x hx=>Act.eval_put fun d hd hxd=>h3 d hd ?_⟩ <;>
 ·subst hxd
  exact List.mem_append_left _ (List.mem_filterMap.2 ⟨.tmp d,by simpa using hx,rfl⟩)
theorem ext_at (i:Nat) (o:Oper) (s:Sp) (a:Act) (v:Value) : ∀ q∈ext w0 i o s a v,q.1=i:=by
 intro q hq
 cases s with
 | det f=>simp [ext] at hq
 | st j T n=>
   unfold ext at hq
   cases ho:o.op<;>rw [ho] at hq<;>simp at hq
   rw [hq]
 | _=>simp [ext] at hq;rw [hq]
theorem Lx_mem (hE : ∀ a D D',(∀ q,q∈D↔q∈D')→E a D→E a D') (hns : ∀ (i:Nat) (o:Oper),ops[i]?=some o → ∀ cs b,o.op ≠ .select cs b) : ∀ (U:List Nat) (a:Act) (D D':Facts),(∀ q,q∈D↔q∈D')→Lx P ops w0 rows pres sps E U a D→Lx P ops w0 rows pres sps E U a D'
 | [],a,D,D',hD,h=>hE a D D' hD h
 | i::U,a,D,D',hD,h=>by
   intro o ho
   have h1:=h o ho
   split
   ·rename_i hw
    rw [if_pos hw] at h1
    exact ⟨claim_congr (hns i o ho) (fun _ _=>rfl) rfl rfl (fun q _=>hD q) h1.1,fun v hv=>Lx_mem hE hns U _ _ _ (fun q=>by rw [List.mem_append,List.mem_append,keepD_mem,keepD_mem,hD q]) (h1.2 v hv)⟩
   ·rename_i hw
    rw [if_neg hw] at h1
    exact Lx_mem hE hns U _ _ _ hD h1
theorem Lx_pull (hE : ∀ a D D',(∀ q,q∈D↔q∈D')→E a D→E a D') (hns : ∀ (i:Nat) (o:Oper),ops[i]?=some o → ∀ cs b,o.op ≠ .select cs b) (hoi:ops[i]?=some oi) (U2:List Nat) : ∀ (U1:List Nat) (a:Act) (D:Facts),
 (∀ k∈U1, ∃ ok,ops[k]?=some ok∧Indep ops sps ok oi k i)→Lx P ops w0 rows pres sps E (U1++i::U2) a D →
 if Region.wanted oi (yielded ops a.tmps)=true then claim P ops w0 rows pres sps i oi (spAt sps i) a D ∧ ∀ v,dom (spAt sps i) (vals oi a) v→Lx P ops w0 rows pres sps E (U1++U2) (a.put oi.dst v) (ext w0 i oi (spAt sps i) a v++keepD sps i (spAt sps i) D) else Lx P ops w0 rows pres sps E (U1++U2) (a.put oi.dst undef) D
 | [],a,D,_,h=>h oi hoi
 | k::U1,a,D,hin,h=>by
   obtain ⟨ok,hok,ap,hik,hki,hkk,hii,hsi,hsk⟩:=hin k (by simp)
   have hin' : ∀ k∈U1, ∃ ok,ops[k]?=some ok∧Indep ops sps ok oi k i:=fun k hk=>hin k (by simp [hk])
   obtain ⟨a1,a2,a3⟩:=Oper.apart_spec ap
   have hk:=h ok hok
   have wk : ∀ (a:Act) v,Region.wanted oi (yielded ops (a.put ok.dst v).tmps)=Region.wanted oi (yielded ops a.tmps):=fun a v=>wanted_put oi a ok.dst v a1
   have wi : ∀ (a:Act) v,Region.wanted ok (yielded ops (a.put oi.dst v).tmps)=Region.wanted ok (yielded ops a.tmps):=fun a v=>wanted_put ok a oi.dst v a3
   have hDi : ∀ v q,waitsT ops i q.1=true→(q∈ext w0 k ok (spAt sps k) a v++keepD sps k (spAt sps k) D↔q∈D):=fun v q hw=>by
    rw [List.mem_append,keepD_mem]
    refine ⟨fun h=>(h.resolve_left fun hq=>?_).1,fun h => .inr ⟨h,hii _ hw⟩⟩
    rw [ext_at _ _ _ _ _ q hq,hik] at hw
    cases hw
   have hDk : ∀ v q,waitsT ops k q.1=true→(q∈D↔q∈ext w0 i oi (spAt sps i) a v++keepD sps i (spAt sps i) D):=fun v q hw=>by
    rw [List.mem_append,keepD_mem]
    refine ⟨fun h => .inr ⟨h,hkk _ hw⟩,fun h=>(h.resolve_left fun hq=>?_).1⟩
    rw [ext_at _ _ _ _ _ q hq,hki] at hw
    cases hw
   by_cases hwk:Region.wanted ok (yielded ops a.tmps)=true
   ·rw [if_pos hwk] at hk
    obtain ⟨hcl,hnext⟩:=hk
    obtain ⟨v0,hv0⟩:=dom_some (spAt sps k) (vals ok a)
    have h0:=Lx_pull hE hns hoi U2 U1 _ _ hin' (hnext v0 hv0)
    rw [wk] at h0
    by_cases hwi:Region.wanted oi (yielded ops a.tmps)=true
    ·rw [if_pos hwi] at h0 ⊢
     refine ⟨claim_congr (hns i oi hoi) (eval_apart ap a v0).1 (put_size _ _ _) (put_defers _ _ _) (hDi v0) h0.1,fun v hv=>?_⟩
     intro ok' hok'
     obtain rfl:ok=ok':=Option.some.inj (hok.symm.trans hok')
     rw [wi,if_pos hwk]
     refine ⟨claim_congr (hns k ok hok) (fun x hx=>((eval_apart ap a v).2 x hx).symm) (put_size _ _ _).symm (put_defers _ _ _).symm (hDk v) hcl,fun u hu=>?_⟩
     rw [vals_congr (eval_apart ap a v).2] at hu
     have h1:=Lx_pull hE hns hoi U2 U1 _ _ hin' (hnext u hu)
     rw [wk,if_pos hwi] at h1
     have h2:=h1.2 v (by rw [vals_congr (eval_apart ap a u).1];exact hv)
     rw [Act.put_comm a u v a2,ext_congr (eval_apart ap a u).1] at h2
     rw [ext_congr (eval_apart ap a v).2]
     refine Lx_mem hE hns _ _ _ _ (fun q=>?_) h2
     simp only [List.mem_append,keepD_mem]
     have ei:q∈ext w0 i oi (spAt sps i) a v→keepB sps k q.1=true:=fun hq=>by rw [ext_at _ _ _ _ _ q hq];exact hsk
     have ek:q∈ext w0 k ok (spAt sps k) a u→keepB sps i q.1=true:=fun hq=>by rw [ext_at _ _ _ _ _ q hq];exact hsi
     constructor
     ·rintro (h | ⟨h | ⟨h,h1⟩,h2⟩)
      ·exact .inr ⟨.inl h,ei h⟩
      ·exact .inl h
      ·exact .inr ⟨.inr ⟨h,h2⟩,h1⟩
     ·rintro (h | ⟨h | ⟨h,h1⟩,h2⟩)
      ·exact .inr ⟨.inl h,ek h⟩
      ·exact .inl h
      ·exact .inr ⟨.inr ⟨h,h2⟩,h1⟩
    ·rw [if_neg hwi] at h0 ⊢
     intro ok' hok'
     obtain rfl:ok=ok':=Option.some.inj (hok.symm.trans hok')
     rw [wi,if_pos hwk]
     refine ⟨claim_congr (hns k ok hok) (fun x hx=>((eval_apart ap a undef).2 x hx).symm) (put_size _ _ _).symm (put_defers _ _ _).symm (fun _ _=>Iff.rfl) hcl,fun u hu=>?_⟩
     rw [vals_congr (eval_apart ap a undef).2] at hu
     have h1:=Lx_pull hE hns hoi U2 U1 _ _ hin' (hnext u hu)
     rw [wk,if_neg hwi,Act.put_comm a u undef a2] at h1
     rw [ext_congr (eval_apart ap a undef).2]
     exact h1
   ·rw [if_neg hwk] at hk
    have h0:=Lx_pull hE hns hoi U2 U1 _ _ hin' hk
    rw [wk] at h0
    by_cases hwi:Region.wanted oi (yielded ops a.tmps)=true
    ·rw [if_pos hwi] at h0 ⊢
     refine ⟨claim_congr (hns i oi hoi) (eval_apart ap a undef).1 (put_size _ _ _) (put_defers _ _ _) (fun _ _=>Iff.rfl) h0.1,fun v hv=>?_⟩
     intro ok' hok'
     obtain rfl:ok=ok':=Option.some.inj (hok.symm.trans hok')
     rw [wi,if_neg hwk]
     have h2:=h0.2 v (by rw [vals_congr (eval_apart ap a undef).1];exact hv)
     rw [Act.put_comm a undef v a2,ext_congr (eval_apart ap a undef).1] at h2
     exact h2
    ·rw [if_neg hwi] at h0 ⊢
     intro ok' hok'
     obtain rfl:ok=ok':=Option.some.inj (hok.symm.trans hok')
     rw [wi,if_neg hwk]
     rw [Act.put_comm a undef undef a2] at h0
     exact h0
end
/-- Where a run stands: what is left to do, what holds of what is done, and whose each new block is. -/
structure GoI (P:Program) (ops:Array Oper) (w0:World) (rows:List (Option Nat)) (pres:Pres) (sps:List Sp) (E:Act→Facts→Prop) (U:List Nat) (listed:Array Bool) (a:Act) (w:World) (D:Facts) (foot:Nat→Foot) (grp:Nat→Nat):Prop where
 size:listed.size=ops.size
 u : ∀ i,i∈U↔i<ops.size∧listed.getD i false=false
 sorted:U.Pairwise (· < ·)
 lx:Lx P ops w0 rows pres sps E U a D
 far:Far rows w0 w
 facts : ∀ q∈D,listed.getD q.1 false=true∧Stab q.2∧q.2 (fun k=>OldB w0 rows k∨foot q.1 k) w
 new_ : ∀ i,listed.getD i false=true → ∀ k,foot i k→k<w.heap.size ∧ ¬ OldB w0 rows k
 old_ : ∀ i,listed.getD i false=true → ∀ k,foot i k→k<w0.heap.size → ∃ m p0,listed.getD m false=true∧(m,some k,p0)∈pres
 closed : ∀ m j,listed.getD m false=true→waitsT ops m j=true→listed.getD j false=true
 dis : ∀ i j,listed.getD i false=true→listed.getD j false=true → ∀ k,foot i k→foot j k→grp i=grp j
 kept : ∀ k,k<w0.heap.size→(∀ m p0,listed.getD m false=true→(m,some k,p0) ∉ pres)→w.heap[k]?=w0.heap[k]?
 gal : ∀ i T Z,listed.getD i false=true→(∃ k,foot i k)→spAt sps (grp i) = .al T Z→i=grp i ∨ ∃ T' n,spAt sps i = .st (grp i) T' n
 ents : ∀ q∈D, ∀ T Z,spAt sps q.1 = .al T Z → ∃ v,q.2=alP w0.heap.size v T Z.size
 gself : ∀ i T Z,spAt sps i = .al T Z→listed.getD i false=true→grp i=i
 gst:ovs sps=true → ∀ i,listed.getD i false=true→grp i=gAt sps i
structure Once (w0:World) (rows:List (Option Nat)) (pres:Pres) (sps:List Sp):Prop where
 st : ∀ i i' j T n T' n',spAt sps i = .st j T n→spAt sps i' = .st j T' n'→i=i'
 wr : ∀ q∈pres, ∀ q'∈pres, ∀ k,q.2.1=some k→q'.2.1=some k→q=q'
 row : ∀ q∈pres, ∀ k,q.2.1=some k→some k∈rows∧k<w0.heap.size
 at_ : ∀ q∈pres,q.2.2 w0
 stab : ∀ q∈pres, ∀ w,Agree (fun k=>k<w0.heap.size∧(some k ∉ rows∨some k=q.2.1)) w0 w→q.2.2 w
section
variable {P:Program} {ops:Array Oper} {w0:World} {rows:List (Option Nat)} {pres:Pres} {sps:List Sp} {E:Act→Facts→Prop} {i:Nat} {o:Oper} {a:Act} {D:Facts} {w w':World} {U1 U2:List Nat} {listed:Array Bool} {foot:Nat→Foot} {grp:Nat→Nat} {v:Value}
theorem GoI.next (h:GoI P ops w0 rows pres sps E (U1++i::U2) listed a w D foot grp) (hdep : ∀ j,waitsT ops i j=true→listed.getD j false=true) (X:Facts) (f:Foot) (g:Nat) {D1:Facts} (hD1 : ∀ q∈D1,q∈D) (hgs:ovs sps=true→g=gAt sps i) (hlx:Lx P ops w0 rows pres sps E (U1++U2) (a.put o.dst v) (X++D1)) (hfar:Far rows w0 w')
 (hold : ∀ q∈D1,q.2 (fun k=>OldB w0 rows k∨foot q.1 k) w') (hX : ∀ q∈X,q.1=i∧Stab q.2∧q.2 (fun k=>OldB w0 rows k∨f k) w') (hsz:w.heap.size≤w'.heap.size)
 (hnew : ∀ k,f k→k<w'.heap.size ∧ ¬ OldB w0 rows k) (ho : ∀ k,f k→k<w0.heap.size→(∃ p0,(i,some k,p0)∈pres) ∨ ∃ j,listed.getD j false=true∧foot j k)
 (hd : ∀ j,listed.getD j false=true → ∀ k,f k→foot j k→g=grp j) (hk : ∀ k,k<w0.heap.size→(∀ p0,(i,some k,p0) ∉ pres)→(∀ m p0,listed.getD m false=true→(m,some k,p0) ∉ pres)→w'.heap[k]?=w.heap[k]?)
 (hg : ∀ T Z,(∃ k,f k)→spAt sps g = .al T Z→i=g ∨ ∃ T' n,spAt sps i = .st g T' n) (hs : ∀ T Z,spAt sps i = .al T Z→g=i) (he : ∀ q∈X, ∀ T Z,spAt sps i = .al T Z → ∃ v,q.2=alP w0.heap.size v T Z.size) :
 ∃ D' foot' grp',GoI P ops w0 rows pres sps E (U1++U2) (listed.setIfInBounds i true) (a.put o.dst v) w' D' foot' grp':=by
 obtain ⟨hin,hil⟩:=(h.u i).1 (by simp)
 have his:i<listed.size:=by rw [h.size];exact hin
 have L : ∀ j,(listed.setIfInBounds i true).getD j false=true→j=i∨listed.getD j false=true:=fun j hj=>by
  rw [getD_set his] at hj
  by_cases e:j=i
  ·exact .inl e
  ·rw [if_neg e] at hj;exact .inr hj
 have L' : ∀ j,listed.getD j false=true→j≠i:=fun j hj e=>by rw [e,hil] at hj;cases hj
 have Lm : ∀ j,listed.getD j false=true→(listed.setIfInBounds i true).getD j false=true:=fun j hj=>by rw [getD_set his,if_neg (L' j hj)];exact hj
 have Li:(listed.setIfInBounds i true).getD i false=true:=by rw [getD_set his,if_pos rfl]
 have hnin : ∀ j∈U1++U2,j≠i:=fun j hj e=>by
  subst e
  have hp:=h.sorted
  rw [List.pairwise_append] at hp
  rcases List.mem_append.1 hj with hj | hj
  ·exact absurd (hp.2.2 j hj j (by simp)) (by omega)
  ·exact absurd ((List.pairwise_cons.1 hp.2.1).1 j hj) (by omega)
 refine ⟨X++D1,fun j=>if j=i then f else foot j,fun j=>if j=i then g else grp j,?_⟩
 constructor
 ·rw [Array.size_setIfInBounds];exact h.size
 ·intro j
  rw [getD_set his]
  constructor
  ·intro hj
   have hne:=hnin j hj
   have:=(h.u j).1 (by rcases List.mem_append.1 hj with hj | hj<;>simp [hj])
   rw [if_neg hne];exact this
  ·rintro ⟨h1,h2⟩
   by_cases e:j=i
   ·rw [if_pos e] at h2;cases h2
   ·rw [if_neg e] at h2
    have:=(h.u j).2 ⟨h1,h2⟩
    rcases List.mem_append.1 this with hj | hj
    ·simp [hj]
    ·rcases List.mem_cons.1 hj with hj | hj
     ·exact absurd hj e
     ·simp [hj]
 ·have hp:=h.sorted
  rw [List.pairwise_append] at hp ⊢
  exact ⟨hp.1,(List.pairwise_cons.1 hp.2.1).2,fun x hx y hy=>hp.2.2 x hx y (by simp [hy])⟩
 ·exact hlx
 ·exact hfar
 ·intro q hq
  rcases List.mem_append.1 hq with hq | hq
  ·obtain ⟨e,h1,h2⟩:=hX q hq
   refine ⟨by rw [e];exact Li,h1,?_⟩
   simp only [e,if_true]
   exact h2
  ·obtain ⟨h1,h2,_⟩:=h.facts q (hD1 q hq)
   refine ⟨Lm _ h1,h2,?_⟩
   simp only [if_neg (L' _ h1)]
   exact hold q hq
 ·intro j hj k hk
  rcases L j hj with e | hj
  ·subst e;simp only [if_true] at hk;exact hnew k hk
  ·simp only [if_neg (L' j hj)] at hk
   obtain ⟨h1,h2⟩:=h.new_ j hj k hk
   exact ⟨Nat.lt_of_lt_of_le h1 hsz,h2⟩
 ·intro j hj k hk hk0
  rcases L j hj with e | hj
  ·subst e
   simp only [if_true] at hk
   rcases ho k hk hk0 with ⟨p0,e⟩ | ⟨j',h1,h2⟩
   ·exact ⟨j,p0,Li,e⟩
   ·obtain ⟨m,p0,h3,h4⟩:=h.old_ j' h1 k h2 hk0
    exact ⟨m,p0,Lm _ h3,h4⟩
  ·simp only [if_neg (L' j hj)] at hk
   obtain ⟨m,p0,h3,h4⟩:=h.old_ j hj k hk hk0
   exact ⟨m,p0,Lm _ h3,h4⟩
 ·intro m j hm hw
  rcases L m hm with e | hm
  ·rw [e] at hw;exact Lm _ (hdep j hw)
  ·exact Lm _ (h.closed m j hm hw)
 ·intro j j' hj hj' k hk hk'
  rcases L j hj with e | hl
  ·rcases L j' hj' with e' | hl'
   ·rw [e,e']
   ·rw [if_pos e] at hk ⊢
    rw [if_neg (L' j' hl')] at hk' ⊢
    exact hd j' hl' k hk hk'
  ·rcases L j' hj' with e' | hl'
   ·rw [if_pos e'] at hk' ⊢
    rw [if_neg (L' j hl)] at hk ⊢
    exact (hd j hl k hk' hk).symm
   ·rw [if_neg (L' j hl)] at hk ⊢
    rw [if_neg (L' j' hl')] at hk' ⊢
    exact h.dis j j' hl hl' k hk hk'
 ·intro k hk0 hm
  rw [hk k hk0 (fun p0=>hm i p0 Li) fun m p0 hl=>hm m p0 (Lm m hl)]
  exact h.kept k hk0 fun m p0 hl=>hm m p0 (Lm m hl)
 ·intro j T Z hj
  rcases L j hj with e | hj
  ·subst e;simp only [if_true];exact hg T Z
  ·simp only [if_neg (L' j hj)];exact h.gal j T Z hj
 ·intro q hq T Z hsp
  rcases List.mem_append.1 hq with hq | hq
  ·rw [(hX q hq).1] at hsp
   exact he q hq T Z hsp
  ·exact h.ents q (hD1 q hq) T Z hsp
 ·intro j T Z hsp hj
  rcases L j hj with e | hj
  ·subst e;simp only [if_true];exact hs T Z hsp
  ·simp only [if_neg (L' j hj)];exact h.gself j T Z hsp hj
 ·intro hov j hj
  rcases L j hj with e | hj
  ·subst e;simp only [if_true];exact hgs hov
  ·simp only [if_neg (L' j hj)];exact h.gst hov j hj
/-- What was known is known behind a step that makes memory alone. -/
theorem GoI.keep (h:GoI P ops w0 rows pres sps E (U1++i::U2) listed a w D foot grp) (hb:Below w.heap.size w w') : ∀ q∈D,q.2 (fun k=>OldB w0 rows k∨foot q.1 k) w':=fun q hq=>by
 obtain ⟨_,h2,h3⟩:=h.facts q hq
 exact h2 _ _ w w' (fun _ h=>h) ⟨hb.size,fun k hk _=>hb.block k hk⟩ h3
theorem GoI.pre (once:Once w0 rows pres sps) (h:GoI P ops w0 rows pres sps E (U1++i::U2) listed a w D foot grp) {q:Nat×Option Nat×(World→Prop)} (hq:q∈pres) (hn:listed.getD q.1 false=false):q.2.2 w:=
 once.stab q hq w ⟨h.far.size,fun k hk hf=>by
  rcases hf.2 with hf | hf
  ·exact h.far.block k hk hf
  ·refine h.kept k hk fun m p0 hm hp=>?_
   have:=once.wr q hq _ hp k hf.symm rfl
   rw [this] at hn
   rw [hn] at hm
   cases hm⟩
theorem GoI.have_ (once:Once w0 rows pres sps) (hil:listed.getD i false=false) (h:GoI P ops w0 rows pres sps E (U1++i::U2) listed a w D foot grp):Have ops pres i D w:=⟨fun q hq _=>⟨_,(h.facts q hq).2.2⟩,fun q hq hw=>h.pre once hq (by
 cases e:listed.getD q.1 false with
 | false=>rfl
 | true=>have:=h.closed _ _ e hw;rw [hil] at this;cases this)⟩
theorem does_wp {Q:Exit→Act→World→Prop} {K:Act→World→Prop} {post:Value→World→Prop} (h:doesAt P o a w post) (hK : ∀ u w',post u w'→K (a.put o.dst u) w'):o.wp P a w K Q:=by
 unfold doesAt Oper.wp at *
 generalize (execOp a.eval o).run P w=r at *
 cases r with
 | ok n w2=>
   cases n<;>simp only [Oper.upon] at h ⊢
   case value v=>obtain ⟨u,e,q⟩:=h;rw [e];exact hK _ _ q
   case skip=>obtain ⟨u,e,q⟩:=h;rw [e];exact hK _ _ q
   case defer d=>
    obtain ⟨u,e,q⟩:=h
    have e1:=congrArg (fun x:Act=>x.defers.length) e
    simp [put_defers] at e1
   case enter f args=>
    refine Calls.mono h ?_
    intro e w3 he
    cases e with
    | returned v=>obtain ⟨u,e,q⟩:=he;simp only;rw [e];exact hK _ _ q
    | panicked c=>exact he.elim
    | outgrown=>obtain ⟨_,_,hf⟩:=he;exact hf.elim
   case row r args=>
    refine Rows.mono h ?_
    rintro v w3 ⟨u,e,q⟩
    rw [e];exact hK _ _ q
 | halt x w2=>cases x<;>simp only [Oper.upon] at h
theorem gOf_al {T:TypeId} {Z:Array Value} (h:spAt sps i = .al T Z) : ∀ f,gOf sps f i=i
 | 0=>rfl
 | f+1=>by unfold gOf;rw [h]
theorem gAt_al {T:TypeId} {Z:Array Value} (h:spAt sps i = .al T Z):gAt sps i=i:=gOf_al h _
/-- What is asked of those that take over. -/
structure OvOk (ops:Array Oper) (sps:List Sp):Prop where
 g:ovs sps=true → ∀ i,i<ops.size→gOk sps i=true
 sep : ∀ i k,i<ops.size→k<ops.size→isOv (spAt sps i)=true→k≠i→waitsT ops i k=false→waitsT ops k i=false→gAt sps k≠gAt sps i ∧ ∀ m,m<ops.size→gAt sps m=gAt sps i→waitsT ops k m=false
theorem ovs_at {i:Nat} (h:isOv (spAt sps i)=true):ovs sps=true:=by
 unfold ovs
 rw [List.any_eq_true]
 unfold spAt at h
 rw [List.getD_eq_getElem?_getD] at h
 cases e:sps[i]? with
 | none=>rw [e] at h;simp [isOv] at h
 | some s=>rw [e] at h;exact ⟨s,List.mem_of_getElem? e,h⟩
theorem ovOk_of (h:ovB ops sps=true):OvOk ops sps:=by
 unfold ovB at h
 rw [Bool.or_eq_true] at h
 have h2:ovs sps=true → ∀ i,i<ops.size→gOk sps i=true∧(isOv (spAt sps i)=true → ∀ k,k<ops.size→sepB ops sps i k=true):=fun ho i hi=>by
  rcases h with h | h
  ·rw [ho] at h;cases h
  ·have:=List.all_eq_true.1 h i (List.mem_range.2 hi)
   rw [Bool.and_eq_true] at this
   refine ⟨this.1,fun hv k hk=>?_⟩
   have h3:=this.2
   rw [hv] at h3
   exact List.all_eq_true.1 (by simpa using h3) k (List.mem_range.2 hk)
 refine ⟨fun ho i hi=>(h2 ho i hi).1,fun i k hi hk hv hne hik hki=>?_⟩
 have h3:=(h2 (ovs_at hv) i hi).2 hv k hk
 unfold sepB at h3
 rw [hik,hki] at h3
 simp only [Bool.or_false,Bool.or_eq_true,beq_iff_eq,hne,false_or,Bool.and_eq_true,bne_iff_ne,ne_eq] at h3
 refine ⟨h3.1,fun m hm hg=>?_⟩
 have h4:=List.all_eq_true.1 h3.2 m (List.mem_range.2 hm)
 rw [hg] at h4
 simpa using h4
theorem keepB_sep (hov:OvOk ops sps) {i k:Nat} (hi:i<ops.size) (hk:k<ops.size) (hne:k≠i) (hik:waitsT ops i k=false) (hki:waitsT ops k i=false):keepB sps i k=true ∧ ∀ m,m<ops.size→waitsT ops k m=true→keepB sps i m=true:=by
 unfold keepB
 cases hv:isOv (spAt sps i) with
 | false=>simp
 | true=>
   obtain ⟨h1,h2⟩:=hov.sep i k hi hk hv hne hik hki
   refine ⟨by simpa using h1,fun m hm hw=>?_⟩
   have:gAt sps m≠gAt sps i:=fun e=>by have:=h2 m hm e;rw [hw] at this;cases this
   simpa using this
theorem GoI.step {Q:Exit→Act→World→Prop} (hov:OvOk ops sps) (once:Once w0 rows pres sps) (hz : ∀ k,OldB w0 rows k→k<w0.heap.size) (ho:ops[i]?=some o) (hdep : ∀ j,waitsT ops i j=true→listed.getD j false=true)
 (hpull:if Region.wanted o (yielded ops a.tmps)=true then claim P ops w0 rows pres sps i o (spAt sps i) a D ∧ ∀ v,dom (spAt sps i) (vals o a) v→Lx P ops w0 rows pres sps E (U1++U2) (a.put o.dst v) (ext w0 i o (spAt sps i) a v++keepD sps i (spAt sps i) D) else Lx P ops w0 rows pres sps E (U1++U2) (a.put o.dst undef) D)
 (h:GoI P ops w0 rows pres sps E (U1++i::U2) listed a w D foot grp) :
 wpOp P ops Q i (fun a' w' => ∃ D' foot' grp',GoI P ops w0 rows pres sps E (U1++U2) (listed.setIfInBounds i true) a' w' D' foot' grp') a w:=by
 have hil:listed.getD i false=false:=((h.u i).1 (by simp)).2
 have hik:i<ops.size:=((h.u i).1 (by simp)).1
 have hsz0:=h.far.size
 have hgok:=fun ho=>hov.g ho i hik
 unfold gOk at hgok
 have hhv:=h.have_ once hil
 have hne : ∀ j,listed.getD j false=true→j≠i:=fun j hj e=>by rw [e,hil] at hj;cases hj
 have hB : ∀ {w'},Below w.heap.size w w'→Far rows w0 w':=fun hb=>h.far.then_ (T:=[]) (Far.of_below hb) (fun k hk=>by simp at hk)
 unfold wpOp
 rw [ho]
 simp only
 by_cases hw:Region.wanted o (yielded ops a.tmps)=true
 ·rw [if_pos hw] at hpull ⊢
  obtain ⟨hcl,hnx⟩:=hpull
  left
  cases hs:spAt sps i with
  | det f=>
    rw [hs] at hcl hnx hgok
    refine does_wp (hcl w h.far hhv) ?_
    rintro u w' ⟨rfl,hb⟩
    exact h.next hdep [] (fun _=>False) (gAt sps i) (fun _ h=>h) (fun _=>rfl) (hnx _ rfl) (hB hb) (h.keep hb) (fun q hq=>by simp at hq) hb.size (fun k hk=>hk.elim) (fun k hk=>hk.elim) (fun _ _ k hk=>hk.elim) (fun k hk _ _=>hb.block k (by omega)) (fun T Z hf _=>hf.elim fun _ h=>h.elim) (fun T Z e=>by rw [hs] at e;cases e) (fun q hq=>by simp at hq)
  | new r=>
    rw [hs] at hcl hnx hgok
    refine does_wp (hcl.2 w h.far hhv) ?_
    rintro u w' ⟨hb,hr⟩
    refine h.next hdep [(i,r (vals o a) u)] (fun k=>w.heap.size≤k∧k<w'.heap.size) i (fun _ h=>h) (fun ho=>by have:=hgok ho;simp only [beq_iff_eq] at this;exact this.symm) (hnx u trivial) (hB hb) (h.keep hb) (fun q hq=>?_) hb.size (fun k hk=>⟨hk.2,fun ho=>by have:=ho.1;omega⟩) (fun k hk h0=>by omega) (fun j hj k hk hf=>by have:=(h.new_ j hj k hf).1;omega) (fun k hk _ _=>hb.block k (by omega)) (fun T Z _ _ => .inl rfl) (fun _ _ _=>rfl) (fun q hq T Z e=>by rw [hs] at e;cases e)
    rw [List.mem_singleton] at hq
    subst hq
    exact ⟨rfl,hcl.1 _ u,hr _ (fun k hk => .inl hk) (fun k hk=>by cases hk) (fun k h1 h2 => .inr ⟨h1,h2⟩)⟩
  | der j r=>
    rw [hs] at hcl hnx hgok
    obtain ⟨h1,h2,h3,h4⟩:=hcl
    have hj:=hdep j h2
    refine does_wp (h4 w (fun k=>OldB w0 rows k∨foot j k) h.far (fun k hk => .inl hk) hhv (fun p hp=>(h.facts _ hp).2.2)) ?_
    rintro u w' ⟨rfl,hr⟩
    refine h.next hdep [(i,r (vals o a) u)] (foot j) (grp j) (fun _ h=>h) (fun ho=>by have:=hgok ho;simp only [beq_iff_eq] at this;rw [this];exact h.gst ho j hj) (hnx u trivial) h.far (fun q hq=>(h.facts q hq).2.2) (fun q hq=>?_) (Nat.le_refl _) (h.new_ j hj) (fun k hk h0 => .inr ⟨j,hj,hk⟩) (fun j' hj' k hk hk'=>h.dis j j' hj hj' k hk hk') (fun k _ _ _=>rfl) (fun T Z hf e=>?_) (fun T Z e=>by rw [hs] at e;cases e) (fun q hq T Z e=>by rw [hs] at e;cases e)
    ·rw [List.mem_singleton] at hq
     subst hq
     exact ⟨rfl,h1 _ u,hr⟩
    ·rcases h.gal j T Z hj hf e with e1 | ⟨T',n,e1⟩
     ·rw [←e1] at e;rw [e] at h3;cases h3
     ·rw [e1] at h3;cases h3
  | al T Z=>
    rw [hs] at hcl hnx hgok
    refine alloc_step hcl.1 (hcl.2 w) ?_
    have hb:Below w.heap.size w (w.alloc (.cells Z T)):=(Below.refl _ _).alloc (Nat.le_refl _) _
    have hs1:(w.alloc (.cells Z T)).heap.size=w.heap.size+1:=size_alloc' _ _
    refine h.next hdep [(i,alP w0.heap.size (.pointer (some ⟨w.heap.size,0,none⟩)) T Z.size)] (fun k=>k=w.heap.size) i (fun _ h=>h) (fun ho=>by have:=hgok ho;simp only [beq_iff_eq] at this;exact this.symm) (hnx _ trivial) (hB hb) (h.keep hb) (fun q hq=>?_) hb.size (fun k hk=>⟨by omega,fun ho=>by have:=ho.1;omega⟩) (fun k hk h0=>by omega) (fun j hj k hk hf=>by have:=(h.new_ j hj k hf).1;omega) (fun k hk _ _=>hb.block k (by omega)) (fun T Z _ _ => .inl rfl) (fun _ _ _=>rfl) (fun q hq T' Z' e=>?_)
    ·rw [List.mem_singleton] at hq
     subst hq
     exact ⟨rfl,alP_stab _ _ _ _,w.heap.size,rfl,hsz0, .inr rfl,Z,rfl,Blk.new _ _ _⟩
    ·rw [List.mem_singleton] at hq
     subst hq
     rw [hs] at e
     injection e with e1 e2
     subst e1 e2
     exact ⟨_,rfl⟩
  | st j T n=>
    rw [hs] at hcl hnx hgok
    obtain ⟨h1,h2,h3,⟨Z,h4,h5⟩,x,y,h6,h7,h8⟩:=hcl
    have hj:=hdep j h1
    obtain ⟨cs,hy,hcs,hone⟩:=h8 w h.far hhv
    obtain ⟨b,hb1,hb2,hb3,c0,hc0,hbk⟩:=(h.facts _ h7).2.2
    have hfj:foot j b:=hb3.resolve_left fun ho=>by have:=ho.1;omega
    have hgj:grp j=j:=h.gself j T Z h4 hj
    refine wp_store_row T x y h6 b cs hb1 hy T c0 hbk (by rw [hcs];exact h3) (hc0.trans hcs.symm) hone ?_
    have hn:=hnx undef rfl
    have hext:ext w0 i o (.st j T n) a undef=[(i,stP w0.heap.size (a.eval x) (a.eval y) T)]:=by simp only [ext,h6]
    rw [hext] at hn
    have hset : ∀ k,k≠b→(w.setRow b cs).heap[k]?=w.heap[k]?:=fun k hk=>setRow_other _ _ _ _ hk
    have hss:(w.setRow b cs).heap.size=w.heap.size:=by simp
    refine h.next hdep [(i,stP w0.heap.size (a.eval x) (a.eval y) T)] (foot j) (grp j) (fun _ h=>h) (fun ho=>by have:=hgok ho;simp only [beq_iff_eq] at this;rw [hgj,this]) hn ?_ (fun q hq=>?_) (fun q hq=>?_) (by omega) (fun k hk=>by rw [hss];exact h.new_ j hj k hk) (fun k hk h0 => .inr ⟨j,hj,hk⟩) (fun j' hj' k hk hk'=>h.dis j j' hj hj' k hk hk') (fun k hk _ _=>hset k (by omega)) (fun T' Z' _ _ => .inr ⟨T,n,by rw [hgj];exact hs⟩) (fun T Z e=>by rw [hs] at e;cases e) (fun q hq T Z e=>by rw [hs] at e;cases e)
    ·exact ⟨h.far.os,h.far.tape,h.far.output,by rw [hss];exact h.far.size,fun k hk hn=>(hset k (by omega)).trans (h.far.block k hk hn)⟩
    ·obtain ⟨hl,hst,hq2⟩:=h.facts q hq
     by_cases hfb:foot q.1 b
     ·have hg:=h.dis q.1 j hl hj b hfb hfj
      rw [hgj] at hg
      have hqj:q.1=j:=by
       rcases h.gal q.1 T Z hl ⟨b,hfb⟩ (by rw [hg];exact h4) with e | ⟨T',n',e⟩
       ·rw [e,hg]
       ·rw [hg] at e
        exact absurd (once.st _ _ _ _ _ _ _ e hs) (hne _ hl)
      obtain ⟨v,hv⟩:=h.ents q hq T Z (by rw [hqj];exact h4)
      rw [hv] at hq2 ⊢
      obtain ⟨b',e1,e2,e3,c1,hc1,hk1⟩:=hq2
      refine ⟨b',e1,e2,e3,?_⟩
      by_cases hbb:b'=b
      ·subst hbb
       exact ⟨cs,by rw [hcs,h5],setRow_heap _ _ _ _ _ _ hk1⟩
      ·exact ⟨c1,hc1,(hset b' hbb).trans hk1⟩
     ·refine hst _ _ w _ (fun _ h=>h) ⟨by omega,fun k hk hf=>hset k fun e=>?_⟩ hq2
      subst e
      rcases hf with hf | hf
      ·have:=hf.1;omega
      ·exact hfb hf
    ·rw [List.mem_singleton] at hq
     subst hq
     exact ⟨rfl,stP_stab _ _ _ _,b,cs,hb1,hy,hb2, .inr hfj,setRow_heap _ _ _ _ _ _ hbk⟩
  | wr r=>
    rw [hs] at hcl hnx hgok
    obtain ⟨h1,row,p0,h3,h4⟩:=hcl
    have hnl : ∀ k,some k=row → ∀ m p,listed.getD m false=true→(m,some k,p) ∉ pres:=fun k hk m p hm hp=>by
     have e:=once.wr _ h3 _ hp k hk.symm rfl
     injection e with e _
     exact hne m hm e.symm
    have hrow : ∀ k,some k=row→some k∈rows∧k<w0.heap.size:=fun k hk=>once.row _ h3 k hk.symm
    have hp:p0 w:=h.pre once h3 hil
    refine does_wp (h4 w h.far hhv hp) ?_
    rintro u w' ⟨hb,hr⟩
    have hblk : ∀ k,k<w.heap.size→some k≠row→w'.heap[k]?=w.heap[k]?:=fun k hk hn=>hb.block k hk hn
    have hoth : ∀ j,listed.getD j false=true → ∀ k,foot j k→some k≠row:=fun j hj k hf e=>by
     obtain ⟨m,p,hm,e1⟩:=h.old_ j hj k hf (hrow k e).2
     exact hnl k e m p hm e1
    refine h.next hdep [(i,r (vals o a) u)] (fun k=>(w.heap.size≤k∧k<w'.heap.size)∨some k=row) i (fun _ h=>h) (fun ho=>by have:=hgok ho;simp only [beq_iff_eq] at this;exact this.symm) (hnx u trivial) ?_ (fun q hq=>?_) (fun q hq=>?_) hb.size (fun k hk=>?_) (fun k hk h0=>?_) (fun j hj k hk hf=>?_) (fun k hk hn _=>hblk k (by omega) fun e=>?_) (fun T Z _ _ => .inl rfl) (fun _ _ _=>rfl) (fun q hq T Z e=>by rw [hs] at e;cases e)
    ·exact ⟨hb.os.trans h.far.os,hb.tape.trans h.far.tape,hb.output.trans h.far.output,Nat.le_trans hsz0 hb.size,fun k hk hn=>(hblk k (by omega) fun e=>hn (hrow k e).1).trans (h.far.block k hk hn)⟩
    ·obtain ⟨hl,hst,hq2⟩:=h.facts q hq
     refine hst _ _ w w' (fun _ h=>h) ⟨hb.size,fun k hk hf=>hblk k hk fun e=>?_⟩ hq2
     rcases hf with hf | hf
     ·exact hf.2 (hrow k e).1
     ·exact hoth _ hl k hf e
    ·rw [List.mem_singleton] at hq
     subst hq
     exact ⟨rfl,h1 _ u,hr _ (fun k hk => .inl hk) (fun k hk => .inr (.inr hk)) (fun k h1 h2 => .inr (.inl ⟨h1,h2⟩))⟩
    ·rcases hk with hk | hk
     ·exact ⟨hk.2,fun ho=>by have:=ho.1;omega⟩
     ·exact ⟨by have:=(hrow k hk).2;have:=hb.size;omega,fun ho=>ho.2 (hrow k hk).1⟩
    ·rcases hk with hk | hk
     ·omega
     ·exact .inl ⟨p0,by rw [hk];exact h3⟩
    ·rcases hk with hk | hk
     ·have:=(h.new_ j hj k hf).1;omega
     ·exact absurd hk (hoth j hj k hf)
    ·exact hn p0 (by rw [e];exact h3)
  | ov j r=>
    rw [hs] at hcl hnx hgok
    obtain ⟨h1,h2,h3,h4⟩:=hcl
    have hj:=hdep j h2
    obtain ⟨hgi,hal⟩:gAt sps i=gAt sps j∧noAl (spAt sps (gAt sps i))=true:=by have:=hgok (ovs_at (i:=i) (by rw [hs];rfl));simpa using this
    have hov1:ovs sps=true:=ovs_at (i:=i) (by rw [hs];rfl)
    refine does_wp (h4 w (fun k=>OldB w0 rows k∨foot j k) h.far (fun k hk => .inl hk) hhv (fun p hp=>(h.facts _ hp).2.2)) ?_
    rintro u w' ho
    have hset : ∀ k,k<w.heap.size → ¬ foot j k→w'.heap[k]?=w.heap[k]?:=fun k hk hn=>ho.block k hk fun h=>h.resolve_right hn
    have hold : ∀ k,k<w.heap.size→OldB w0 rows k→w'.heap[k]?=w.heap[k]?:=fun k hk hn=>ho.block k hk fun _=>hn
    have hnew:=h.new_ j hj
    refine h.next hdep [(i,r (vals o a) u)] (fun k=>foot j k∨(w.heap.size≤k∧k<w'.heap.size)) (grp j) (D1:=keepD sps i (.ov j r) D) (fun q hq=>?_) (fun _=>?_) (hnx u trivial) ?_ (fun q hq=>?_) (fun q hq=>?_) ho.size (fun k hk=>?_) (fun k hk h0=>?_) (fun j' hj' k hk hk'=>?_) (fun k hk hn hm=>?_) (fun T Z hf e=>?_) (fun T Z e=>by rw [hs] at e;cases e) (fun q hq T Z e=>by rw [hs] at e;cases e)
    ·exact (List.mem_filter.1 hq).1
    ·rw [hgi];exact h.gst hov1 j hj
    ·exact ⟨ho.os.trans h.far.os,ho.tape.trans h.far.tape,ho.output.trans h.far.output,Nat.le_trans hsz0 ho.size,fun k hk hn=>(hold k (by omega) ⟨hk,hn⟩).trans (h.far.block k hk hn)⟩
    ·obtain ⟨hq,hg⟩:=List.mem_filter.1 hq
     obtain ⟨hl,hst,hq2⟩:=h.facts q hq
     refine hst _ _ w w' (fun _ h=>h) ⟨ho.size,fun k hk hf=>?_⟩ hq2
     rcases hf with hf | hf
     ·exact hold k hk hf
     ·refine hset k hk fun hfj=>?_
      have e:=h.dis q.1 j hl hj k hf hfj
      rw [h.gst hov1 q.1 hl,h.gst hov1 j hj,←hgi] at e
      simp [e] at hg
    ·rw [List.mem_singleton] at hq
     subst hq
     exact ⟨rfl,h1 _ u,ho.rel _ (fun k hk=>hk.imp id .inl) (fun k h1 h2 => .inr (.inr ⟨h1,h2⟩))⟩
    ·rcases hk with hk | hk
     ·exact ⟨Nat.lt_of_lt_of_le (hnew k hk).1 ho.size,(hnew k hk).2⟩
     ·exact ⟨hk.2,fun ho=>by have:=ho.1;omega⟩
    ·rcases hk with hk | hk
     ·exact .inr ⟨j,hj,hk⟩
     ·omega
    ·rcases hk with hk | hk
     ·exact h.dis j j' hj hj' k hk hk'
     ·have:=(h.new_ j' hj' k hk').1;omega
    ·refine hset k (by omega) fun hfj=>?_
     obtain ⟨m,p0,hm1,hm2⟩:=h.old_ j hj k hfj hk
     exact hm m p0 hm1 hm2
    ·rw [h.gst hov1 j hj,←hgi] at e
     rw [e] at hal
     cases hal
 ·rw [if_neg hw] at hpull ⊢
  exact h.next hdep [] (fun _=>False) (gAt sps i) (fun _ h=>h) (fun _=>rfl) hpull h.far (fun q hq=>(h.facts q hq).2.2) (fun q hq=>by simp at hq) (Nat.le_refl _) (fun k hk=>hk.elim) (fun k hk=>hk.elim) (fun _ _ k hk=>hk.elim) (fun k hk _ _=>rfl) (fun T Z hf _=>hf.elim fun _ h=>h.elim) (fun T Z e=>gAt_al e) (fun q hq=>by simp at hq)
/-- Any two operations are apart, or the later one waits. -/
def pairsB (ops:Array Oper):Bool:=(List.range ops.size).all fun i=>(List.range i).all fun k=>waitsT ops i k||match ops[k]?,ops[i]? with
 | some x,some y=>x.apart ops y
 | _,_=>true
def noSelB (ops:Array Oper):Bool:=ops.all fun o=>match o.op with | .select _ _=>false | _=>true
theorem noSel_spec (h:noSelB ops=true) (i:Nat) (o:Oper) (ho:ops[i]?=some o) (cs:Array SelectCase) (b:Bool):o.op ≠ .select cs b:=by
 intro e
 unfold noSelB at h
 rw [Array.all_eq_true'] at h
 have:=h o (Array.mem_of_getElem? ho)
 rw [e] at this
 cases this
theorem waits_lt (hac:acyc ops=true) : ∀ (i:Nat) {k:Nat},waitsT ops i k=true→k<i:=by
 intro i
 induction i using Nat.strongRecOn with
 | _ i ih=>
   intro k h
   obtain ⟨o,ho,e,he,hb,h2⟩:=waitsT_spec h
   have hl:=acyc_spec hac ho he hb
   rcases h2 with h2 | ⟨_,h2⟩
   ·rw [←h2];exact hl
   ·exact Nat.lt_trans (ih e.on hl h2) hl
theorem range_split : ∀ (U:List Nat) (i:Nat),i∈U→U.Pairwise (· < ·) → ∃ U1 U2,U=U1++i::U2 ∧ ∀ k∈U1,k<i
 | [],i,h,_=>by simp at h
 | x::U,i,h,hp=>by
   rcases List.mem_cons.1 h with hx | hU
   ·subst hx;exact ⟨[],U,rfl,fun k hk=>by simp at hk⟩
   ·obtain ⟨h1,h2⟩:=List.pairwise_cons.1 hp
    obtain ⟨U1,U2,e,hl⟩:=range_split U i hU h2
    refine ⟨x::U1,U2,by rw [e];rfl,fun k hk=>?_⟩
    rcases List.mem_cons.1 hk with hk | hk
    ·rw [hk];exact h1 i hU
    ·exact hl k hk
def EndOf (w0:World) (rows:List (Option Nat)) (Q:Exit→Act→World→Prop) (a:Act) (D:Facts):Prop := ∀ w,Far rows w0 w→(∀ q∈D, ∃ F,q.2 F w)→Q .normal a w
theorem EndOf.mem {Q:Exit→Act→World→Prop} (a:Act) (D D':Facts) (hD : ∀ q,q∈D↔q∈D') (h:EndOf w0 rows Q a D):EndOf w0 rows Q a D':=fun w hw hq=>h w hw fun q h=>hq q ((hD q).1 h)
theorem wpAny_go {Q:Exit→Act→World→Prop} (hov:OvOk ops sps) (hac:acyc ops=true) (hap:pairsB ops=true) (hns:noSelB ops=true) (once:Once w0 rows pres sps) :
 ∀ (fuel:Nat) (U:List Nat) (listed:Array Bool) (a:Act) (w:World),(∃ D foot grp,GoI P ops w0 rows pres sps (EndOf w0 rows Q) U listed a w D foot grp)→U.length≤fuel→wpAny P .any ops Q fuel listed a w:=by
 have nil_end : ∀ listed a w,(∃ D foot grp,GoI P ops w0 rows pres sps (EndOf w0 rows Q) [] listed a w D foot grp)→Region.ready .any ops listed=[]∧Q .normal a w:=by
  rintro listed a w ⟨D,foot,grp,h⟩
  refine ⟨?_,h.lx w h.far fun q hq=>⟨_,(h.facts q hq).2.2⟩⟩
  rw [List.eq_nil_iff_forall_not_mem]
  intro i hi
  obtain ⟨h1,h2,_⟩:=ready_spec hi
  have:=(h.u i).2 ⟨h1,by rw [getD_of_size (by rw [h.size];exact h1)];exact h2⟩
  simp at this
 intro fuel
 induction fuel with
 | zero=>
   intro U listed a w h hu
   obtain rfl:U=[]:=List.eq_nil_of_length_eq_zero (by omega)
   exact nil_end _ _ _ h
 | succ fuel ih=>
   intro U listed a w h hu
   refine ⟨fun h0=>?_,fun i hi=>?_⟩
   ·obtain ⟨D,foot,grp,hI⟩:=h
    cases U with
    | nil=>exact (nil_end _ _ _ ⟨D,foot,grp,hI⟩).2
    | cons x U=>
      obtain ⟨h1,h2⟩:=(hI.u x).1 (by simp)
      have:=all_listed hac hI.size h0 x h1
      rw [h2] at this
      cases this
   ·obtain ⟨D,foot,grp,hI⟩:=h
    obtain ⟨h1,h2,h3⟩:=ready_spec hi
    have ho:ops[i]?=some ops[i]:=Array.getElem?_eq_getElem h1
    have hl:listed.getD i false=false:=by rw [getD_of_size (by rw [hI.size];exact h1)];exact h2
    obtain ⟨U1,U2,rfl,hlt⟩:=range_split U i ((hI.u i).2 ⟨h1,hl⟩) hI.sorted
    have hdep : ∀ j,waitsT ops i j=true→listed.getD j false=true:=fun j hj=>by
     obtain ⟨o,ho',e,he,hb,h4⟩:=waitsT_spec hj
     have hl:=h3 o ho' e he hb
     rcases h4 with h4 | ⟨_,h4⟩
     ·rw [←h4];exact hl
     ·exact hI.closed e.on j hl h4
    have hind : ∀ k∈U1, ∃ ok,ops[k]?=some ok∧Indep ops sps ok ops[i] k i:=fun k hk=>by
     obtain ⟨k1,k2⟩:=(hI.u k).1 (by simp [hk])
     have hki:=hlt k hk
     have hik:waitsT ops i k=false:=by
      cases hb:waitsT ops i k with
      | false=>rfl
      | true=>have:=hdep k hb;rw [k2] at this;cases this
     have hki2:waitsT ops k i=false:=by
      cases hb:waitsT ops k i with
      | false=>rfl
      | true=>have:=waits_lt hac _ hb;omega
     have s1:=keepB_sep hov h1 k1 (by omega) hik hki2
     have s2:=keepB_sep hov k1 h1 (by omega) hki2 hik
     refine ⟨ops[k],Array.getElem?_eq_getElem k1,?_,hik,hki2,fun m hw=>s1.2 m (by have:=waits_lt hac _ hw;omega) hw,fun m hw=>s2.2 m (by have:=waits_lt hac _ hw;omega) hw,s1.1,s2.1⟩
     have:=List.all_eq_true.1 (List.all_eq_true.1 hap i (List.mem_range.2 h1)) k (List.mem_range.2 hki)
     rw [hik,Array.getElem?_eq_getElem k1,ho] at this
     simpa using this
    refine wpOp_mono ?_ (GoI.step hov once (fun k hk=>hk.1) ho hdep (Lx_pull EndOf.mem (noSel_spec hns) ho U2 U1 a D hind hI.lx) hI)
    intro a' w' hn
    refine ih _ _ _ _ hn ?_
    simp only [List.length_append,List.length_cons] at hu ⊢
    omega
theorem wp_region_lx {Q:Exit→Act→World→Prop} {id:Nat} {a0:Act} {W:World} (hov:OvOk ops sps) (hm:P.follows .mixedOrders=true) (hac:acyc ops=true) (hap:pairsB ops=true) (hns:noSelB ops=true) (once:Once W.drew rows pres sps)
 (h:Lx P ops W.drew rows pres sps (EndOf W.drew rows Q) (List.range ops.size) a0 []):(Code.region id ops true).wp P Q a0 W:=by
 refine wp_region_any hm (wpAny_go (w0:=W.drew) (rows:=rows) (sps:=sps) hov hac hap hns once _ (List.range ops.size) _ _ _ ⟨[],fun _ _=>False,fun i=>i,?_⟩ (by simp))
 constructor
 ·simp
 ·intro i
  rw [List.mem_range,getD_none]
  exact ⟨fun h=>⟨h,rfl⟩,fun h=>h.1⟩
 ·exact List.pairwise_lt_range
 ·exact h
 ·exact Far.refl _ _
 ·intro q hq;simp at hq
 ·intro i hi;rw [getD_none] at hi;cases hi
 ·intro i hi;rw [getD_none] at hi;cases hi
 ·intro i j hi;rw [getD_none] at hi;cases hi
 ·intro i j hi;rw [getD_none] at hi;cases hi
 ·intro k _ _;rfl
 ·intro i T Z hi;rw [getD_none] at hi;cases hi
 ·intro q hq;simp at hq
 ·intro i T Z _ hi;rfl
 ·intro _ i hi;rw [getD_none] at hi;cases hi
end
section
variable (P:Program) (ops:Array Oper) (w0:World) (rows:List (Option Nat)) (pres:Pres) (sps:List Sp) (E:Act→Facts→Prop)
def LxL : Nat→List Oper→List Sp→Act→Facts→Prop
 | _,[],_,a,D=>E a D
 | i,o::rest,s::ss,a,D=>if Region.wanted o (yielded ops a.tmps)=true then claim P ops w0 rows pres sps i o s a D ∧ ∀ v,dom s (vals o a) v→LxL (i+1) rest ss (a.put o.dst v) (ext w0 i o s a v++keepD sps i s D) else LxL (i+1) rest ss (a.put o.dst undef) D
 | _,_::_,[],_,_=>False
def exSp : Nat→(List Sp→Prop)→Prop
 | 0,Q=>Q []
 | n+1,Q => ∃ s,exSp n fun l=>Q (s::l)
def stsOf (sps:List Sp):List Nat:=sps.filterMap fun s=>match s with | .st j _ _=>some j | _=>none
end
section
variable {P:Program} {ops:Array Oper} {w0:World} {rows:List (Option Nat)} {pres:Pres} {sps:List Sp} {E:Act→Facts→Prop}
theorem Lx_of_list : ∀ (rest:List Oper) (ss:List Sp) (i:Nat) (a:Act) (D:Facts),(∀ k,ops[i+k]?=rest[k]?)→(∀ k,sps[i+k]?=ss[k]?)→LxL P ops w0 rows pres sps E i rest ss a D→Lx P ops w0 rows pres sps E ((List.range rest.length).map (i + ·)) a D
 | [],_,_,_,_,_,_,h=>h
 | o::rest,[],_,_,_,_,_,h=>h.elim
 | o::rest,s::ss,i,a,D,ho,hs,h=>by
   have hsi:spAt sps i=s:=by
    have:=hs 0
    unfold spAt
    rw [List.getD_eq_getElem?_getD,show sps[i]?=some s from this]
    rfl
   have hoi:ops[i]?=some o:=ho 0
   rw [List.length_cons,List.range_succ_eq_map,List.map_cons,List.map_map]
   have key : ∀ a D,LxL P ops w0 rows pres sps E (i+1) rest ss a D→Lx P ops w0 rows pres sps E ((List.range rest.length).map ((fun x=>i+x) ∘ Nat.succ)) a D:=fun a D h=>by
    have:=Lx_of_list rest ss (i+1) a D (fun k=>by have:=ho (k+1);rwa [show i+(k+1)=i+1+k from by omega] at this) (fun k=>by have:=hs (k+1);rwa [show i+(k+1)=i+1+k from by omega] at this) h
    rwa [show ((fun x=>i+x) ∘ Nat.succ)=fun x=>i+1+x from funext fun x=>by simp;omega]
   intro o' ho'
   obtain rfl:o=o':=Option.some.inj (hoi.symm.trans ho')
   rw [Nat.add_zero,hsi]
   unfold LxL at h
   split
   ·rename_i hw
    rw [if_pos hw] at h
    exact ⟨h.1,fun v hv=>key _ _ (h.2 v hv)⟩
   ·rename_i hw
    rw [if_neg hw] at h
    exact key _ _ h
theorem nodup_at {α β:Type} {f:α→Option β} : ∀ {l:List α} {i j:Nat} {x y:α} {z:β},(l.filterMap f).Nodup→l[i]?=some x→l[j]?=some y→f x=some z→f y=some z→i=j
 | [],i,_,_,_,_,_,h,_,_,_=>by simp at h
 | u::l,i,j,x,y,z,hn,hi,hj,hx,hy=>by
   have mem : ∀ {k:Nat} {v:α},l[k]?=some v→f v=some z→z∈l.filterMap f:=fun hk hv=>List.mem_filterMap.2 ⟨_,List.mem_of_getElem? hk,hv⟩
   cases i with
   | zero=>
     cases j with
     | zero=>rfl
     | succ j=>
       simp only [List.getElem?_cons_zero,Option.some.injEq,List.getElem?_cons_succ] at hi hj
       subst hi
       rw [List.filterMap_cons,hx] at hn
       exact absurd (mem hj hy) (List.nodup_cons.1 hn).1
   | succ i=>
     cases j with
     | zero=>
       simp only [List.getElem?_cons_zero,Option.some.injEq,List.getElem?_cons_succ] at hi hj
       subst hj
       rw [List.filterMap_cons,hy] at hn
       exact absurd (mem hi hx) (List.nodup_cons.1 hn).1
     | succ j=>
       simp only [List.getElem?_cons_succ] at hi hj
       have hn':(l.filterMap f).Nodup:=by
        rw [List.filterMap_cons] at hn
        split at hn
        ·exact hn
        ·exact (List.nodup_cons.1 hn).2
       rw [nodup_at hn' hi hj hx hy]
theorem spAt_some {i:Nat} {s:Sp} (h:spAt sps i=s) (hne:s ≠ .det fun _=>undef):sps[i]?=some s:=by
 unfold spAt at h
 rw [List.getD_eq_getElem?_getD] at h
 cases e:sps[i]? with
 | none=>rw [e] at h;exact absurd h.symm hne
 | some x=>rw [e] at h;rw [←h];rfl
theorem once_of (h1:(stsOf sps).Nodup) (h2 : ∀ q∈pres, ∀ q'∈pres, ∀ k,q.2.1=some k→q'.2.1=some k→q=q') (h3 : ∀ q∈pres, ∀ k,q.2.1=some k→some k∈rows∧k<w0.heap.size) (h4 : ∀ q∈pres,q.2.2 w0)
 (h5 : ∀ q∈pres, ∀ w,Agree (fun k=>k<w0.heap.size∧(some k ∉ rows∨some k=q.2.1)) w0 w→q.2.2 w):Once w0 rows pres sps:=
 ⟨fun i i' j T n T' n' e e'=>nodup_at h1 (spAt_some e (by simp)) (spAt_some e' (by simp)) (z:=j) rfl rfl,h2,h3,h4,h5⟩
theorem exSp_spec : ∀ (n:Nat) (Q:List Sp→Prop),exSp n Q → ∃ l,Q l
 | 0,Q,h=>⟨[],h⟩
 | n+1,Q,⟨s,h⟩=>by
   obtain ⟨l,hl⟩:=exSp_spec n _ h
   exact ⟨s::l,hl⟩
end
end Go.Proofs.YtlojebhcemfodaaGreatDoor
