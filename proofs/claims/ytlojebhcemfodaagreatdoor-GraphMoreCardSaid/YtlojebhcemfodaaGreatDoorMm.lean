/- Texts of this claim, laid together: GraU, GraX, ObjId, StoI, StL, StM, KnW, His, HisI. -/
import Derived.Test.YtlojebhcemfodaaGreatDoorMl
import Derived.Deep.RegionWith
namespace Go.Proofs.YtlojebhcemfodaaGreatDoor
open Go.RowKit
def bldN (fs:Array (Nat×Value)):Sem Value:=Instr.build 91 fs
theorem bldN_eq (fs:Array (Nat×Value)):Instr.build 91 fs=bldN fs:=rfl
attribute [local go_sem ↓] ldvI_eq ldvO_eq bldN_eq
/-- What Object tells of an object that is there. -/
def objR (N:Nat) (x:StL) (o:ObjL) (v:Value) (F:Foot) (w:World):Prop := ∃ ve vp,v = .tuple #[.agg (objC o ve vp).toArray, .bool true]∧DitOk w ⟨x,o,ve,vp⟩∧(∀ k,vp.ownBlock=some k→N≤k)∧(∀ k,ve.ownBlock=some k→F k) ∧ ∀ k,vp.ownBlock=some k→F k
theorem objR_stab (N:Nat) (x:StL) (o:ObjL) (v:Value):Stab (objR N x o v):=fun _ _ _ _ hf ha ⟨ve,vp,h1,h2,h3,h4,h5⟩=>⟨ve,vp,h1,h2.same (fun k hk=>ha.same k (World.ownsRow.lt h2.oe k hk).2 (h4 k hk)) (fun k hk=>ha.same k (World.ownsRow.lt h2.op k hk).2 (h5 k hk)),h3,fun k hk=>hf k (h4 k hk),fun k hk=>hf k (h5 k hk)⟩
theorem sortU_snoc (l:List Txt) (x:Txt):sortU (l++[x])=insU (sortU l) x:=by unfold sortU;rw [List.foldl_append];rfl
theorem szObjZ : (Tryz.prog.info? 54).map (·.size)=some zObj.size:=by rw [zObj_size];exact szObj
/-- The walker's nodes lie apart from what is seen. -/
structure WalkB (S:List StL) (w:World) (B g:Nat) (vs vq vn:Value) (Q:List DiL) (seen out:List Txt):Prop where
 at_:WalkAt S w B g vs vq vn Q seen out
 ap : ∀ e∈Q,Ap e.vp vn
section
variable {S:List StL} {w w':World} {B g:Nat} {vs vq vn:Value} {Q:List DiL} {seen out:List Txt}
theorem WalkB.below (h:WalkB S w B g vs vq vn Q seen out) (hb:Below w.heap.size w w'):WalkB S w' B g vs vq vn Q seen out:=⟨h.at_.below hb,h.ap⟩
theorem WalkB.setIn (h:WalkB S w B g vs vq vn Q seen out):SetIn w B g 2 88 #[vs,vq,vn] vn (sortU seen):=⟨h.at_.q.blk,rfl,h.at_.sn,fun x hx=>h.at_.ok x (((sortU_law seen).2 x).1 hx),(sortU_law seen).1⟩
/-- The set is another one, the queue as it was. -/
theorem WalkB.set_ (h:WalkB S w B g vs vq vn Q seen out) {vn':Value} (hb:Blk w' g 88 #[vs,vq,vn']) (hf:Far [some g,vn.ownBlock] w w'):WqAt w' B g vs vq vn' Q:=by
 have hq : ∀ {e:DiL},e∈Q→DitOk w' e:=fun {e} he=>by
  have hd:=h.at_.q.q.each e he
  refine hd.far hf (fun k hk hm=>?_) (fun k hk hm=>?_)
  ·rcases List.mem_cons.1 hm with h1 | h1
   ·exact own_blk_ne hd.oe h.at_.q.blk (by decide) (h1.symm.trans hk.symm)
   ·exact own_ne hd.oe h.at_.sn (by decide) k hk (List.mem_singleton.1 h1).symm
  ·rcases List.mem_cons.1 hm with h1 | h1
   ·exact own_blk_ne hd.op h.at_.q.blk (by decide) (h1.symm.trans hk.symm)
   ·exact h.ap e he k hk (List.mem_singleton.1 h1).symm
 refine ⟨hb,hf.own h.at_.q.q.own (fun k hk hm=>?_),fun e he=>hq he⟩
 rcases List.mem_cons.1 hm with h1 | h1
 ·exact own_blk_ne h.at_.q.q.own h.at_.q.blk (by decide) (h1.symm.trans hk.symm)
 ·exact own_ne h.at_.q.q.own h.at_.sn (by decide) k hk (List.mem_singleton.1 h1).symm
end
/-- What offer leaves. -/
def OfferR (S:List StL) (w:World) (B g:Nat) (vs vq vn:Value) (Q:List DiL) (seen' out:List Txt) (w':World):Prop := ∃ vq' vn' Q',WalkB S w' B g vs vq' vn' Q' seen' out∧(∀ e∈Q',e∈Q ∨ ∀ k,e.vp.ownBlock=some k→w.heap.size≤k)∧Far [some g,vq.ownBlock,vn.ownBlock] w w'∧Newer w vn vn'
section
variable {S:List StL} {w w5 w6 w7:World} {B g:Nat} {vs vq vn vn6 vq7:Value} {Q:List DiL} {seen out:List Txt} {n:Txt} {e0:DiL}
theorem Far.offer {T:List (Option Nat)} (hb:Below w.heap.size w w5) (hf:Far T w5 w6) (hT : ∀ k,some k∈T→some k∈[some g,vq.ownBlock,vn.ownBlock]):Far [some g,vq.ownBlock,vn.ownBlock] w w6:=(Far.of_below hb).trans (hf.mono hT)
/-- One that was seen is offered. -/
theorem OfferR.old (h:WalkB S w B g vs vq vn Q seen out) (hb:Below w.heap.size w w5) (hs:SetIn w6 B g 2 88 #[vs,vq,vn6] vn6 (sortU seen)) (hf:Far [some g,vn.ownBlock] w5 w6) (hn:Newer w5 vn vn6):OfferR S w B g vs vq vn Q seen out w6:=by
 have h5:=h.below hb
 refine ⟨vq,vn6,Q,⟨⟨h5.set_ hs.blk hf,hs.own,h.at_.ok,h.at_.heap,h.at_.perm,h.at_.obj,h.at_.wi⟩,fun e he=>((h.ap e he).symm.newer hn fun k hk=>(World.ownsRow.lt (h5.at_.q.q.each e he).op k hk).2).symm⟩,fun e he => .inl he,Far.offer hb hf fun k hk=>?_,(Newer.refl w vn).then_ hn hb.size⟩
 rcases List.mem_cons.1 hk with h1 | h1
 ·rw [h1];exact List.mem_cons_self
 ·rw [List.mem_singleton.1 h1];simp
/-- A new one is offered. -/
theorem OfferR.new (h:WalkB S w B g vs vq vn Q seen out) (hb:Below w.heap.size w w5) (hs:SetIn w6 B g 2 88 #[vs,vq,vn6] vn6 (insU (sortU seen) n)) (hf:Far [some g,vn.ownBlock] w5 w6) (hn:Newer w5 vn vn6)
 (hd5:DitOk w5 e0) (hid:e0.st.id=n) (hobj:objS S n=some e0.o) (hk:kindS S n=3) (hi:inL seen n=false) (hvp : ∀ k,e0.vp.ownBlock=some k→w.heap.size≤k) (h7:WqAt w7 B g vs vq7 vn6 (upQ ltN (Q.length+1) (Q++[e0]) Q.length)) (hf7:Far [some g,vq.ownBlock] w6 w7):OfferR S w B g vs vq vn Q (seen++[n]) out w7:=by
 have h5:=h.below hb
 obtain ⟨p1,p2⟩:=heap_push ltN_ord h.at_.heap e0
 have hlen:(upQ ltN (Q.length+1) (Q++[e0]) Q.length).length=Q.length+1:=by rw [upQ_len,List.length_append];rfl
 obtain ⟨U,hU⟩ : ∃ U,upQ ltN (Q.length+1) (Q++[e0]) Q.length=U:=⟨_,rfl⟩
 rw [hU] at p1 p2 hlen h7
 have hmem : ∀ e∈U,e∈Q∨e=e0:=fun e he=>by
  rcases List.mem_append.1 (p2.mem_iff.1 he) with h1 | h1
  ·exact .inl h1
  ·exact .inr (List.mem_singleton.1 h1)
 have hno:n ∉ out:=fun hm=>by
  rw [inL_iff.2 (h.at_.wi.sub n hm)] at hi
  cases hi
 have hsn:OwnIds w7 B vn6 (sortU (seen++[n])):=by
  rw [sortU_snoc]
  refine hf7.own hs.own fun k hk hm=>?_
  rcases List.mem_cons.1 hm with h1 | h1
  ·exact own_blk_ne hs.own hs.blk (by decide) (h1.symm.trans hk.symm)
  ·have hq6:=(h5.set_ hs.blk hf).q.own
   exact own_ne hs.own hq6 (by decide) k hk (List.mem_singleton.1 h1).symm
 have hvn : ∀ k,vn.ownBlock=some k→k<w.heap.size:=fun k hk=>(World.ownsRow.lt h.at_.sn k hk).2
 refine ⟨vq7,vn6,U,⟨⟨h7,hsn,fun x hx=>?_,by rw [hlen];exact p1,?_,fun e he=>?_,⟨nodup_more h.at_.wi.nd hi,fun x hx=>?_,fun x hx=>List.mem_append_left _ (h.at_.wi.sub x hx),h.at_.wi.ndo⟩⟩,fun e he=>?_⟩,fun e he=>?_,?_,(Newer.refl w vn).then_ hn hb.size⟩
 ·rcases List.mem_append.1 hx with h1 | h1
  ·exact h.at_.ok x h1
  ·rw [List.mem_singleton.1 h1,←hid];exact hd5.id
 ·rw [left_seen hno]
  have h1:=p2.map fun e=>e.st.id
  rw [List.map_append] at h1
  refine h1.trans ?_
  show (Q.map (fun e=>e.st.id)++[e0.st.id]).Perm _
  rw [hid]
  exact h.at_.perm.append_right _
 ·rcases hmem e he with h1 | rfl
  ·exact h.at_.obj e h1
  ·rw [hid];exact hobj
 ·rcases List.mem_append.1 hx with h1 | h1
  ·exact h.at_.wi.k3 x h1
  ·rw [List.mem_singleton.1 h1];exact hk
 ·rcases hmem e he with h1 | rfl
  ·exact ((h.ap e h1).symm.newer hn fun k hk=>(World.ownsRow.lt (h5.at_.q.q.each e h1).op k hk).2).symm
  ·have ha:Ap vn e.vp:=fun k hk hv=>by have:=hvp k hv;have:=hvn k hk;omega
   exact (ha.newer hn fun k hk=>(World.ownsRow.lt hd5.op k hk).2).symm
 ·rcases hmem e he with h1 | rfl
  ·exact .inl h1
  ·exact .inr hvp
 ·refine Far.trans (Far.offer hb hf fun k hk=>?_) (hf7.mono fun k hk=>?_)
  ·rcases List.mem_cons.1 hk with h1 | h1
   ·rw [h1];exact List.mem_cons_self
   ·rw [List.mem_singleton.1 h1];simp
  ·rcases List.mem_cons.1 hk with h1 | h1
   ·rw [h1];exact List.mem_cons_self
   ·rw [List.mem_singleton.1 h1];simp
end
set_option maxRecDepth 100000 in
set_option maxHeartbeats 8000000 in
theorem offer_calls {S:List StL} {w:World} {sb p B g:Nat} {vl vq vn:Value} {Q:List DiL} {seen out:List Txt} (hS:StoAt w sb p vl S) (h:WalkB S w B g (.pointer (some ⟨p,0,none⟩)) vq vn Q seen out) (hB:B≤w.heap.size) (n:Txt) (hn:n.length=32) :
 Calls Tryz.prog 39 #[.pointer (some ⟨g,0,none⟩), .agg (u8s n)] w fun e w'=>e = .returned (.tuple #[])∧OfferR S w B g (.pointer (some ⟨p,0,none⟩)) vq vn Q (offerS S seen n) out w':=by
 obtain ⟨W1,hW1,b1,n1,lid⟩:=boxId w n hn
 have hSl:S.length≤500000:=hS.ok.few
 have hgl:=h.at_.q.blk.lt
 have hc0 : ∀ W,Below W1.heap.size W1 W→W.cell? ⟨g,0,none⟩=some (.pointer (some ⟨p,0,none⟩)):=fun W hW=>(h.at_.q.blk.below (bthen b1 b1.size hW) hgl).cell 0
 have hob:=fun W (hW:Below W1.heap.size W1 W)=>stoObject_calls (hS.below (bthen b1 b1.size hW)) n hn
 have hzo:=zeroObj
 have hz72:=zObj_size
 have hzone:=zObj_one
 have hszZ:=szObjZ
 have hvnl : ∀ k,vn.ownBlock=some k→k<w.heap.size:=fun k hk=>(World.ownsRow.lt h.at_.sn k hk).2
 have hlen:=h.at_.len
 have hsl:=h.at_.wi.len
 have hSok:=hS.ok
 have h10:=b1.size
 have hn1l:=n1.lt
 obtain ⟨vs,hvs⟩ : ∃ vs,Value.pointer (some ⟨p,0,none⟩)=vs:=⟨_,rfl⟩
 have hsame:offerS S seen n=seen → ∀ W,Below W1.heap.size W1 W→OfferR S w B g vs vq vn Q (offerS S seen n) out W:=fun he W hW=>by
  rw [he,←hvs]
  exact ⟨vq,vn,Q,h.below (bthen b1 b1.size hW),fun e he => .inl he,Far.of_below (bthen b1 b1.size hW),Newer.refl _ _⟩
 rw [show (fun e w'=>e=Ending.returned (Value.tuple #[])∧OfferR S w B g (.pointer (some ⟨p,0,none⟩)) vq vn Q (offerS S seen n) out w')=(fun e w'=>e=Ending.returned (Value.tuple #[])∧OfferR S w B g vs vq vn Q (offerS S seen n) out w') by rw [hvs]]
 cases hG:getS S n with
 | none=>
   have hobA:=fun W (hW:Below W1.heap.size W1 W)=>(show Calls Tryz.prog 32 #[.pointer (some ⟨p,0,none⟩), .agg (u8s n)] W fun e w'=>e = .returned (.tuple #[.agg zObj, .bool false])∧Below W.heap.size W w' from by
    have h:=hob W hW
    unfold ObjT at h
    rw [hG] at h
    exact h)
   have hoff:offerS S seen n=seen:=by unfold offerS kindS;rw [hG];simp
   have hfin:=hsame hoff
   clear hob hsame hS h hvs hoff
   obtain ⟨NC,hNC⟩ : ∃ NC,u8s n=NC:=⟨_,rfl⟩
   rw [hNC] at hW1 lid hobA ⊢
   clear hNC n1
   generalize zObj=ZO at *
   go_enter Tryz.func39,Tryz.ntmps39
   go_upto_region 1 with (fail)
   refine wp_region_go0 12 (by kernel_rfl) (by kernel_rfl) (by kernel_rfl) (by kernel_rfl) ?_
   simp only [exSp]
   iterate 12 apply Exists.intro
   repeat
    first
     | ((with_reducible apply lx0_ex)
        ·(go_simp;done)
        apply Exists.intro
        apply And.intro
        ·apply Eq.refl
        apply And.intro
        ·intro W hW hD
         have q0:=hc0 W hW
         have q1:=lid W hW
         have q2:=hobA W hW
         go_simp
         first
          | rfl
          | (with_reducible exact q2)
        simp only [Act.put,List.setIfInBounds_toArray,List.set_cons_zero,List.set_cons_succ])
     | ((with_reducible apply lx0_pass)
        ·(first | rfl | (go_simp;done))
        ·apply Eq.refl
        simp only [Act.put,List.setIfInBounds_toArray,List.set_cons_zero,List.set_cons_succ])
     | ((with_reducible apply lx_al 54 ZO hzo)
        ·apply Eq.refl
        intro v
        simp only [Act.put,List.setIfInBounds_toArray,List.set_cons_zero,List.set_cons_succ])
     | ((with_reducible apply lx_st' 9 54 ZO hszZ (by kernel_rfl))
        ·exact rfl
        ·apply Eq.refl
        apply Exists.intro
        apply Exists.intro
        apply And.intro
        ·(go_simp;rfl)
        apply And.intro
        ·(go_simp;rfl)
        refine ⟨?_,fun W hW hD=>?_,?_⟩
        ·first | exact List.Mem.head _ | exact List.Mem.tail _ (List.Mem.head _) | exact List.Mem.tail _ (List.Mem.tail _ (List.Mem.head _)) | exact List.Mem.tail _ (List.Mem.tail _ (List.Mem.tail _ (List.Mem.head _)))
        ·exact ⟨ZO,rfl,rfl,hzone⟩)
   refine lx0_nil ?_ fun w5 hW5 hD5=>?_
   ·exact (by simp [stsOf])
   go_upto_region 2 with (fail)
   refine wp_region_class (C:=fun W=>Below w5.heap.size w5 W) (by kernel_rfl) (by kernel_rfl) (Below.refl _ _).drew ?_
   repeat
    first
     | ((with_reducible refine wpQuiet_ex ?_ ?_)
        ·(go_simp;done)
        apply Exists.intro
        refine ⟨fun W hW=>?_,?_⟩
        ·first
          | (go_simp
             rfl)
        simp only [Act.put,List.setIfInBounds_toArray,List.set_cons_zero,List.set_cons_succ])
     | ((with_reducible refine wpQuiet_pass ?_ ?_)
        ·(first | rfl | (go_simp;done))
        simp only [Act.put,List.setIfInBounds_toArray,List.set_cons_zero,List.set_cons_succ])
   with_reducible refine wpQuiet_nil ?_
   intro w6 hW6
   go_wp2_with (fail)
   go_end0
   exact ⟨rfl,hfin _ (bthen hW5 hW5.size hW6)⟩
 | some x=>
   obtain ⟨o0,ho0⟩:=(hSok.each x (getS_id hG).1).2
   have hxid:=(getS_id hG).2
   have hobj:objS S n=some o0:=objS_some hG ho0
   have hkd:kindS S n=o0.kind:=by unfold kindS;rw [hG];simp only;rw [ho0]
   have hobB:=fun W (hW:Below W1.heap.size W1 W)=>(show Calls Tryz.prog 32 #[.pointer (some ⟨p,0,none⟩), .agg (u8s n)] W fun e w'=>(∃ ve vp,e = .returned (.tuple #[.agg (objC o0 ve vp).toArray, .bool true])∧DitOk w' ⟨x,o0,ve,vp⟩∧(∀ k,ve.ownBlock=some k→W.heap.size≤k) ∧ ∀ k,vp.ownBlock=some k→W.heap.size≤k)∧Below W.heap.size W w' from (hob W hW).mono fun e w' ⟨q1,q2⟩=>by
    unfold ObjT at q1
    rw [hG] at q1
    obtain ⟨o,A1,A2,k1,k2,d1,rfl,d3,d4,d5⟩:=q1
    rw [ho0] at d1
    injection d1 with d1
    subst d1
    exact ⟨⟨_,_,rfl,⟨ho0,by rw [hxid];exact hn,d3.ok,own_low' d4 (Nat.zero_le _),own_low' d5 (Nat.zero_le _)⟩,fun k hk=>(World.ownsRow.lt d4 k hk).1,fun k hk=>(World.ownsRow.lt d5 k hk).1⟩,q2⟩)
   have hNE:x.id=n:=hxid
   have hNn:n.length=32:=hn
   have n1':=n1
   obtain ⟨NC,hNC⟩ : ∃ NC,u8s n=NC:=⟨_,rfl⟩
   rw [hNC] at hW1 lid hobB n1' ⊢
   clear hob hG ho0 hS n1
   replace hvs:=Lib.hid hvs
   generalize zObj=ZO at *
   go_enter Tryz.func39,Tryz.ntmps39
   go_upto_region 1 with (fail)
   refine wp_region_go0 12 (by kernel_rfl) (by kernel_rfl) (by kernel_rfl) (by kernel_rfl) ?_
   simp only [exSp]
   iterate 12 apply Exists.intro
   repeat
    first
     | ((with_reducible apply lx0_ex)
        ·(go_simp;done)
        apply Exists.intro
        apply And.intro
        ·apply Eq.refl
        apply And.intro
        ·intro W hW hD
         have q0:=hc0 W hW
         have q1:=lid W hW
         go_simp
         rfl
        simp only [Act.put,List.setIfInBounds_toArray,List.set_cons_zero,List.set_cons_succ])
     | ((with_reducible apply lx0_pass)
        ·(first | rfl | (go_simp;done))
        ·apply Eq.refl
        simp only [Act.put,List.setIfInBounds_toArray,List.set_cons_zero,List.set_cons_succ])
     | ((with_reducible refine lx0_new (objR W1.heap.size x o0) rfl ?_ (objR_stab _ _ _) ?_ ?_)
        ·(go_simp;done)
        ·intro W hW hD
         unfold doesAt Oper.wp execOp
         have q0:=hobB W hW
         go_simp
         (with_reducible refine q0.mono ?_)
         rintro e w' ⟨⟨ve,vp,rfl,hd,he1,he2⟩,hb⟩
         exact ⟨hb,fun F f1 f2 f3=>⟨ve,vp,rfl,hd,fun k hk=>Nat.le_trans hW.size (he2 k hk),fun k hk=>f3 k (he1 k hk) (World.ownsRow.lt hd.oe k hk).2,fun k hk=>f3 k (he2 k hk) (World.ownsRow.lt hd.op k hk).2⟩⟩
        intro v
        simp only [Act.put,List.setIfInBounds_toArray,List.set_cons_zero,List.set_cons_succ])
     | ((with_reducible apply lx_extr')
        ·apply Eq.refl
        apply Exists.intro
        apply And.intro
        ·(go_simp;rfl)
        refine ⟨fun W hW hD=>?_,?_⟩
        ·obtain ⟨F,ve,vp,rfl,_⟩:=hD.at 0 rfl (by kernel_rfl)
         exact ⟨_,rfl,by simp⟩
        simp only [Act.put,List.setIfInBounds_toArray,List.set_cons_zero,List.set_cons_succ])
     | (first | (with_reducible apply lx_move') | (with_reducible apply lx_assign')
        ·apply Eq.refl
        apply Exists.intro
        apply And.intro
        ·(go_simp;rfl)
        simp only [Act.put,List.setIfInBounds_toArray,List.set_cons_zero,List.set_cons_succ])
     | ((with_reducible apply lx_al 54 ZO hzo)
        ·apply Eq.refl
        intro v
        simp only [Act.put,List.setIfInBounds_toArray,List.set_cons_zero,List.set_cons_succ])
     | ((with_reducible apply lx_st' 9 54 ZO hszZ (by kernel_rfl))
        ·exact rfl
        ·apply Eq.refl
        apply Exists.intro
        apply Exists.intro
        apply And.intro
        ·(go_simp;rfl)
        apply And.intro
        ·(go_simp;rfl)
        refine ⟨?_,fun W hW hD=>?_,?_⟩
        ·first | exact List.Mem.head _ | exact List.Mem.tail _ (List.Mem.head _) | exact List.Mem.tail _ (List.Mem.tail _ (List.Mem.head _)) | exact List.Mem.tail _ (List.Mem.tail _ (List.Mem.tail _ (List.Mem.head _)))
        ·obtain ⟨F,ve,vp,rfl,hd,_⟩:=hD.at 1 rfl (by kernel_rfl)
         obtain ⟨A1,A2,k1,k2,e1,e2⟩:=hd.forms
         exact ⟨_,rfl,by rw [List.size_toArray,objC_len hd.ok,hz72],by rw [show ve=_ from e1,show vp=_ from e2];exact objC_all _ _ _ _ _ _ _⟩)
   refine lx0_nil ?_ fun w5 hW5 hD5=>?_
   ·exact (by simp [stsOf])
   obtain ⟨_,ve,vp,rfl,hd5,hvp5, -, -⟩:=hD5 _ (.tail _ (.tail _ (.head _)))
   obtain ⟨_,g4,cs4,rfl,hcs4,hg4,_,hb4⟩:=hD5 _ (.head _)
   obtain rfl:(objC o0 ve vp).toArray=cs4:=by injection hcs4
   simp only [extr2_0,extr2_1]
   have b5:=bthen b1 b1.size hW5
   have hOC72:(objC o0 ve vp).toArray.size=72:=by rw [List.size_toArray,objC_len hd5.ok]
   have hk0 : ∀ W,Below w5.heap.size w5 W→W.cell? ⟨g4,0,none⟩=some (.int .i64 o0.kind):=fun W hW=>by rw [(hb4.below hW hb4.lt).cell];rfl
   have hbn:=fun (hd:DitOk w5 ⟨x,o0,ve,vp⟩)=>built_node _ hd
   simp only [hxid] at hbn
   clear hcs4 hD5 hobB hc0 hzo hzone hszZ hz72
   by_cases hk:o0.kind=3
   ·have hkb:(o0.kind==3)=true:=by simp [hk]
    rw [hk] at hkd
    cases hi:inL seen n with
    | true=>
      have hoff:offerS S seen n=seen:=by unfold offerS;rw [hi];simp
      have hins:insU (sortU seen) n=sortU seen:=insU_in (sortU_law seen).1 (by rw [inL_sortU];exact hi)
      have hadd:=setAddIn_calls (h.below b5.drew).setIn (by decide) (Nat.le_trans hB b5.size) (by have:=sortU_len seen;omega) n hn
      rw [inL_sortU,hi,hins,hNC] at hadd
      have hadd:=Lib.hid hadd
      have hkd0:=hk0 w5.drew (Below.refl _ _).drew
      have lid5:=lid w5.drew hW5.drew
      have Hoff:=Lib.hid hoff
      clear hk0 lid hins hoff hsame hbn
      go_upto_region 2 with (fail)
      go_region_with (first
       | (go_at_call 33;go_must (refine hadd.out.mono ?_);rintro e w6 ⟨rfl,vn6,hs6,hf6,hn6⟩))
      all_goals
       go_wp2_with (fail)
       go_end0
       refine ⟨rfl,?_⟩
       rw [Hoff.out,←hvs.out]
       exact OfferR.old h b5.drew hs6 hf6 hn6
    | false=>
      have Hoff:Hid (offerS S seen n=seen++[n]):=Lib.hid (by unfold offerS;rw [hi,hkd];rfl)
      have hadd:=setAddIn_calls (h.below b5.drew).setIn (by decide) (Nat.le_trans hB b5.size) (by have:=sortU_len seen;omega) n hn
      rw [inL_sortU,hi,hNC] at hadd
      have hadd:=Lib.hid hadd
      have hkd0:=hk0 w5.drew (Below.refl _ _).drew
      have lid5:=lid w5.drew hW5.drew
      have hg4':W1.heap.size≤g4:=hg4
      have hpush:=fun W vn6 (hq:WqAt W B g (.pointer (some ⟨p,0,none⟩)) vq vn6 Q) (hBW:B≤W.heap.size) (hd:DitOk W ⟨x,o0,ve,vp⟩)=>Lib.hid (heapPush_calls hq hBW (by omega) hd)
      have hnd:=hbn hd5
      have hrb : ∀ W,(bldN #[(0, .agg (u8s n)),(1, .agg (objC o0 ve vp).toArray)]).run Tryz.prog W = .ok (.agg (ndC (⟨x,o0,ve,vp⟩:DiL)).toArray) W:=fun W=>run_build (P:=Tryz.prog) W _ _ _ hnd
      have hb4d:Blk w5.drew g4 54 (objC o0 ve vp).toArray:=hb4
      have n5d:=n1'.below hW5.drew n1'.lt
      have hset:=(h.below b5.drew)
      have hdd:DitOk w5.drew ⟨x,o0,ve,vp⟩:=hd5.below (Below.refl _ _).drew
      have hnotin : ∀ k,w.heap.size≤k→some k ∉ [some g,vn.ownBlock]:=fun k hk hm=>by
       rcases List.mem_cons.1 hm with h | h
       ·injection h with h;omega
       ·have:=hvnl k (List.mem_singleton.1 h).symm;omega
      clear hk0 lid hsame hbn
      go_upto_region 2 with (fail)
      go_cut [27] from 15 (fun s27 wx=>s27 = .bool true ∧ ∃ vn6,SetIn wx B g 2 88 #[.pointer (some ⟨p,0,none⟩),vq,vn6] vn6 (insU (sortU seen) n)∧Far [some g,vn.ownBlock] w5.drew wx∧Newer w5.drew vn vn6)
      case first=>
       go_region_with (first
        | (go_at_call 33;go_must (refine hadd.out.mono ?_);rintro e w6 ⟨rfl,vn6,hs6,hf6,hn6⟩))
       all_goals
        go_wp2_with (fail)
        go_meet
        case rel=>exact ⟨rfl,vn6,hs6,hf6,hn6⟩
      case rest=>
       rename World=>w6
       obtain ⟨rfl,vn6,hs6,hf6,hn6⟩:=hcut
       have hb6:=hf6.blk hb4d (hnotin g4 (by omega))
       have n6:=hf6.blk n5d (hnotin _ (Nat.le_refl _))
       have hd6:DitOk w6 ⟨x,o0,ve,vp⟩:=hdd.far hf6 (fun k hk hm=>by
        rcases List.mem_cons.1 hm with h1 | h1
        ·exact own_blk_ne hdd.oe hset.at_.q.blk (by decide) (h1.symm.trans hk.symm)
        ·exact own_ne hdd.oe hset.at_.sn (by decide) k hk (List.mem_singleton.1 h1).symm) (fun k hk=>hnotin k (Nat.le_trans h10 (hvp5 k hk)))
       have hq6:=hset.set_ hs6.blk hf6
       have hB6:B≤w6.drew.heap.size:=Nat.le_trans hB (Nat.le_trans b5.size hf6.size)
       have hp:=hpush w6.drew vn6 (hq6.below (Below.refl _ _).drew) hB6 (hd6.below (Below.refl _ _).drew)
       have lid6:(ldvI ⟨w.heap.size,0,none⟩).run Tryz.prog w6.drew = .ok (.agg NC) w6.drew:=by
        have h1:Blk w6.drew w.heap.size 42 (u8s n):=by rw [hNC];exact n6
        rw [←hNC]
        exact run_ldvI_at (range_blk h1) hNn
       have ldo6:(ldvO ⟨g4,0,none⟩).run Tryz.prog w6.drew = .ok (.agg (objC o0 ve vp).toArray) w6.drew:=run_loadVar_row w6.drew g4 _ _ _ _ _ hb6 Tryz.underlying54 rfl (by rw [hOC72];exact szObj)
       rw [hNC] at hrb
       have H1:=Lib.hid h
       have H2:=Lib.hid hs6
       have H3:=Lib.hid hdd
       generalize hOC:(objC o0 ve vp).toArray=OC at ldo6 hrb ⊢
       obtain ⟨NX,hNX⟩ : ∃ NX,(ndC (⟨x,o0,ve,vp⟩:DiL)).toArray=NX:=⟨_,rfl⟩
       rw [hNX] at hrb hp
       clear hOC hNX h hs6 hdd hd6 hq6 hset hpush hadd hkd0 lid5 n5d hb4d n6 hb6 hnd hd5 n1' hb4 hW5
       go_upto_region 3 with (fail)
       go_region_with (first
        | (go_at_call 65;go_must (refine hp.out.mono ?_);rintro e w7 ⟨rfl,vq7,h7,hf7,hn7⟩))
       all_goals
        go_wp2_with (fail)
        go_end0
        refine ⟨rfl,?_⟩
        rw [Hoff.out,←hvs.out]
        exact OfferR.new H1.out b5.drew H2.out hf6 hn6 H3.out hxid hobj hkd hi (fun k hk=>Nat.le_trans h10 (hvp5 k hk)) h7 (far_drew hf7)
   ·have hkb:(o0.kind==3)=false:=by simp [hk]
    have hoff:offerS S seen n=seen:=by unfold offerS;rw [hkd];simp [hk]
    have hfin:=hsame hoff
    clear hsame hbn hoff
    go_upto_region 2 with (fail)
    refine wp_region_class (C:=fun W=>Below w5.heap.size w5 W) (by kernel_rfl) (by kernel_rfl) (Below.refl _ _).drew ?_
    repeat
     first
      | ((with_reducible refine wpQuiet_ex ?_ ?_)
         ·(go_simp;done)
         apply Exists.intro
         refine ⟨fun W hW=>?_,?_⟩
         ·first
           | (have q0:=hk0 W hW
              go_simp
              rfl)
         simp only [Act.put,List.setIfInBounds_toArray,List.set_cons_zero,List.set_cons_succ])
      | ((with_reducible refine wpQuiet_pass ?_ ?_)
         ·(first | rfl | (go_simp;done))
         simp only [Act.put,List.setIfInBounds_toArray,List.set_cons_zero,List.set_cons_succ])
    with_reducible refine wpQuiet_nil ?_
    intro w6 hW6
    go_wp2_with (fail)
    go_end0
    exact ⟨rfl,hfin _ (bthen hW5 hW5.size hW6)⟩
end Go.Proofs.YtlojebhcemfodaaGreatDoor
namespace Go.Proofs.YtlojebhcemfodaaGreatDoor
open Go.RowKit
attribute [local go_sem ↓] ldvI_eq ldvN_eq
/-- The walker, what was told so far, and the cut, each in memory of its own. -/
structure WalkC (S:List StL) (w:World) (B g:Nat) (vs vq vn vo vE:Value) (Q:List DiL) (seen out ol ce:List Txt):Prop where
 b:WalkB S w B g vs vq vn Q seen out
 o:OwnIds w B vo ol
 e:OwnIds w B vE ce
 aoe:Ap vo vE
 aon:Ap vo vn
 aen:Ap vE vn
 ap : ∀ e∈Q,Ap e.vp vo∧Ap e.vp vE
section
variable {S:List StL} {w w':World} {B g:Nat} {vs vq vn vo vE:Value} {Q:List DiL} {seen out ol ce:List Txt}
theorem WalkI.told {n:Txt} (h:WalkI S seen out) (hn:n∈leftW seen out):WalkI S seen (out++[n]):=by
 have:=h.step (cut:=[n]) hn
 rwa [if_pos (by simp [inL])] at this
theorem WalkC.below (h:WalkC S w B g vs vq vn vo vE Q seen out ol ce) (hb:Below w.heap.size w w'):WalkC S w' B g vs vq vn vo vE Q seen out ol ce:=⟨h.b.below hb,own_below h.o hb,own_below h.e hb,h.aoe,h.aon,h.aen,h.ap⟩
/-- What an id's slice that lies apart from what is seen keeps, while the walker is written. -/
theorem WalkB.keep (h:WalkB S w B g vs vq vn Q seen out) {v:Value} {l:List Txt} {C:Nat} (ho:OwnIds w C v l) (ha:Ap v vn) {T:List (Option Nat)} (hf:Far T w w') (hT : ∀ k,some k∈T→some k∈[some g,vq.ownBlock,vn.ownBlock]):OwnIds w' C v l:=
 hf.own ho fun k hk hm=>by
  rcases List.mem_cons.1 (hT k hm) with h1 | h1
  ·exact own_blk_ne ho h.at_.q.blk (by decide) (h1.symm.trans hk.symm)
  ·rcases List.mem_cons.1 h1 with h2 | h2
   ·exact own_ne ho h.at_.q.q.own (by decide) k hk h2.symm
   ·exact ha k hk (List.mem_singleton.1 h2).symm
theorem WalkC.offer (h:WalkC S w B g vs vq vn vo vE Q seen out ol ce) {seen':List Txt} (hr:OfferR S w B g vs vq vn Q seen' out w') : ∃ vq' vn' Q',WalkC S w' B g vs vq' vn' vo vE Q' seen' out ol ce∧Far [some g,vq.ownBlock,vn.ownBlock] w w'∧Newer w vn vn':=by
 obtain ⟨vq',vn',Q',hb,hQ,hf,hn⟩:=hr
 refine ⟨vq',vn',Q',⟨hb,h.b.keep h.o h.aon hf fun _ h=>h,h.b.keep h.e h.aen hf fun _ h=>h,h.aoe,(h.aon.symm.newer hn fun k hk=>(World.ownsRow.lt h.o k hk).2).symm,(h.aen.symm.newer hn fun k hk=>(World.ownsRow.lt h.e k hk).2).symm,fun e he=>?_⟩,hf,hn⟩
 rcases hQ e he with h1 | h1
 ·exact h.ap e h1
 ·exact ⟨fun k hk hv=>by have:=h1 k hk;have:=(World.ownsRow.lt h.o k hv).2;omega,fun k hk hv=>by have:=h1 k hk;have:=(World.ownsRow.lt h.e k hv).2;omega⟩
/-- What was told grows. -/
theorem WalkC.tell (h:WalkC S w B g vs vq vn vo vE Q seen out ol ce) {vo':Value} {ol':List Txt} (ho:OwnIds w' B vo' ol') (hg:w.grownBy w' vo.ownBlock) (hn:Newer w vo vo'):WalkC S w' B g vs vq vn vo' vE Q seen out ol' ce:=by
 have hf:=Far.of_grown hg
 have hbk:some g ∉ [vo.ownBlock]:=fun hm=>own_blk_ne h.o h.b.at_.q.blk (by decide) (List.mem_singleton.1 hm)
 have hid : ∀ {C:Nat} {v:Value} {l:List Txt},OwnIds w C v l→Ap v vo→OwnIds w' C v l:=fun ho ha=>hf.own ho fun k hk hm=>ha k hk (List.mem_singleton.1 hm).symm
 refine ⟨⟨⟨⟨hf.blk h.b.at_.q.blk hbk,hf.own h.b.at_.q.q.own fun k hk hm=>own_ne h.b.at_.q.q.own h.o (by decide) k hk (List.mem_singleton.1 hm).symm,fun e he=>?_⟩,hid h.b.at_.sn h.aon.symm,h.b.at_.ok,h.b.at_.heap,h.b.at_.perm,h.b.at_.obj,h.b.at_.wi⟩,h.b.ap⟩,ho,hid h.e h.aoe.symm,h.aoe.newer hn fun k hk=>(World.ownsRow.lt h.e k hk).2,h.aon.newer hn fun k hk=>(World.ownsRow.lt h.b.at_.sn k hk).2,h.aen,fun e he=>⟨((h.ap e he).1.symm.newer hn fun k hk=>(World.ownsRow.lt (h.b.at_.q.q.each e he).op k hk).2).symm,(h.ap e he).2⟩⟩
 have hd:=h.b.at_.q.q.each e he
 exact hd.far hf (fun k hk hm=>own_ne hd.oe h.o (by decide) k hk (List.mem_singleton.1 hm).symm) fun k hk hm=>(h.ap e he).1 k hk (List.mem_singleton.1 hm).symm
theorem WalkB.far_below (h:WalkB S w B g vs vq vn Q seen out) (hB:B≤w.heap.size) (hg:B≤g) (hf:Far [some g,vq.ownBlock,vn.ownBlock] w w'):Below B w w':=hf.below hB fun k hk=>by
 rcases List.mem_cons.1 hk with h1 | h1
 ·injection h1 with h1;omega
 ·rcases List.mem_cons.1 h1 with h2 | h2
  ·exact (World.ownsRow.lt h.at_.q.q.own k h2.symm).1
  ·exact (World.ownsRow.lt h.at_.sn k (List.mem_singleton.1 h2).symm).1
/-- The best one is taken. -/
theorem WalkC.next (h:WalkC S w B g vs vq vn vo vE Q seen out ol ce) {vq':Value} {Q':List DiL} {r:DiL} (hq:WqAt w' B g vs vq' vn Q') (hh:HeapQ ltN Q' Q'.length) (hp:(Q'++[r]).Perm Q) (hf:Far [some g,vq.ownBlock] w w'):WalkC S w' B g vs vq' vn vo vE Q' seen (out++[r.st.id]) ol ce∧DitOk w' r:=by
 have hmem : ∀ e∈Q',e∈Q:=fun e he=>hp.mem_iff.1 (List.mem_append_left _ he)
 have hr:r∈Q:=hp.mem_iff.1 (by simp)
 have hT : ∀ k,some k∈[some g,vq.ownBlock]→some k∈[some g,vq.ownBlock,vn.ownBlock]:=fun k hk=>by
  rcases List.mem_cons.1 hk with h1 | h1
  ·rw [h1];exact List.mem_cons_self
  ·rw [List.mem_singleton.1 h1];simp
 have hk : ∀ {C:Nat} {v:Value} {l:List Txt},OwnIds w C v l→OwnIds w' C v l:=fun {C v l} ho=>hf.own ho fun k hk hm=>by
  rcases List.mem_cons.1 hm with h1 | h1
  ·exact own_blk_ne ho h.b.at_.q.blk (by decide) (h1.symm.trans hk.symm)
  ·exact own_ne ho h.b.at_.q.q.own (by decide) k hk (List.mem_singleton.1 h1).symm
 have hrl:r.st.id∈leftW seen out:=h.b.at_.perm.mem_iff.1 (List.mem_map.2 ⟨r,hr,rfl⟩)
 have hm:=hp.map fun e=>e.st.id
 rw [List.map_append] at hm
 refine ⟨⟨⟨⟨hq,hk h.b.at_.sn,h.b.at_.ok,hh,?_,fun e he=>h.b.at_.obj e (hmem e he),h.b.at_.wi.told hrl⟩,fun e he=>h.b.ap e (hmem e he)⟩,hk h.o,hk h.e,h.aoe,h.aon,h.aen,fun e he=>h.ap e (hmem e he)⟩,?_⟩
 ·rw [left_told]
  exact perm_told (hm.trans h.b.at_.perm) (h.b.at_.wi.nd.filter _)
 ·obtain ⟨a1,a2⟩:=h.b.at_.q.apart (h.b.at_.q.q.each r hr)
  exact (h.b.at_.q.q.each r hr).far hf a1 a2
theorem heap_nil : HeapQ ltN ([]:List DiL) ([]:List DiL).length:=fun c h0 h1=>by simp at h1
end
theorem built_walker (p:Nat):Tryz.prog.built 88 [(0, .pointer (some ⟨p,0,none⟩))]=some #[.pointer (some ⟨p,0,none⟩), .slice none 0 0, .slice none 0 0]:=by kernel_rfl
set_option maxRecDepth 100000 in
set_option maxHeartbeats 16000000 in
theorem graWalk_calls {w:World} {sb p:Nat} {vl:Value} {S:List StL} (hS:StoAt w sb p vl S) (ini cut:List Txt) (hiok : ∀ x∈ini,x.length=32) (hcok : ∀ x∈cut,x.length=32) (hcl:cut.length≤800000) (vf vc:Value) (hvf:Ids w vf ini) (hvc:Ids w vc cut) :
 Calls Tryz.prog 16 #[.pointer (some ⟨p,0,none⟩),vf,vc] w fun e w' => ∃ v,e = .returned v∧OwnIds w' w.heap.size v (walkS S cut ini)∧Below w.heap.size w w':=by
 obtain ⟨R,hR⟩ : ∃ R,walkS S cut ini=R:=⟨_,rfl⟩
 rw [hR]
 replace hR:=Lib.hid hR
 have hSl:S.length≤500000:=hS.ok.few
 obtain ⟨W1,hW1⟩ : ∃ W1,w.alloc (.cells #[.pointer (some ⟨p,0,none⟩), .slice none 0 0, .slice none 0 0] 88)=W1:=⟨_,rfl⟩
 have s1:Blk W1 w.heap.size 88 #[.pointer (some ⟨p,0,none⟩), .slice none 0 0, .slice none 0 0]:=by rw [←hW1];exact Blk.new _ _ _
 have b1:Below w.heap.size w W1:=by rw [←hW1];exact (Below.refl _ _).alloc (Nat.le_refl _) _
 have hrb:=fun W=>run_build (P:=Tryz.prog) W _ #[(0, .pointer (some ⟨p,0,none⟩))] _ (built_walker p)
 have hw0:WalkB S W1 w.heap.size w.heap.size (.pointer (some ⟨p,0,none⟩)) (.slice none 0 0) (.slice none 0 0) [] [] []:=⟨⟨⟨s1,⟨World.ownsRow_nil _ _ _ _,fun e he=>by simp at he⟩⟩,World.ownsRow_nil _ _ _ _,fun x hx=>by simp at hx,heap_nil,List.Perm.refl _,fun e he=>by simp at he, .start []⟩,fun e he=>by simp at he⟩
 have hen:=fun W (hW:Below w.heap.size w W) (n:Txt) (hn:n.length=32)=>Lib.hid (graEnd_calls (hS.below hW) n hn)
 have hof:=fun W (hW:Below w.heap.size w W)=>Lib.hid (graOf_calls cut hcok (by omega) vc W (hvc.below hW))
 have hoff:=fun {g:Nat} {vq vn:Value} {Q:List DiL} {seen out:List Txt} W (hW:Below w.heap.size w W) (h:WalkB S W w.heap.size g (.pointer (some ⟨p,0,none⟩)) vq vn Q seen out) (n:Txt) (hn:n.length=32)=>Lib.hid (offer_calls (hS.below hW) h hW.size n hn)
 have hvf0:=hvf
 obtain ⟨Af,cf,rfl,hf1,hf2,hatf⟩:=hvf
 obtain ⟨Ac,cc,rfl,_⟩:=hvc
 clear s1 hS hvf0
 go_enter Tryz.func16,Tryz.ntmps16
 go_wp2_with (fail)
 try rw [hW1]
 go_loopg [25] ini.length (fun f vi wr => ∃ (k:Nat) (vq vn:Value) (Q:List DiL),vi = .int .i64 k∧k+f=ini.length∧WalkB S wr w.heap.size w.heap.size (.pointer (some ⟨p,0,none⟩)) vq vn Q (endsL S (ini.take k)) []∧Below w.heap.size w wr)
 case atStart=>exact ⟨0,_,_,[],rfl,by omega,hw0,b1⟩
 case round=>
  clear hw0 hW1 b1 hrb
  obtain ⟨k,vq,vn,Q,rfl,hkf,hw,hbel⟩:=hrel
  have hbs:=hbel.size
  cases gk with
  | succ f=>
    have hki:(k:Int)<(ini.length:Int):=by omega
    obtain ⟨gf,of_,rfl,hgf,hcf⟩:=hatf (by omega)
    obtain ⟨x,hx⟩ : ∃ x,ini[k]?=some x:=⟨_,List.getElem?_eq_getElem (by omega)⟩
    have hxi:=hiok x (List.mem_of_getElem? hx)
    have hlx:=run_ldvI_at (show World.rangeAt wr gf (of_+k*32) (u8s x).toList from rangeAt_below (hcf k x hx) hgf hbel) hxi
    have hmore:Hid (endsL S (ini.take (k+1))=offerE S (endsL S (ini.take k)) x):=Lib.hid (endsL_more hx)
    have hx32:(u8s x).size=32:=by rw [u8s_size,hxi]
    have hx1:=u8s_one x
    have hld2 : ∀ W g,Blk W g 42 (u8s x)→(ldvI ⟨g,0,none⟩).run Tryz.prog W = .ok (.agg (u8s x)) W:=fun W g h=>run_ldvI_at (range_blk h) hxi
    clear hx hcf hatf
    unfold offerE at hmore
    cases hE:endS S (S.length+1) x with
    | none=>
      rw [hE] at hmore
      have hen2:Hid (∀ W,Below w.heap.size w W→Hid (Calls Tryz.prog 14 #[.pointer (some ⟨p,0,none⟩), .agg (u8s x)] W fun e w'=>e = .returned (.tuple #[.agg (u8s noId), .bool false])∧Below W.heap.size W w')):=Lib.hid fun W hW=>by
       have h:=hen W hW x hxi
       rw [hE] at h
       exact h
      have hZ32:(u8s noId).size=32:=by rw [u8s_size];rfl
      have hZ1:=u8s_one noId
      clear hE hen hoff hof
      generalize u8s noId=Z at *
      go_wp2_with (first
       | ((with_reducible refine lit_new 42 (.tmp 10) (.tmp 28) (u8s x) 32 sz32 hx32 hx1 _ ?_ ?_ ?_ ?_)
          ·first | rfl | kernel_rfl
          ·rfl
          ·rfl
          intro W2 hb2 hbl2
          have hl2:=hld2 W2 _ hb2
          have b2:=bthen hbel hbs hbl2
          have he2:=hen2.out W2 b2)
       | ((with_reducible refine he2.out.mono ?_);rintro e w3 ⟨rfl,hb3⟩)
       | ((with_reducible refine lit_new 42 (.tmp 11) (.tmp 33) Z 32 sz32 hZ32 hZ1 _ ?_ ?_ ?_ ?_)
          ·first | rfl | kernel_rfl
          ·rfl
          ·rfl
          intro W4 hb4 hbl4))
      have b24:=bthen hbl2 hbl2.size (bthen hb3 hb3.size hbl4)
      have hw4:=hw.below b24
      have b4:=bthen hbel hbs b24
      rw [←hmore.out] at hw4
      clear hl2 he2 hlx hen2
      go_roundg f
      case rel=>exact ⟨k+1,vq,vn,Q,by go_num,by omega,hw4,b4⟩
      case measure=>omega
    | some m=>
      rw [hE] at hmore
      have hmi:=endS_ok _ _ _ hxi hE
      have hen2:Hid (∀ W,Below w.heap.size w W→Hid (Calls Tryz.prog 14 #[.pointer (some ⟨p,0,none⟩), .agg (u8s x)] W fun e w'=>e = .returned (.tuple #[.agg (u8s m), .bool true])∧Below W.heap.size W w')):=Lib.hid fun W hW=>by
       have h:=hen W hW x hxi
       rw [hE] at h
       exact h
      have hm32:(u8s m).size=32:=by rw [u8s_size,hmi]
      have hm1:=u8s_one m
      have hlm : ∀ W g,Blk W g 42 (u8s m)→(ldvI ⟨g,0,none⟩).run Tryz.prog W = .ok (.agg (u8s m)) W:=fun W g h=>run_ldvI_at (range_blk h) hmi
      clear hE hen hof
      go_wp2_with (first
       | ((with_reducible refine lit_new 42 (.tmp 10) (.tmp 28) (u8s x) 32 sz32 hx32 hx1 _ ?_ ?_ ?_ ?_)
          ·first | rfl | kernel_rfl
          ·rfl
          ·rfl
          intro W2 hb2 hbl2
          have hl2:=hld2 W2 _ hb2
          have b2:=bthen hbel hbs hbl2
          have he2:=hen2.out W2 b2)
       | ((with_reducible refine he2.out.mono ?_);rintro e w3 ⟨rfl,hb3⟩)
       | ((with_reducible refine lit_new 42 (.tmp 11) (.tmp 33) (u8s m) 32 sz32 hm32 hm1 _ ?_ ?_ ?_ ?_)
          ·first | rfl | kernel_rfl
          ·rfl
          ·rfl
          intro W4 hb4 hbl4
          have hl4:=hlm W4 _ hb4
          have b24:=bthen hbl2 hbl2.size (bthen hb3 hb3.size hbl4)
          have hw4:=hw.below b24
          have b4:=bthen hbel hbs b24
          have ho4:=hoff W4 b4 hw4 m hmi)
       | ((with_reducible refine ho4.out.mono ?_);rintro e w5 ⟨rfl,vq5,vn5,Q5,hw5,_,hf5,_⟩))
      have b5:=b4.trans (hw4.far_below b4.size (Nat.le_refl _) hf5)
      rw [←hmore.out] at hw5
      clear hl2 he2 hlx hen2 hlm hl4 ho4 hoff hw hw4
      go_roundg f
      case rel=>exact ⟨k+1,vq5,vn5,Q5,by go_num,by omega,hw5,b5⟩
      case measure=>omega
  | zero=>
    have hki : ¬ (k:Int)<(ini.length:Int):=by omega
    have hke:ini.take k=ini:=List.take_of_length_le (by omega)
    rw [hke] at hw
    have hofr:=hof wr hbel
    clear hke hatf hof hen
    go_wp2_with (first
     | ((with_reducible refine hofr.out.mono ?_);rintro e w8 ⟨vE,rfl,hoE,hbE⟩))
    have b8:=bthen hbel hbs hbE
    have hC:WalkC S w8 w.heap.size w.heap.size (.pointer (some ⟨p,0,none⟩)) vq vn (.slice none 0 0) vE Q (endsL S ini) [] [] (sortU cut):=by
     refine ⟨hw.below hbE,World.ownsRow_nil _ _ _ _,own_low' hoE hbs, .nil_l _ _ _, .nil_l _ _ _,fun k hk hv=>?_,fun e he=>⟨.nil_r _ _ _,fun k hk hv=>?_⟩⟩
     ·have:=(World.ownsRow.lt hoE k hk).1
      have:=(World.ownsRow.lt hw.at_.sn k hv).2
      omega
     ·have:=(World.ownsRow.lt hoE k hv).1
      have:=(World.ownsRow.lt (hw.at_.q.q.each e he).op k hk).2
      omega
    have hR0:Hid (walkW S cut (S.length+1) (endsL S ini) []=R):=hR
    have hEok : ∀ x∈sortU cut,x.length=32:=fun x hx=>hcok x (((sortU_law cut).2 x).1 hx)
    have hEr:=(sortU_law cut).1
    have hEl:=sortU_len cut
    have hEin:=fun n=>inL_sortU cut n
    generalize endsL S ini=seen0 at *
    clear hofr hoE hbE hw hR
    go_loopg [14] (S.length+1) (fun f vo wr => ∃ (vq vn:Value) (Q:List DiL) (seen out:List Txt),WalkC S wr w.heap.size w.heap.size (.pointer (some ⟨p,0,none⟩)) vq vn vo vE Q seen out out (sortU cut)∧f+out.length=S.length+1∧Hid (walkW S cut f seen out=R)∧Below w.heap.size w wr)
    case atStart=>exact ⟨vq,vn,Q,seen0,[],hC,rfl,hR0,b8⟩
    case round=>
     clear hC hR0 b8
     obtain ⟨vq,vn,Q,seen,out,hC,hfl,hR,hbel⟩:=hrel
     have hbs:=hbel.size
     have hlen:=hC.b.at_.len
     have hol:=hC.b.at_.wi.len.2
     have hc1:=hC.b.at_.q.c1
     obtain ⟨Aq,cq,rfl⟩:=own_form' hC.b.at_.q.q.own
     obtain ⟨Ao,co,rfl⟩:=own_form' hC.o
     have hqn:=Lib.hid (queueLen_calls Aq Q.length cq wr)
     by_cases hQ:Q.length=0
     ·have hQi : ¬ (0:Int)<(Q.length:Int):=by omega
      have hleft:leftW seen out=[]:=by
       have:=hC.b.at_.perm.length_eq
       rw [List.length_map] at this
       exact List.eq_nil_of_length_eq_zero (by omega)
      have hbn:bestT S seen out=none:=by unfold bestT;rw [hleft];rfl
      have hRo:out=R:=by rw [←hR.out];exact (walk_stop hbn).symm
      have hown:=hC.o
      have HRo:=Lib.hid hRo
      clear hC hR hoff hEin hleft hbn hRo hQ hlen hol hfl
      go_wp2_with (first
       | ((with_reducible refine hqn.out.mono ?_);rintro e w2 ⟨rfl,rfl⟩))
      go_ret
      refine ⟨_,rfl,?_,hbel⟩
      rw [←HRo.out]
      exact hown
     ·have hQi:(0:Int)<(Q.length:Int):=by omega
      cases gk with
      | zero=>omega
      | succ f=>
        have hbest:=root_best hC.b.at_.heap hC.b.at_.perm hC.b.at_.obj (show 0<Q.length by omega)
        have hstep:Hid (walkW S cut f (if inL cut (atQ Q 0).st.id=true then seen else offerL S seen (parS S (atQ Q 0).st.id)) (out++[(atQ Q 0).st.id])=R):=Lib.hid (by rw [←walkW_go hbest];exact hR.out)
        have hrQ:atQ Q 0∈Q:=List.mem_of_getElem? (atQ_get (by omega))
        have hobj:=hC.b.at_.obj _ hrQ
        have hrap:=hC.ap _ hrQ
        have hran:=hC.b.ap _ hrQ
        have hnx:=Lib.hid (walkNext_calls hC.b.at_.q (by omega) (show 0<Q.length by omega) hC.b.at_.heap)
        have hnext:=fun {w':World} {vq':Value} {Q':List DiL} (hq:WqAt w' w.heap.size w.heap.size (.pointer (some ⟨p,0,none⟩)) vq' vn Q') (hh:HeapQ ltN Q' Q'.length) (hp:(Q'++[atQ Q 0]).Perm Q) (hf:Far [some w.heap.size,(Value.slice Aq Q.length cq).ownBlock] wr w')=>hC.next hq hh hp hf
        have hfb:=fun {w':World} (hf:Far [some w.heap.size,(Value.slice Aq Q.length cq).ownBlock] wr w')=>(hf.below hbs fun k hk=>by
         rcases List.mem_cons.1 hk with h1 | h1
         ·injection h1 with h1;omega
         ·exact (World.ownsRow.lt hC.b.at_.q.q.own k (List.mem_singleton.1 h1).symm).1:Below w.heap.size wr w')
        have hd0:=hC.b.at_.q.q.each _ hrQ
        have hid32:=hd0.id
        have htree:=hd0.ok.tree
        have hndl:=ndC_len hd0
        have hndo:=ndC_one hd0
        have hparS:parS S (atQ Q 0).st.id=(atQ Q 0).o.pars:=by unfold parS;rw [hobj]
        rw [hparS] at hstep
        obtain ⟨r,hr⟩ : ∃ r,atQ Q 0=r:=⟨_,rfl⟩
        rw [hr] at hstep hobj hrap hran hd0 hid32 htree hndl hndo
        simp only [hr] at hnx hnext
        obtain ⟨X,hX⟩ : ∃ X,(ndC r).toArray=X:=⟨_,rfl⟩
        have hX104:X.size=104:=by rw [←hX,List.size_toArray,hndl]
        have hX1:X.all (·.oneCell')=true:=by rw [←hX];exact all_oneCell_toArray hndo
        have hXr : ∀ W g,Blk W g 91 X→W.rangeAt g 0 (ndC r):=fun W g h=>by
         have:=range_blk h
         rwa [←hX,List.toList_toArray] at this
        have hown0:=hC.o
        have hgn4:=fun w3 (hf:Far [some w.heap.size,(Value.slice Aq Q.length cq).ownBlock] wr w3)=>(fun hm=>by
         have h1:=(World.ownsRow.lt hown0 _ (List.mem_singleton.1 hm).symm).2
         have h2:=hf.size
         omega:some w3.heap.size ∉ [(Value.slice Ao out.length co).ownBlock])
        have hi32:(u8s r.st.id).size=32:=by rw [u8s_size,hid32]
        have hi132:(u8s r.st.id).size=1*32:=hi32
        have hi1 : ∀ u∈(u8s r.st.id).toList,u.oneCell'=true:=idC_one r.st.id
        have hhs:=fun {W:World} (h:OwnIds W w.heap.size vE (sortU cut))=>Lib.hid (setHas_calls (sortU cut) hEok hEr (by omega) vE r.st.id hid32 W (SliceAt.of_own (fun e h=>idC_len (hEok e h)) h))
        rw [hEin r.st.id] at hhs
        have hAk:out.length+1≤9223372036854775807:=by omega
        have hAb:(out.length+1)*32≤140737488355328:=by omega
        have hfl2:=hfl
        have hlen2:Hid ((out++[r.st.id]).length=out.length+1):=Lib.hid (by rw [List.length_append];rfl)
        have hrow2:Hid (rowsOf idC (out++[r.st.id])=rowsOf idC out++(u8s r.st.id).toList):=Lib.hid (by rw [rowsOf_append,rowsOf_one];rfl)
        rw [hX] at hnx
        have hown5:=fun {W:World} {v:Value} (h:W.ownsRow w.heap.size 42 32 v (out.length+1) (rowsOf idC out++(u8s r.st.id).toList))=>(by unfold OwnIds;rw [hlen2.out,hrow2.out];exact h:OwnIds W w.heap.size v (out++[r.st.id]))
        have hgl:w.heap.size<wr.heap.size:=hC.b.at_.q.blk.lt
        have HX:=Lib.hid hX
        have HC:=Lib.hid hC
        clear hC hR hbest hrQ hparS hr hndl hndo hX hEin hQ
        go_wp2_with (first
         | ((with_reducible refine hqn.out.mono ?_);rintro e w2 ⟨rfl,rfl⟩)
         | ((with_reducible refine hnx.out.mono ?_);rintro e w3 ⟨rfl,vq3,Q3,hq3,hh3,hp3,hv3,hf3⟩
            have hC3:=hnext hq3 hh3 hp3 hf3
            have b3:=hfb hf3)
         | ((with_reducible refine lit_new 91 (.tmp 15) (.tmp 49) X 104 szNd hX104 hX1 _ ?_ ?_ ?_ ?_)
            ·first | exact hX104 | kernel_rfl
            ·rfl
            ·rfl
            intro W4 hb4 hbl4
            have li4:=run_ldvI_at (nd_id (hXr W4 _ hb4)) hid32
            have hC4:=hC3.1.below hbl4
            have b4:=b3.trans (hbl4.mono (Nat.le_trans hbs b3.size))
            have hn4:=Nat.le_trans hbs b4.size
            have hown4:=hC4.o)
         | ((with_reducible refine lit_slice1 (.tmp 52) Tryz.idsTy (u8s r.st.id) hi32 (by omega) ?_ ?_);rfl)
         | ((with_reducible refine lit_append_new (.tmp 50) (.tmp 53) 1 _ Tryz.idsTy hown4 (u8s r.st.id) hi132 hi1 hAk hAb hn4 ?_ ?_ ?_);rfl;rfl
            intro v5 w5 ho5 hb5 hg5 hn5
            have hb5n:=(Far.of_grown hg5).blk hb4 (hgn4 w3 hf3)
            have li5:=run_ldvI_at (nd_id (hXr w5 _ hb5n)) hid32
            have hC5:=hC4.tell (hown5 ho5) hg5 hn5
            have hhas:=hhs hC5.e))
        have b5:=hbel.trans (b4.trans hb5)
        have hd4:=hC3.2.below hbl4
        have hd5:DitOk w5 r:=hd4.far (Far.of_grown hg5) (fun k hk hm=>own_ne hd4.oe hown4 (by decide) k hk (List.mem_singleton.1 hm).symm) (fun k hk hm=>hrap.1 k hk (List.mem_singleton.1 hm).symm)
        have h5s:w.heap.size≤w5.heap.size:=b5.size
        clear hC3 hC4 hd4 hb4 hbl4 li4 hown4 ho5 hg5 hn5 hgn4 hhs hown5 hqn hnx hnext hfb hd0 HC hfl b4 hb5 hc1 hown0
        obtain ⟨bE,hbE⟩ : ∃ b,inL cut r.st.id=b:=⟨_,rfl⟩
        rw [hbE] at hhas hstep
        clear hbE
        cases bE with
        | true=>
          rw [if_pos rfl] at hstep
          go_wp2_with (first
           | ((with_reducible refine hhas.out.mono ?_);rintro e w6 ⟨rfl,hb6⟩))
          have hC6:=hC5.below hb6
          have b6:=bthen b5 h5s hb6
          clear hhas li5 hoff
          go_roundg f
          case rel=>exact ⟨vq3,vn,Q3,seen,out++[r.st.id],hC6,by rw [hlen2.out];omega,hstep,b6⟩
          case measure=>omega
        | false=>
          rw [if_neg (by decide)] at hstep
          obtain ⟨A1,A2,k1,k2,e1,e2⟩:=hd5.forms
          have hop5:=hd5.op
          rw [e2] at hop5 hran
          have hcp : ∀ W,Below w5.heap.size w5 W→W.cell? ⟨w3.heap.size,67,none⟩=some (.slice A2 r.o.pars.length k2):=fun W hW=>by
           have:=nd_pars (hXr W _ (hb5n.below hW hb5n.lt)) hid32 htree
           rw [e2] at this
           exact this
          have hpok:=hd5.ok.pars
          obtain ⟨PS,hPS⟩ : ∃ PS,r.o.pars=PS:=⟨_,rfl⟩
          rw [hPS] at hop5 hran hcp hpok hstep
          clear e1 e2 hPS hd5 htree
          go_wp2_with (first
           | ((with_reducible refine hhas.out.mono ?_);rintro e w6 ⟨rfl,hb6⟩
              have hcp6:=hcp w6 hb6
              have hC6:=hC5.below hb6
              have b6:=bthen b5 h5s hb6
              have hop6:=own_below hop5 hb6))
          obtain ⟨ON,hON⟩ : ∃ ON,out++[r.st.id]=ON:=⟨_,rfl⟩
          rw [hON] at hC6 hstep hlen2
          clear hhas li5 hC5 hcp hcp6 hop5 hON hb6 b5
          go_loopg [63] PS.length (fun f3 vi wq => ∃ (k:Nat) (vq vn:Value) (Q:List DiL),vi = .int .i64 k∧k+f3=PS.length∧WalkC S wq w.heap.size w.heap.size (.pointer (some ⟨p,0,none⟩)) vq vn v5 vE Q (offerL S seen (PS.take k)) ON ON (sortU cut)∧OwnIds wq 0 (.slice A2 PS.length k2) PS∧Ap (.slice A2 PS.length k2) vn∧Below w.heap.size w wq)
          case atStart=>exact ⟨0,vq3,vn,Q3,rfl,by omega,hC6,hop6,hran,b6⟩
          case round=>
           clear hC6 hop6 hran b6
           obtain ⟨k,vq,vn,Q,rfl,hkf,hC,hop,hap,hbel⟩:=hrel
           have hbs:=hbel.size
           cases gk with
           | succ f3=>
             have hki:(k:Int)<(PS.length:Int):=by omega
             obtain ⟨A2',k2',hpe,_,_,hatp⟩:=SliceAt.of_own (fun e h=>idC_len (hpok e h)) hop
             obtain ⟨gp,op_,hpe2,hgp,hcp⟩:=hatp (by omega)
             injection hpe with hpe1 _ hpe3
             subst hpe3
             obtain rfl:A2=some ⟨gp,op_,none⟩:=hpe1.trans hpe2
             obtain ⟨x,hx⟩ : ∃ x,PS[k]?=some x:=⟨_,List.getElem?_eq_getElem (by omega)⟩
             have hxi:=hpok x (List.mem_of_getElem? hx)
             have hlx:=run_ldvI_at (show World.rangeAt wr gp (op_+k*32) (u8s x).toList from hcp k x hx) hxi
             have hmore:Hid (offerL S seen (PS.take (k+1))=offerS S (offerL S seen (PS.take k)) x):=Lib.hid (offerL_more hx)
             have hx32:(u8s x).size=32:=by rw [u8s_size,hxi]
             have hx1:=u8s_one x
             have hld2 : ∀ W g,Blk W g 42 (u8s x)→(ldvI ⟨g,0,none⟩).run Tryz.prog W = .ok (.agg (u8s x)) W:=fun W g h=>run_ldvI_at (range_blk h) hxi
             clear hx hcp hatp hpe1 hpe2
             go_wp2_with (first
              | ((with_reducible refine lit_new 42 (.tmp 17) (.tmp 66) (u8s x) 32 sz32 hx32 hx1 _ ?_ ?_ ?_ ?_)
                 ·first | rfl | kernel_rfl
                 ·rfl
                 ·rfl
                 intro W2 hb2 hbl2
                 have hl2:=hld2 W2 _ hb2
                 have b2:=bthen hbel hbs hbl2
                 have hC2:=hC.below hbl2
                 have ho2:=hoff W2 b2 hC2.b x hxi)
              | ((with_reducible refine ho2.out.mono ?_);rintro e w7 ⟨rfl,hr7⟩))
             obtain ⟨vq7,vn7,Q7,hC7,hf7,hn7⟩:=hC2.offer hr7
             have hop2:=own_below hop hbl2
             have hop7:=hC2.b.keep hop2 hap hf7 fun _ h=>h
             have hap7:=(hap.symm.newer hn7 fun k hk=>(World.ownsRow.lt hop2 k hk).2).symm
             have b7:=b2.trans (hC2.b.far_below b2.size (Nat.le_refl _) hf7)
             rw [←hmore.out] at hC7
             clear hl2 ho2 hlx hld2 hr7 hC2 hC hop hop2
             go_roundg f3
             case rel=>exact ⟨k+1,vq7,vn7,Q7,by go_num,by omega,hC7,hop7,hap7,b7⟩
             case measure=>omega
           | zero=>
             have hki : ¬ (k:Int)<(PS.length:Int):=by omega
             have hke:PS.take k=PS:=List.take_of_length_le (by omega)
             rw [hke] at hC
             clear hop hap hke
             go_wp2_with (fail)
             go_roundg f
             case rel=>exact ⟨vq,vn,Q,offerL S seen PS,ON,hC,by rw [hlen2.out];omega,hstep,hbel⟩
             case measure=>omega
end Go.Proofs.YtlojebhcemfodaaGreatDoor
namespace Go.Proofs.YtlojebhcemfodaaGreatDoor
open Go.RowKit
theorem TabK.alloc_ {w:World} (h:TabK w) (o:Obj):TabK (w.alloc o):=h.below ((Below.refl _ _).alloc (Nat.le_refl _) o)
set_option maxRecDepth 100000 in
set_option maxHeartbeats 2000000 in
theorem objId_calls (s:Txt) (hs:s.length≤1000000000) (w:World) (hK:TabK w):Calls Tryz.prog 56 #[.string (B s)] w fun e w'=>e = .returned (.agg (u8s (shaOf s)))∧Below w.heap.size w w':=by
 have hzv:=zeroIdV
 have hzl:(u8s noId).size=32:=by rw [u8s_size,noId_len]
 generalize u8s noId=Z at *
 obtain ⟨W1,hW1⟩ : ∃ W1,w.alloc (.cells Z 42)=W1:=⟨_,rfl⟩
 have hx1:Blk W1 w.heap.size 42 Z:=by rw [←hW1];exact Blk.new _ _ _
 have b1:Below w.heap.size w W1:=by rw [←hW1];exact (Below.refl _ _).alloc (Nat.le_refl _) _
 obtain ⟨W2,hW2⟩ : ∃ W2,W1.alloc (.cells #[.string (B s)] 9)=W2:=⟨_,rfl⟩
 have hb2:Below W1.heap.size W1 W2:=by rw [←hW2];exact (Below.refl _ _).alloc (Nat.le_refl _) _
 have hy2:Blk W2 W1.heap.size 9 #[.string (B s)]:=by rw [←hW2];exact Blk.new _ _ _
 have hx2:=hx1.below hb2 hx1.lt
 have b2:=bthen b1 b1.size hb2
 have hK2:TabK W2:=by rw [←hW2,←hW1];exact (hK.alloc_ _).alloc_ _
 have hst:Strs W2 (.slice (some ⟨W1.heap.size,0,none⟩) 1 1) [s] := .inr ⟨W1.heap.size,0,1,rfl,fun j l hj=>by
  match j,hj with
  | 0,hj=>
    injection hj with hj
    subst hj
    rw [hy2.cell];rfl
  | j+1,hj=>simp at hj,hy2.lt,by simp,by simp⟩
 have hsum:=sum_calls [s] _ W2 hK2 hst (by simp;omega)
 have hfl:[s].flatten=s:=by simp
 rw [hfl] at hsum
 have hsum:=Lib.hid hsum
 have hl:=shaOf_length s
 have hsz:(Tryz.prog.info? 42).map (·.size)=some (u8s (shaOf s)).size:=by rw [u8s_size,hl];exact sz32
 have h32:(u8s (shaOf s)).size=32:=by rw [u8s_size,hl]
 have hone:=u8s_one (shaOf s)
 obtain ⟨D,hD⟩ : ∃ D,Hid (u8s (shaOf s)=D):=⟨_,Lib.hid rfl⟩
 rw [hD.out] at hsum hsz h32 hone
 clear hy2 hK2 hst hfl hl hx1 b1 hb2
 go_enter Tryz.func56,Tryz.ntmps56
 go_wp2_with (first
  | ((with_reducible refine hsum.out.mono ?_);rintro e w3 ⟨rfl,hb3⟩
     have hx3:=hx2.below hb3 hx2.lt
     have b3:=bthen b2 b2.size hb3
     clear hsum hW1 hW2)
  | (refine wpList_store_row rfl 42 (.tmp 2) (.tmp 5) rfl w.heap.size D rfl rfl _ _ hx3 hsz (by rw [hzl,h32]) hone ?_))
 exact bodyPost_ret (results_cell_row rfl _ _ w.heap.size _ _ _ _ rfl (setRow_heap _ _ _ _ _ _ hx3) Tryz.underlying42 rfl hsz) rfl ⟨by rw [hD.out],below_setRow b3 (Nat.le_refl _) _⟩
end Go.Proofs.YtlojebhcemfodaaGreatDoor
namespace Go.Proofs.YtlojebhcemfodaaGreatDoor
open Go.RowKit
attribute [local go_sem ↓] ldvI_eq ldvO_eq
/-- What Put leaves. -/
def PutAt (w:World) (base p:Nat) (vl:Value) (s':List StL) (w':World):Prop := ∃ vl',StoAt w' base p vl' s'∧Far [some p,vl.ownBlock] w w'∧Newer w vl vl'
set_option maxRecDepth 100000 in
set_option maxHeartbeats 8000000 in
theorem stoPut_calls {w:World} {base p:Nat} {vl:Value} {s:List StL} (hB:base≤w.heap.size) (h:StoAt w base p vl s) (t:Txt) (ht:t.length≤1000000) (hK:TabK w) (hf:s.length<500000) :
 Calls Tryz.prog 29 #[.pointer (some ⟨p,0,none⟩), .string (B t)] w fun e w'=>e = .returned (.tuple #[.agg (u8s (putI t)), .int .i64 (putC t)])∧PutAt w base p vl (putS s t) w':=by
 have hzI:=zeroIdV
 have hrb:=fun W=>run_build (P:=Tryz.prog) W _ _ _ built_zId
 have hZ32:(u8s noId).size=32:=by rw [u8s_size,noId_len]
 have hZone:=u8s_one noId
 obtain ⟨W0,hW0⟩ : ∃ W0,w.alloc (.cells (u8s noId) 42)=W0:=⟨_,rfl⟩
 have z0:Blk W0 w.heap.size 42 (u8s noId):=by rw [←hW0];exact Blk.new _ _ _
 have b0:Below w.heap.size w W0:=by rw [←hW0];exact (Below.refl _ _).alloc (Nat.le_refl _) _
 have hsz : ∀ cs:Array Value,cs.size=32→(Tryz.prog.info? 42).map (·.size)=some cs.size:=fun cs h=>by rw [h];exact sz32
 have hde:=Lib.hid (decode_calls t (by omega) W0)
 have hzo:=zeroObj
 have hz72:=zObj_size
 have hplw:=h.lt
 have hD:=Lib.hid h
 have hn0:(List.replicate 32 (0:UInt8))=noId:=rfl
 cases hd:decO t with
 | none=>
   have hpi:putI t=noId:=by unfold putI;rw [hd];exact hn0
   have hpc:putC t=2:=by unfold putC;rw [hd]
   have hps:putS s t=s:=by unfold putS;rw [hd]
   rw [hpi,hpc,hps]
   rw [hd] at hde
   have hde:Hid (Calls Tryz.prog 55 #[.string (B t)] W0 fun e w'=>e = .returned (.tuple #[.agg zObj, .int .i64 2])∧Below W0.heap.size W0 w'):=hde
   have hzone:zObj.all (·.oneCell')=true:=objC_all zeroO none none 0 0 0 0
   generalize u8s noId=Z at *
   generalize zObj=ZO at *
   clear hd hpi hpc hps hn0
   go_enter Tryz.func29,Tryz.ntmps29
   go_wp2_with (first
    | ((with_reducible refine hde.out.mono ?_);rintro e w1 ⟨rfl,bb1⟩
       have b1:=bthen b0 b0.size bb1
       have z1:=z0.below bb1 z0.lt)
    | ((with_reducible refine lit_new 54 (.tmp 6) (.tmp 17) ZO 72 szObj hz72 hzone _ ?_ ?_ ?_ ?_)
       ·first | exact hz72 | rfl
       ·rfl
       ·rfl
       intro W2 hb2 hbl2
       have b2:=bthen b1 b1.size hbl2
       have z2:=z1.below hbl2 z1.lt)
    | (refine wpList_store_row rfl 42 (.tmp 4) (.tmp 21) rfl w.heap.size Z rfl rfl _ _ z2 (hsz Z hZ32) rfl hZone ?_))
   refine bodyPost_ret (results_row_tmp rfl _ _ w.heap.size _ _ _ _ rfl (setRow_heap _ _ _ _ _ _ z2) Tryz.underlying42 rfl (hsz Z hZ32)) rfl ⟨rfl,?_⟩
   have hb:=below_setRow b2 (Nat.le_refl _) Z
   exact ⟨vl,hD.out.below hb,Far.of_below hb,Newer.refl _ _⟩
 | some o=>
   have hpi:putI t=shaOf t:=by unfold putI;rw [hd]
   have hpc:putC t=0:=by unfold putC;rw [hd]
   have hps:putS s t=if hasK StL.id s (shaOf t) then s else insK StL.id s ⟨shaOf t,t⟩:=by unfold putS;rw [hd]
   have hokP:=h.ok.put t hf
   rw [hpi,hpc]
   rw [hps] at hokP ⊢
   rw [hd] at hde
   have hde:Hid (Calls Tryz.prog 55 #[.string (B t)] W0 fun e w'=>(∃ A1 A2 k1 k2,e = .returned (.tuple #[.agg (objC o (.slice A1 o.ents.length k1) (.slice A2 o.pars.length k2)).toArray, .int .i64 0])∧ObjV w' (.slice A1 o.ents.length k1) (.slice A2 o.pars.length k2) o)∧Below W0.heap.size W0 w'):=Lib.hid (hde.out.mono fun e w' ⟨⟨A1,A2,k1,k2,h1,h2,_⟩,hb⟩=>⟨⟨A1,A2,k1,k2,h1,h2⟩,hb⟩)
   have hid:=fun W (hb:Below w.heap.size w W)=>objId_calls t (by omega) W (hK.below hb)
   have hn32:=shaOf_length t
   have hxok:StitOk ⟨shaOf t,t⟩:=⟨hn32,by show t.length≤_;omega⟩
   obtain ⟨n,hn⟩ : ∃ n,shaOf t=n:=⟨_,rfl⟩
   rw [hn] at hid hn32 hxok hokP ⊢
   have hN32:(u8s n).size=32:=by rw [u8s_size,hn32]
   have hNone:=u8s_one n
   have hsI:(Tryz.prog.info? 42).map (·.size)=some (u8s n).toList.length:=by rw [u8s_lenS,hn32];exact sz32
   have hldn : ∀ W g,Blk W g 42 (u8s n)→(ldvI ⟨g,0,none⟩).run Tryz.prog W = .ok (.agg (u8s n)) W:=fun W g hb=>by
    have:=run_loadVar_mid (P:=Tryz.prog) W g 0 42 (u8s n).toList _ (range_blk hb) Tryz.underlying42 rfl hsI
    rwa [Array.toArray_toList] at this
   have hpl:=fun W (hb:Below w.heap.size w W)=>stoPlace_calls (hD.out.below hb) n hn32
   have hPle:posK StL.id s n≤s.length:=posK_le
   have hZ32':(u8s noId).size=(u8s n).size:=by rw [hZ32,hN32]
   clear hd hpi hpc hps hn0 hn
   cases hh:hasK StL.id s n with
   | true=>
     rw [hh] at hpl hokP
     simp only [if_true] at hokP ⊢
     generalize posK StL.id s n=P at *
     go_enter Tryz.func29,Tryz.ntmps29
     go_wp2_with (first
      | ((with_reducible refine hde.out.mono ?_);rintro e w1 ⟨⟨A1,A2,k1,k2,rfl,hv1⟩,bb1⟩
         have b1:=bthen b0 b0.size bb1
         have z1:=z0.below bb1 z0.lt
         have hc72:(objC o (.slice A1 o.ents.length k1) (.slice A2 o.pars.length k2)).toArray.size=72:=by rw [List.size_toArray,objC_len hv1.ok]
         have hcone:=objC_all o A1 A2 o.ents.length k1 o.pars.length k2)
      | ((with_reducible refine lit_new 54 (.tmp 6) (.tmp 17) (objC o (.slice A1 o.ents.length k1) (.slice A2 o.pars.length k2)).toArray 72 szObj hc72 hcone _ ?_ ?_ ?_ ?_)
         ·first | exact hz72 | rfl
         ·rfl
         ·rfl
         intro W2 hb2 hbl2
         have b2:=bthen b1 b1.size hbl2
         have z2:=z1.below hbl2 z1.lt)
      | ((with_reducible refine (hid _ b2).mono ?_);rintro e w3 ⟨rfl,bb3⟩
         have b3:=bthen b2 b2.size bb3
         have z3:=z2.below bb3 z2.lt)
      | ((with_reducible refine lit_new 42 (.tmp 8) (.tmp 23) (u8s n) 32 sz32 hN32 hNone _ ?_ ?_ ?_ ?_)
         ·first | exact hZ32 | rfl
         ·rfl
         ·rfl
         intro W4 hb4 hbl4
         have b4:=bthen b3 b3.size hbl4
         have z4:=z3.below hbl4 z3.lt
         have ld4:=hldn _ _ hb4)
      | ((with_reducible refine (hpl _ b4).mono ?_);rintro e w5 ⟨rfl,bb5⟩
         have b5:=bthen b4 b4.size bb5
         have z5:=z4.below bb5 z4.lt
         have ld5:=hldn _ _ (hb4.below bb5 hb4.lt))
      | (refine wpList_store_row rfl 42 (.tmp 4) (.tmp 45) rfl w.heap.size (u8s n) rfl rfl _ _ z5 (hsz _ hN32) hZ32' hNone ?_))
     refine bodyPost_ret (results_row_tmp rfl _ _ w.heap.size _ _ _ _ rfl (setRow_heap _ _ _ _ _ _ z5) Tryz.underlying42 rfl (hsz _ hN32)) rfl ⟨rfl,?_⟩
     have hb:=below_setRow b5 (Nat.le_refl _) (u8s n)
     exact ⟨vl,hD.out.below hb,Far.of_below hb,Newer.refl _ _⟩
   | false=>
     rw [hh] at hpl hokP
     simp only [Bool.false_eq_true,if_false] at hokP ⊢
     unfold insK at hokP ⊢
     simp only at hokP ⊢
     generalize posK StL.id s n=P at *
     obtain ⟨s',hs'⟩ : ∃ s',s.take P++[(⟨n,t⟩:StL)]++s.drop P=s':=⟨_,rfl⟩
     rw [hs'] at hokP ⊢
     have HS:=Lib.hid hs'
     clear hs'
     go_enter Tryz.func29,Tryz.ntmps29
     go_upto_region 9 with (first
      | ((with_reducible refine hde.out.mono ?_);rintro e w1 ⟨⟨A1,A2,k1,k2,rfl,hv1⟩,bb1⟩
         have b1:=bthen b0 b0.size bb1
         have z1:=z0.below bb1 z0.lt
         have hc72:(objC o (.slice A1 o.ents.length k1) (.slice A2 o.pars.length k2)).toArray.size=72:=by rw [List.size_toArray,objC_len hv1.ok]
         have hcone:=objC_all o A1 A2 o.ents.length k1 o.pars.length k2)
      | ((with_reducible refine lit_new 54 (.tmp 6) (.tmp 17) (objC o (.slice A1 o.ents.length k1) (.slice A2 o.pars.length k2)).toArray 72 szObj hc72 hcone _ ?_ ?_ ?_ ?_)
         ·first | exact hz72 | rfl
         ·rfl
         ·rfl
         intro W2 hb2 hbl2
         have b2:=bthen b1 b1.size hbl2
         have z2:=z1.below hbl2 z1.lt)
      | ((with_reducible refine (hid _ b2).mono ?_);rintro e w3 ⟨rfl,bb3⟩
         have b3:=bthen b2 b2.size bb3
         have z3:=z2.below bb3 z2.lt)
      | ((with_reducible refine lit_new 42 (.tmp 8) (.tmp 23) (u8s n) 32 sz32 hN32 hNone _ ?_ ?_ ?_ ?_)
         ·first | exact hZ32 | rfl
         ·rfl
         ·rfl
         intro W4 hb4 hbl4
         have b4:=bthen b3 b3.size hbl4
         have z4:=z3.below hbl4 z3.lt
         have hgI:w.heap.size≤w3.heap.size:=b3.size
         have ld4:=hldn _ _ hb4)
      | ((with_reducible refine (hpl _ b4).mono ?_);rintro e w0 ⟨rfl,bb5⟩
         have b5:=bthen b4 b4.size bb5
         have z5:=z4.below bb5 z4.lt
         have hI5:=hb4.below bb5 hb4.lt))
     have hgI0:=z3.lt
     obtain ⟨gI,hgIe⟩ : ∃ gI,w3.heap.size=gI:=⟨_,rfl⟩
     rw [hgIe] at hI5 hgI0 ⊢
     have hD0:=hD.out.below b5
     have hplw2:p<w.heap.size:=hplw
     have hlv0 : ∀ q,vl.ownBlock=some q→q<w.heap.size:=fun q hq=>(World.ownsRow.lt hD.out.own q hq).2
     have hok:=hD.out.ok
     have hB:base≤w0.heap.size:=Nat.le_trans hB b5.size
     replace hD:=Lib.hid hD0
     have hlv : ∀ q,vl.ownBlock=some q→q<w0.heap.size:=fun q hq=>(World.ownsRow.lt hD.out.own q hq).2
     have hPl:=hPle
     have ldn:=fun W (hW:Below w0.heap.size w0 W)=>hldn W gI (hI5.below hW hI5.lt)
     clear hde hid hpl b0 b1 b2 b3 b4 z0 z1 z2 z3 z4 ld4 bb1 bb3 bb5 hv1 hc72 hcone hb2 hbl2 hb4 hbl4 hW0 hD0 hgIe hplw hPle hh hK
     obtain ⟨V,hV⟩ : ∃ V:Nat→Value,V=fun i=>[(.pointer (some ⟨p,0,none⟩)),(.pointer (some ⟨p,0,none⟩)),(.pointer (some ⟨p,0,none⟩)),(.pointer (some ⟨p,0,none⟩)),vl,(.int .i64 P),(.agg (u8s n)),(.string (B t)),(.agg (stitC ⟨n,t⟩).toArray),undef,undef,(.pointer (some ⟨p,0,none⟩)),(.pointer (some ⟨p,0,none⟩)),undef].getD i undef:=⟨_,rfl⟩
     have v0:V 0=(.pointer (some ⟨p,0,none⟩)):=by rw [hV];rfl
     have v1:V 1=(.pointer (some ⟨p,0,none⟩)):=by rw [hV];rfl
     have v2:V 2=(.pointer (some ⟨p,0,none⟩)):=by rw [hV];rfl
     have v3:V 3=(.pointer (some ⟨p,0,none⟩)):=by rw [hV];rfl
     have v4:V 4=vl:=by rw [hV];rfl
     have v5:V 5=(.int .i64 P):=by rw [hV];rfl
     have v6:V 6=(.agg (u8s n)):=by rw [hV];rfl
     have v7:V 7=(.string (B t)):=by rw [hV];rfl
     have v8:V 8=(.agg (stitC ⟨n,t⟩).toArray):=by rw [hV];rfl
     have v11:V 11=(.pointer (some ⟨p,0,none⟩)):=by rw [hV];rfl
     have v12:V 12=(.pointer (some ⟨p,0,none⟩)):=by rw [hV];rfl
     have v13:V 13=undef:=by rw [hV];rfl
     clear hV
     refine wp_region_listed (C:=StPutC w0 base p vl s') (R:=StPutR V w0 base vl ⟨n,t⟩ s') (by kernel_rfl) (by kernel_rfl) (by kernel_rfl) ?_ (StPutC.start w0).drew ?_ ?_
     ·exact sizes_spec (n:=46) (by kernel_rfl)
     ·intro i o listed a w1 ho hi hL
      have hin:=(ready_spec hi).1
      have hsz:listed.size=14:=hL.size
      match i,ho with
      | 0,ho=>
        obtain rfl:=(Option.some.inj ho).symm
        have e0:a.tmps[0]?.getD undef=(.pointer (some ⟨p,0,none⟩)):=(slot_eval a 0).trans (hL.get_old hi (by kernel_rfl))
        have hc:=hL.cls
        refine step_wp rfl rfl ?_
        clear ho hL
        refine wp_val (v:=(.pointer (some ⟨p,0,none⟩))) ?_ ⟨_,rfl,StPutR.mk (by decide) v0.symm,hc.same (by rw [hsz];decide) (by decide),fun _ _ _ h=>h⟩
        clear hi hin hsz v0 v1 v2 v3 v4 v5 v6 v7 v8 v11 v12 v13  hc
        unfold execOp
        go_simp
      | 1,ho=>
        obtain rfl:=(Option.some.inj ho).symm
        have e0:a.tmps[0]?.getD undef=(.pointer (some ⟨p,0,none⟩)):=(slot_eval a 0).trans (hL.get_old hi (by kernel_rfl))
        have hc:=hL.cls
        refine step_wp rfl rfl ?_
        clear ho hL
        refine wp_val (v:=(.pointer (some ⟨p,0,none⟩))) ?_ ⟨_,rfl,StPutR.mk (by decide) v1.symm,hc.same (by rw [hsz];decide) (by decide),fun _ _ _ h=>h⟩
        clear hi hin hsz v0 v1 v2 v3 v4 v5 v6 v7 v8 v11 v12 v13  hc
        unfold execOp
        go_simp
      | 2,ho=>
        obtain rfl:=(Option.some.inj ho).symm
        have e0:a.tmps[33]?.getD undef=(.pointer (some ⟨p,0,none⟩)):=(slot_eval a 33).trans ((StPutR.at_ (hi:=by decide) (hL.get_new (j:=1) hi (by kernel_rfl))).trans v1)
        have hc:=hL.cls
        refine step_wp rfl rfl ?_
        clear ho hL
        refine wp_val (v:=(.pointer (some ⟨p,0,none⟩))) ?_ ⟨_,rfl,StPutR.mk (by decide) v2.symm,hc.same (by rw [hsz];decide) (by decide),fun _ _ _ h=>h⟩
        clear hi hin hsz v0 v1 v2 v3 v4 v5 v6 v7 v8 v11 v12 v13  hc
        unfold execOp
        go_simp
      | 3,ho=>
        obtain rfl:=(Option.some.inj ho).symm
        have e0:a.tmps[34]?.getD undef=(.pointer (some ⟨p,0,none⟩)):=(slot_eval a 34).trans ((StPutR.at_ (hi:=by decide) (hL.get_new (j:=2) hi (by kernel_rfl))).trans v2)
        have hc:=hL.cls
        refine step_wp rfl rfl ?_
        clear ho hL
        refine wp_val (v:=(.pointer (some ⟨p,0,none⟩))) ?_ ⟨_,rfl,StPutR.mk (by decide) v3.symm,hc.same (by rw [hsz];decide) (by decide),fun _ _ _ h=>h⟩
        clear hi hin hsz v0 v1 v2 v3 v4 v5 v6 v7 v8 v11 v12 v13  hc
        unfold execOp
        go_simp
      | 4,ho=>
        obtain rfl:=(Option.some.inj ho).symm
        have e0:a.tmps[35]?.getD undef=(.pointer (some ⟨p,0,none⟩)):=(slot_eval a 35).trans ((StPutR.at_ (hi:=by decide) (hL.get_new (j:=3) hi (by kernel_rfl))).trans v3)
        have hc:=hL.cls
        refine step_wp rfl rfl ?_
        have hL4:=hL.later (j:=10) hi (by kernel_rfl)
        clear ho hL
        refine wp_val (v:=vl) ?_ ⟨_,rfl,StPutR.mk (by decide) v4.symm,hc.same (by rw [hsz];decide) (by decide),fun _ _ _ h=>h⟩
        have hb0:=hc.a_ (hL4)
        have q:=(hD.out.below hb0).c0
        clear hi hin hsz v0 v1 v2 v3 v4 v5 v6 v7 v8 v11 v12 v13  hc
        unfold execOp
        go_simp
      | 5,ho=>
        obtain rfl:=(Option.some.inj ho).symm
        have e0:a.tmps[9]?.getD undef=(.int .i64 P):=(slot_eval a 9).trans (hL.get_old hi (by kernel_rfl))
        have hc:=hL.cls
        refine step_wp rfl rfl ?_
        clear ho hL
        refine wp_val (v:=(.int .i64 P)) ?_ ⟨_,rfl,StPutR.mk (by decide) v5.symm,hc.same (by rw [hsz];decide) (by decide),fun _ _ _ h=>h⟩
        clear hi hin hsz v0 v1 v2 v3 v4 v5 v6 v7 v8 v11 v12 v13  hc
        unfold execOp
        go_simp
      | 6,ho=>
        obtain rfl:=(Option.some.inj ho).symm
        have e0:a.tmps[8]?.getD undef=(.pointer (some ⟨gI,0,none⟩)):=(slot_eval a 8).trans (hL.get_old hi (by kernel_rfl))
        have hc:=hL.cls
        refine step_wp rfl rfl ?_
        have hL8:=hL.later (j:=8) hi (by kernel_rfl)
        have hL9:listed.getD 9 false=false:=hL.later2 hL8 (by kernel_rfl)
        have hL6:listed.getD 10 false=false:=hL.later2 hL9 (by kernel_rfl)
        clear ho hL
        refine wp_val (v:=(.agg (u8s n))) ?_ ⟨_,rfl,StPutR.mk (by decide) v6.symm,hc.same (by rw [hsz];decide) (by decide),fun _ _ _ h=>h⟩
        have hb0:=hc.a_ (hL6)
        have q:=ldn w1 hb0
        clear hi hin hsz v0 v1 v2 v3 v4 v5 v6 v7 v8 v11 v12 v13  hc
        unfold execOp
        go_simp
      | 7,ho=>
        obtain rfl:=(Option.some.inj ho).symm
        have e0:a.tmps[1]?.getD undef=(.string (B t)):=(slot_eval a 1).trans (hL.get_old hi (by kernel_rfl))
        have hc:=hL.cls
        refine step_wp rfl rfl ?_
        clear ho hL
        refine wp_val (v:=(.string (B t))) ?_ ⟨_,rfl,StPutR.mk (by decide) v7.symm,hc.same (by rw [hsz];decide) (by decide),fun _ _ _ h=>h⟩
        clear hi hin hsz v0 v1 v2 v3 v4 v5 v6 v7 v8 v11 v12 v13  hc
        unfold execOp
        go_simp
      | 8,ho=>
        obtain rfl:=(Option.some.inj ho).symm
        have e0:a.tmps[38]?.getD undef=(.agg (u8s n)):=(slot_eval a 38).trans ((StPutR.at_ (hi:=by decide) (hL.get_new (j:=6) hi (by kernel_rfl))).trans v6)
        have e1:a.tmps[39]?.getD undef=(.string (B t)):=(slot_eval a 39).trans ((StPutR.at_ (hi:=by decide) (hL.get_new (j:=7) hi (by kernel_rfl))).trans v7)
        have hc:=hL.cls
        refine step_wp rfl rfl ?_
        clear ho hL
        refine build_step rfl (built_stit ⟨n,t⟩ hxok.1) (parts2 (slot_is e0) (slot_is e1)) ⟨_,rfl,StPutR.mk (by decide) v8.symm,hc.same (by rw [hsz];decide) (by decide),fun _ _ _ h=>h⟩
      | 9,ho=>
        obtain rfl:=(Option.some.inj ho).symm
        have e0:a.tmps[40]?.getD undef=(.agg (stitC ⟨n,t⟩).toArray):=(slot_eval a 40).trans ((StPutR.at_ (hi:=by decide) (hL.get_new (j:=8) hi (by kernel_rfl))).trans v8)
        have hc:=hL.cls
        have hla:=hL.later (j:=10) hi (by kernel_rfl)
        have hb0:=hc.a_ hla
        clear ho hL
        refine step_wp rfl rfl ?_
        refine slice_step rfl Tryz.stitTy (by decide) (stitC_len hxok) (.inl (slot_is e0)) ⟨_,rfl,StPutR.lit (Blk.new _ _ _) hb0.size,?_,fun j u _ h=>StPutR.far (S:=[]) h (Far.of_below ((Below.refl _ _).alloc (Nat.le_refl _) _)) (fun _ _ _=>by simp) (fun _ _ _=>by simp)⟩
        refine StPutC.same ⟨fun _=>hb0.alloc hb0.size _,fun e=>?_,fun e=>?_,?_⟩ (by rw [hsz];decide) (by decide)
        ·rw [hla] at e;cases e
        ·obtain ⟨v',h1,h2,h3,h4⟩:=hc.c_ e
         exact ⟨v',h1.alloc _,World.ownsRow.alloc h2 _,h3,h4.alloc _⟩
        ·exact Nat.le_trans hc.sz (by simp)
      | 10,ho=>
        obtain rfl:=(Option.some.inj ho).symm
        have e0:a.tmps[36]?.getD undef=vl:=(slot_eval a 36).trans ((StPutR.at_ (hi:=by decide) (hL.get_new (j:=4) hi (by kernel_rfl))).trans v4)
        have e1:a.tmps[37]?.getD undef=(.int .i64 P):=(slot_eval a 37).trans ((StPutR.at_ (hi:=by decide) (hL.get_new (j:=5) hi (by kernel_rfl))).trans v5)
        have e2:=hL.get_new (j:=9) (t:=41) hi (by kernel_rfl)
        have hc:=hL.cls
        have hla:listed.getD 10 false=false:=by rw [getD_of_size (by rw [hsz];exact hin)];exact (ready_spec hi).2.1
        have hlb:=hL.later (j:=13) hi (by kernel_rfl)
        have hb0:=hc.a_ hla
        obtain ⟨b,h5,hb5,hge5⟩:=StPutR.litAt e2
        clear ho hL
        refine step_wp rfl rfl ?_
        have hins:=insertStits_calls s hok.ok (by have:=hok.few;omega) vl w1 base P b ⟨n,t⟩ hxok (Nat.le_trans hB hc.sz) (own_below hD.out.own hb0) hPl hb5 (fun e=>by have:=hlv _ e;omega)
        refine call_step rfl (vals := #[vl, .int .i64 P, .slice (some ⟨b,0,none⟩) 1 1]) (map3 (slot_is e0) (slot_is e1) h5) (by go_simp) hins ?_
        rintro e w2 ⟨v',rfl,hown2,hg2,hnw2⟩
        rw [HS.out] at hown2
        have hf2:Far [vl.ownBlock] w1 w2:=Far.of_grown hg2
        refine ⟨_,rfl,_,rfl,StPutR.ins hown2 ((Newer.refl w0 vl).then_ hnw2 hc.sz),?_,fun j u hj h=>StPutR.far h hf2 (fun q hq _ hm=>?_) (fun hj10 k hk hm=>?_)⟩
        ·refine ⟨fun e=>?_,fun _ _=>(Far.of_below hb0).then_ hf2 (fun k hk => .inl hk),fun e=>?_,Nat.le_trans hc.sz hf2.size⟩
         ·rw [getD_set (by rw [hsz];decide),if_pos rfl] at e;cases e
         ·rw [getD_set (by rw [hsz];decide),if_neg (by decide),hlb] at e;cases e
        ·simp only [List.mem_singleton] at hm
         have:=hlv q hm.symm
         omega
        ·subst hj10
         rw [hla] at hj;cases hj
      | 11,ho=>
        obtain rfl:=(Option.some.inj ho).symm
        have e0:a.tmps[32]?.getD undef=(.pointer (some ⟨p,0,none⟩)):=(slot_eval a 32).trans ((StPutR.at_ (hi:=by decide) (hL.get_new (j:=0) hi (by kernel_rfl))).trans v0)
        have hc:=hL.cls
        refine step_wp rfl rfl ?_
        clear ho hL
        refine wp_val (v:=(.pointer (some ⟨p,0,none⟩))) ?_ ⟨_,rfl,StPutR.mk (by decide) v11.symm,hc.same (by rw [hsz];decide) (by decide),fun _ _ _ h=>h⟩
        clear hi hin hsz v0 v1 v2 v3 v4 v5 v6 v7 v8 v11 v12 v13  hc
        unfold execOp
        go_simp
      | 12,ho=>
        obtain rfl:=(Option.some.inj ho).symm
        have e0:a.tmps[43]?.getD undef=(.pointer (some ⟨p,0,none⟩)):=(slot_eval a 43).trans ((StPutR.at_ (hi:=by decide) (hL.get_new (j:=11) hi (by kernel_rfl))).trans v11)
        have hc:=hL.cls
        refine step_wp rfl rfl ?_
        clear ho hL
        refine wp_val (v:=(.pointer (some ⟨p,0,none⟩))) ?_ ⟨_,rfl,StPutR.mk (by decide) v12.symm,hc.same (by rw [hsz];decide) (by decide),fun _ _ _ h=>h⟩
        clear hi hin hsz v0 v1 v2 v3 v4 v5 v6 v7 v8 v11 v12 v13  hc
        unfold execOp
        go_simp
      | 13,ho=>
        obtain rfl:=(Option.some.inj ho).symm
        have e0:a.tmps[44]?.getD undef=(.pointer (some ⟨p,0,none⟩)):=(slot_eval a 44).trans ((StPutR.at_ (hi:=by decide) (hL.get_new (j:=12) hi (by kernel_rfl))).trans v12)
        have e1:=hL.get_new (j:=10) (t:=42) hi (by kernel_rfl)
        have hc:=hL.cls
        have hla:listed.getD 10 false=true:=hL.before hi (by kernel_rfl)
        have hls:listed.getD 13 false=false:=(getD_of_size (by rw [hsz];exact hin)).trans (ready_spec hi).2.1
        have hf0:=hc.b_ hla hls
        obtain ⟨hown2,hnw2⟩:=StPutR.insAt e1
        have hp1:Blk w1 p 114 #[vl]:=hf0.blk hD.out.blk (fun hm=>by simp only [List.mem_singleton] at hm;exact hD.out.ne hm.symm)
        have hvp : ∀ k,(a.eval (.tmp 42)).ownBlock=some k→some k ∉ [some p]:=fun k hk hm=>by
         simp only [List.mem_singleton] at hm
         injection hm with hm
         subst hm
         exact hnw2.ne hD.out.lt hD.out.ne hk
        obtain ⟨A2,c2,hform⟩:=own_form' hown2
        have e2:a.tmps[42]?.getD undef = .slice A2 s'.length c2:=(slot_eval a 42).trans hform
        have c0:w1.cell? ⟨p,0,none⟩=some vl:=by rw [hp1.cell];rfl
        have f0:=hp1.frozen 0
        rw [hform] at hown2 hnw2 hvp
        have hf1:Far [some p] w1 (w1.setCell ⟨p,0,none⟩ (.slice A2 s'.length c2)):=(Far.refl _ _).set_ (p:=⟨p,0,none⟩) (.inl (by simp)) _
        have hown3:=hf1.own hown2 hvp
        have hH : ∀ u:Value,StPutC w0 base p vl s' (listed.setIfInBounds 13 true) (w1.setCell ⟨p,0,none⟩ (.slice A2 s'.length c2)):=fun _=>by
         refine ⟨fun e=>?_,fun _ e=>?_,fun _=>⟨_,hp1.set_ 0 _,hown3,hnw2,(hf0.mono (T:=[some p,vl.ownBlock]) fun k hk=>List.mem_cons_of_mem _ hk).then_ (T:=[some p]) hf1 (fun k hk => .inl (by simp only [List.mem_singleton] at hk;rw [hk];simp))⟩,Nat.le_trans hc.sz hf1.size⟩
         ·rw [getD_set (by rw [hsz];decide),if_neg (by decide),hla] at e;cases e
         ·rw [getD_set (by rw [hsz];decide),if_pos rfl] at e;cases e
        have hK : ∀ j u,listed.getD j false=true→StPutR V w0 base vl ⟨n,t⟩ s' j u w1→StPutR V w0 base vl ⟨n,t⟩ s' j u (w1.setCell ⟨p,0,none⟩ (.slice A2 s'.length c2)):=fun j u _ hju=>StPutR.far hju hf1 (fun q hq _ hm=>by
         simp only [List.mem_singleton] at hm
         injection hm with hm
         have:=hD.out.lt
         omega) (fun hj k hk hm=>by
         rw [hj] at hju
         simp only [List.mem_singleton] at hm
         injection hm with hm
         rw [hm] at hk
         exact (StPutR.insAt hju).2.ne hD.out.lt hD.out.ne hk)
        refine step_wp rfl rfl ?_
        clear hi ho hL hin hc hown2 hnw2 hown3 hvp e1 hform
        refine wp_skip (w':=w1.setCell ⟨p,0,none⟩ (.slice A2 s'.length c2)) ?_ ⟨_,rfl,StPutR.mk (by decide) v13.symm,hH undef,hK⟩
        clear hH hK v0 v1 v2 v3 v4 v5 v6 v7 v8 v11 v12 v13
        unfold execOp
        go_simp
      | (n+14),ho=>exact absurd hin (by simp)
     ·intro a w1 listed hL hall
      have hc:=hL.cls
      obtain ⟨vs,rfl,hR⟩:=hL.frame (by kernel_rfl) (sizes_spec (n:=46) (by kernel_rfl)) hall
      simp only [putAll,Act.put,List.setIfInBounds_toArray,List.set_cons_zero,List.set_cons_succ]
      simp only [Nat.zero_add,Nat.reduceAdd]
      obtain ⟨v',hp9,hown9,hnw9,hfar9⟩:=hc.c_ (hall 13 (by decide))
      clear hR hc hL
      have hgIn:some gI ∉ [some p,vl.ownBlock]:=fun hm=>by
       rcases List.mem_cons.1 hm with h1 | h1
       ·injection h1 with h1
        omega
       ·have h2:=hlv0 gI (List.mem_singleton.1 h1).symm
        omega
      have hgZn:some w.heap.size ∉ [some p,vl.ownBlock]:=fun hm=>by
       rcases List.mem_cons.1 hm with h1 | h1
       ·injection h1 with h1
        omega
       ·have h2:=hlv0 w.heap.size (List.mem_singleton.1 h1).symm
        omega
      have ld9:=hldn w1 gI (hfar9.blk hI5 hgIn)
      have z9:=hfar9.blk z5 hgZn
      go_wp2_with (first
       | (refine wpList_store_row rfl 42 (.tmp 4) (.tmp 45) rfl w.heap.size (u8s n) rfl rfl _ _ z9 (hsz _ hN32) hZ32' hNone ?_))
      refine bodyPost_ret (results_row_tmp rfl _ _ w.heap.size _ _ _ _ rfl (setRow_heap _ _ _ _ _ _ z9) Tryz.underlying42 rfl (hsz _ hN32)) rfl ⟨rfl,?_⟩
      have hf10:Far [some w.heap.size] w1 (w1.setRow w.heap.size (u8s n)):=⟨rfl,rfl,rfl,by simp,fun k _ hk=>setRow_other _ _ _ _ (fun e=>hk (by rw [e];simp))⟩
      have hne1:some p ∉ [some w.heap.size]:=fun hm=>by
       have:=List.mem_singleton.1 hm
       injection this with this
       omega
      have hne2 : ∀ k,v'.ownBlock=some k→some k ∉ [some w.heap.size]:=fun k hk hm=>by
       have h1:=List.mem_singleton.1 hm
       injection h1 with h1
       subst h1
       rcases hnw9 with h2 | h2
       ·have:=hlv0 _ (h2.symm.trans hk)
        omega
       ·have:=h2 _ hk
        have:=z5.lt
        omega
      refine ⟨v',⟨hf10.blk hp9 hne1,hf10.own hown9 hne2,hokP⟩,?_,?_⟩
      ·exact ((Far.of_below b5).then_ hfar9 (fun k hk => .inl hk)).then_ hf10 (fun k hk => .inr (by
        have:=List.mem_singleton.1 hk
        injection this with this
        omega))
      ·rcases hnw9 with h2 | h2
       ·exact .inl h2
       ·exact .inr fun k hk=>Nat.le_trans b5.size (h2 k hk)
end Go.Proofs.YtlojebhcemfodaaGreatDoor
namespace Go.Proofs.YtlojebhcemfodaaGreatDoor
open Go.RowKit
attribute [local go_sem ↓] ldvI_eq ldvS_eq
end Go.Proofs.YtlojebhcemfodaaGreatDoor
namespace Go.Proofs.YtlojebhcemfodaaGreatDoor
open Go.RowKit
attribute [local go_sem ↓] ldvI_eq ldvS_eq
/-- A store that is put together out of the document's. -/
def OfR (w:World) (L:List StL) (e:Ending) (w':World):Prop := ∃ p vl,e = .returned (.pointer (some ⟨p,0,none⟩))∧w.heap.size≤p∧StoAt w' w.heap.size p vl L
set_option maxRecDepth 100000 in
set_option maxHeartbeats 8000000 in
theorem of_calls11 {w:World} {vm:Value} {es:List DiL} (hm:DocSt w vm es) (hf:es.length<490000) (hK:TabK w) :
 Calls Tryz.prog 8 #[.agg #[vm]] w fun e w'=>OfR w (es.map (·.st)) e w'∧Below w.heap.size w w':=by
 obtain ⟨W1,hW1⟩ : ∃ W1,w.alloc (.cells #[vm] 28)=W1:=⟨_,rfl⟩
 have s1:Blk W1 w.heap.size 28 #[vm]:=by rw [←hW1];exact Blk.new _ _ _
 have b1:Below w.heap.size w W1:=by rw [←hW1];exact (Below.refl _ _).alloc (Nat.le_refl _) _
 have hlt0:=s1.lt
 have hnw:=Lib.hid (stoNew_calls W1)
 have hzI:=zeroIdV
 have hZ32:(u8s noId).size=32:=by rw [u8s_size,noId_len]
 have hok:=hm.ok
 have heach:=hm.each
 have hmat:=hm.at_
 obtain ⟨L,hL⟩ : ∃ L,es.map (·.st)=L:=⟨_,rfl⟩
 have hLl:L.length=es.length:=by rw [←hL,List.length_map]
 rw [hL] at hok
 have hLk : ∀ (k:Nat) (x:DiL),es[k]?=some x→L[k]?=some x.st:=fun k x hx=>by rw [←hL,List.getElem?_map,hx];rfl
 rw [hL]
 have hLl:=Lib.hid hLl
 have hLk:=Lib.hid hLk
 obtain ⟨A,cap,rfl,hcap1,hcap2,hat⟩:=hmat
 clear hL
 go_enter Tryz.func8,Tryz.ntmps8
 go_wp2_with (first
  | ((with_reducible refine hnw.out.mono ?_);rintro e w2 ⟨rfl,s2,b12⟩))
 have hpl:W1.heap.size<w2.heap.size:=s2.lt
 go_loopw [4] (fun vi wr => ∃ (k:Nat) (vl:Value),vi = .int .i64 k∧k≤es.length∧StoAt wr W1.heap.size W1.heap.size vl (L.take k)∧Below W1.heap.size W1 wr) (fun vi _=>es.length-(intOf vi).toNat)
 case atStart=>exact ⟨0,_,rfl,by omega,by rw [List.take_zero];exact s2,b12⟩
 case round=>
  obtain ⟨k,vl,rfl,hk,hS,hbel⟩:=hrel
  have hbr:=bthen b1 b1.size hbel
  have cr:wr.cell? ⟨w.heap.size,0,none⟩=some (.slice A es.length cap):=(s1.below hbel hlt0).cell 0
  by_cases hlt:k<es.length
  ·have hki:(k:Int)<(es.length:Int):=by omega
   obtain ⟨ga,oa,rfl,hga,hca⟩:=hat (by omega)
   obtain ⟨x,hx⟩ : ∃ x,es[k]?=some x:=⟨_,List.getElem?_eq_getElem hlt⟩
   have hxm:=List.mem_of_getElem? hx
   have hxo:=heach x hxm
   have hxi:=hxo.id
   have hLx:=hLk.out k x hx
   have hIs:=hok.each x.st (List.mem_of_getElem? hLx)
   have htx:=dit_text (rangeAt_below (hca k x hx) hga hbr) hxi
   have hKr:=hK.below hbr
   have htl:=(decO_len hxo.dec).2
   have htk:(L.take k).length<500000:=by have:=hLl.out;rw [List.length_take];omega
   have hpt:=stoPut_calls hbel.size hS x.st.text (by omega) hKr htk
   rw [hIs.putI,hIs.putC,putS_rise hok hLx] at hpt
   have hpt:=Lib.hid hpt
   have hid32:(u8s x.st.id).size=32:=by rw [u8s_size,hxi]
   have hid1:=u8s_one x.st.id
   have heq:=fun W=>run_neq_id W x.st.id x.st.id hxi hxi
   simp only [decide_true,Bool.not_true] at heq
   have hxr:=dit_id (hca k x hx)
   clear hx hat hca heach hLx hIs htk hLk hxo hxm
   go_upto_region 8 with (first
    | ((with_reducible refine hpt.out.mono ?_);rintro e w3 ⟨rfl,vl3,s3,f3,n3⟩
       have hS3 : ∀ k,some k∈[some W1.heap.size,vl.ownBlock]→W1.heap.size≤k:=fun k hk=>by
        simp only [List.mem_cons,List.not_mem_nil,or_false] at hk
        rcases hk with hk | hk
        ·injection hk with hk;omega
        ·exact (World.ownsRow.lt hS.own k hk.symm).1
       have b3:Below W1.heap.size W1 w3:=hbel.trans (f3.below hbel.size hS3))
    | ((with_reducible refine lit_new 42 (.tmp 5) (.tmp 26) (u8s x.st.id) 32 sz32 hid32 hid1 _ ?_ ?_ ?_ ?_)
       ·first | exact hZ32 | rfl
       ·rfl
       ·rfl
       intro W4 i4 hbl4
       have b4:=bthen b3 b3.size hbl4
       have s4:=s3.below hbl4))
   have fI:=fun W (hW:Below W4.heap.size W4 W)=>run_ldvI_at (range_blk (i4.below hW i4.lt)) hxi
   have fX:=fun W (hW:Below W4.heap.size W4 W)=>run_ldvI_at (rangeAt_below hxr hga (bthen b1 b1.size (bthen b4 b4.size hW))) hxi
   have fC : ∀ W,Below W4.heap.size W4 W→W.cell? ⟨w.heap.size,0,none⟩=some (.slice (some ⟨ga,oa,none⟩) es.length cap):=fun W hW=>(s1.below (bthen b4 b4.size hW) hlt0).cell 0
   go_wp2
   refine wp_region_go0 12 (by kernel_rfl) (by kernel_rfl) (by kernel_rfl) (by kernel_rfl) ?_
   simp only [exSp]
   iterate 12 apply Exists.intro
   repeat
    first
     | ((with_reducible apply lx0_ex)
        ·(go_simp;done)
        apply Exists.intro
        apply And.intro
        ·apply Eq.refl
        apply And.intro
        ·intro W hW hD
         have q0:=fI W hW
         have q1:=fX W hW
         have q2:=fC W hW
         have q4:=heq W
         go_simp
         rfl
        simp only [Act.put,List.setIfInBounds_toArray,List.set_cons_zero,List.set_cons_succ])
     | ((with_reducible apply lx0_pass)
        ·(first | rfl | (go_simp;done))
        ·apply Eq.refl
        simp only [Act.put,List.setIfInBounds_toArray,List.set_cons_zero,List.set_cons_succ])
   refine lx0_nil ?_ fun w5 hW5 hD5=>?_
   ·exact List.nodup_nil
   have b5:=bthen b4 b4.size hW5
   have s5:=s4.below hW5
   go_wp2
   go_roundw
   case rel=>exact ⟨k+1,_,by go_num,by omega,s5,b5⟩
   case measure=>simp [intOf];omega
  ·have hki : ¬ (k:Int)<(es.length:Int):=by omega
   obtain rfl:k=es.length:=by omega
   rw [←hLl.out,List.take_length] at hS
   clear hat heach hLk
   go_wp2
   go_ret
   exact ⟨⟨_,vl,rfl,Nat.le_of_lt hlt0,hS.blk,own_down hS.own (Nat.le_of_lt hlt0),hS.ok⟩,hbr⟩
end Go.Proofs.YtlojebhcemfodaaGreatDoor
namespace Go.Proofs.YtlojebhcemfodaaGreatDoor
open Go.RowKit
attribute [local go_sem ↓] ldvI_eq ldvS_eq
theorem small_oTree : Small oTree:=⟨by decide,(fun e he=>by cases he),by decide,by decide,by decide,by decide⟩
theorem small_oOld : Small oOld:=⟨by decide,(fun e he=>by cases he),by decide,by decide,by decide,by decide⟩
theorem small_oYoung : Small oYoung:=⟨by decide,(fun e he=>by cases he),by decide,by decide,by decide,by decide⟩
theorem ids_one {W:World} {g:Nat} {x:Txt} (h:Blk W g 42 (u8s x)):Ids W (.slice (some ⟨g,0,none⟩) 1 1) [x]:=
 ⟨_,1,rfl,Nat.le_refl _,by decide,fun _=>⟨g,0,rfl,h.lt,fun i y hy=>by
  cases i with
  | zero=>
    have hy:x=y:=by simpa using hy
    subst hy
    rw [Nat.zero_mul,Nat.zero_add]
    exact range_blk h
  | succ i=>simp at hy⟩⟩
theorem slice_txs {W:World} {g:Nat} {l:List Txt} (hl:l.length≤100) (h:Blk W g 9 (l.map fun t=>Value.string (B t)).toArray):SliceAt W 1 txC (.slice (some ⟨g,0,none⟩) l.length l.length) l:=
 ⟨_,l.length,rfl,Nat.le_refl _,by omega,fun _=>⟨g,0,rfl,h.lt,fun i t ht=>fun j u hu=>by
  cases j with
  | zero=>
    have hu:Value.string (B t)=u:=by simpa [txC] using hu
    rw [h.cell,Nat.zero_add,Nat.mul_one,Nat.add_zero,List.getElem?_toArray,List.getElem?_map,ht]
    exact congrArg some hu
  | succ j=>simp [txC] at hu⟩⟩
theorem knA_len : knA.length=32:=by decide
theorem knB_len : knB.length=32:=by decide
theorem knC_len : knC.length=32:=by decide
theorem ok_oTree : ObjOk oTree:=⟨by decide,by decide,(fun e he=>by cases he),(fun p hp=>by cases hp),by decide,by decide,by decide,by decide,by decide,by decide,by decide,by decide⟩
theorem ok_oOld : ObjOk oOld:=⟨by decide,by decide,(fun e he=>by cases he),(fun p hp=>by cases hp),by decide,by decide,by decide,by decide,by decide,by decide,by decide,by decide⟩
theorem ok_oYoung : ObjOk oYoung:=⟨by decide,by decide,(fun e he=>by cases he),(fun p hp=>by rw [List.mem_singleton.1 hp];decide),by decide,by decide,by decide,by decide,by decide,by decide,by decide,by decide⟩
theorem enc_t (W:World):Calls Tryz.prog 25 #[.agg (objC oTree (.slice none 0 0) (.slice none 0 0)).toArray] W fun e w'=>e = .returned (.tuple #[.string (B knTree), .bool true])∧Below W.heap.size W w':=
 encD_some enc_oTree▸refEncode_calls oTree small_oTree none none 0 0 W ⟨ok_oTree,SliceAt.nil,SliceAt.nil⟩
theorem enc_o (W:World):Calls Tryz.prog 25 #[.agg (objC oOld (.slice none 0 0) (.slice none 0 0)).toArray] W fun e w'=>e = .returned (.tuple #[.string (B knOld), .bool true])∧Below W.heap.size W w':=
 encD_some enc_oOld▸refEncode_calls oOld small_oOld none none 0 0 W ⟨ok_oOld,SliceAt.nil,SliceAt.nil⟩
theorem enc_y (W:World) (g:Nat) (h:Blk W g 42 (u8s knB)):Calls Tryz.prog 25 #[.agg (objC oYoung (.slice none 0 0) (.slice (some ⟨g,0,none⟩) 1 1)).toArray] W fun e w'=>e = .returned (.tuple #[.string (B knYoung), .bool true])∧Below W.heap.size W w':=
 encD_some enc_oYoung▸refEncode_calls oYoung small_oYoung none (some ⟨g,0,none⟩) 0 1 W ⟨ok_oYoung,SliceAt.nil,ids_one h⟩
theorem sum_t (W:World):Calls Tryz.prog 26 #[.string (B knTree)] W fun e w'=>e = .returned (.agg (u8s knA))∧Below W.heap.size W w':=knA_is▸refSum_calls knTree W (by decide)
theorem sum_o (W:World):Calls Tryz.prog 26 #[.string (B knOld)] W fun e w'=>e = .returned (.agg (u8s knB))∧Below W.heap.size W w':=knB_is▸refSum_calls knOld W (by decide)
theorem sum_y (W:World):Calls Tryz.prog 26 #[.string (B knYoung)] W fun e w'=>e = .returned (.agg (u8s knC))∧Below W.heap.size W w':=knC_is▸refSum_calls knYoung W (by decide)
theorem built_ob1 : Tryz.prog.built 54 [(0, .int .i64 2)]=some (objC oTree (.slice none 0 0) (.slice none 0 0)).toArray:=by kernel_rfl
theorem built_ob2 : Tryz.prog.built 54 [(0, .int .i64 3),(3, .agg (u8s knA)),(5, .int .u32 9)]=some (objC oOld (.slice none 0 0) (.slice none 0 0)).toArray:=by kernel_rfl
theorem built_ob3 (g:Nat):Tryz.prog.built 54 [(0, .int .i64 3),(3, .agg (u8s knA)),(5, .int .u32 5),(4, .slice (some ⟨g,0,none⟩) 1 1)]=some (objC oYoung (.slice none 0 0) (.slice (some ⟨g,0,none⟩) 1 1)).toArray:=by kernel_rfl
set_option maxRecDepth 100000 in
set_option maxHeartbeats 8000000 in
theorem knows_calls12 (w:World) (hK:TabK w):Calls Tryz.prog 7 #[] w fun e w'=>e = .returned (.bool true)∧Below w.heap.size w w':=by
 have hbS:Tryz.prog.built 28 []=some #[.slice none 0 0]:=by kernel_rfl
 have hrb:=fun W=>run_build (P:=Tryz.prog) W _ _ _ hbS
 have hS0:(#[Value.slice none 0 0]:Array Value).size=1:=rfl
 have hS1:(#[Value.slice none 0 0]:Array Value).all (·.oneCell')=true:=by kernel_rfl
 have b1:=built_ob1
 have b2:=built_ob2
 have b3:=built_ob3
 have e1:=fun W=>Lib.hid (enc_t W)
 have e2:=fun W=>Lib.hid (enc_o W)
 have e3:=fun W g h=>Lib.hid (enc_y W g h)
 have m1:=fun W=>Lib.hid (sum_t W)
 have m2:=fun W=>Lib.hid (sum_o W)
 have m3:=fun W=>Lib.hid (sum_y W)
 have hDe : ∀ W,DocSt W (.slice none 0 0) []:=fun W=>⟨World.ownsRow_nil _ _ _ _,(fun e he=>by simp at he),StoOk.nil⟩
 have hA1 : ∀ (W:World) (g:Nat),Blk W g 9 #[.string (B knTree), .string (B knYoung)]→Calls Tryz.prog 27 #[.agg #[.slice none 0 0], .slice (some ⟨g,0,none⟩) 2 2] W fun e w'=>AllR W.heap.size (.slice none 0 0) [] knS1 e w'∧Below W.heap.size W w':=fun W g hb=>by
  have:=docAll_calls (hDe W) [knTree,knYoung] (by decide) (by simp) _ (slice_txs (by simp) hb)
  rwa [show ([]:List DiL).map (·.st)=[] from rfl,kn_put1] at this
 have hA2 : ∀ (W:World) (g:Nat),Blk W g 9 #[.string (B knTree), .string (B knOld), .string (B knYoung)]→Calls Tryz.prog 27 #[.agg #[.slice none 0 0], .slice (some ⟨g,0,none⟩) 3 3] W fun e w'=>AllR W.heap.size (.slice none 0 0) [] knS2 e w'∧Below W.heap.size W w':=fun W g hb=>by
  have:=docAll_calls (hDe W) [knTree,knOld,knYoung] (by decide) (by simp) _ (slice_txs (by simp) hb)
  rwa [show ([]:List DiL).map (·.st)=[] from rfl,kn_put2] at this
 have aA:(u8s knA).size=32:=by rw [u8s_size];exact knA_len
 have aB:(u8s knB).size=32:=by rw [u8s_size];exact knB_len
 have aC:(u8s knC).size=32:=by rw [u8s_size];exact knC_len
 have l1:knS1.length=2:=rfl
 have l2:knS2.length=3:=rfl
 have lA:=knA_len
 have lB:=knB_len
 have lC:=knC_len
 clear hDe
 obtain ⟨S1,hS1e⟩ : ∃ S,knS1=S:=⟨_,rfl⟩
 obtain ⟨S2,hS2e⟩ : ∃ S,knS2=S:=⟨_,rfl⟩
 have kw:=Lib.hid kn_walk
 have kt := @kn_there
 have kg := @kn_gone
 rw [hS1e] at hA1 l1 kt kg
 rw [hS2e] at hA2 l2 kw
 clear hS1e hS2e
 obtain ⟨C1,hC1⟩ : ∃ C,(objC oTree (.slice none 0 0) (.slice none 0 0)).toArray=C:=⟨_,rfl⟩
 obtain ⟨C2,hC2⟩ : ∃ C,(objC oOld (.slice none 0 0) (.slice none 0 0)).toArray=C:=⟨_,rfl⟩
 obtain ⟨C3,hC3⟩ : ∃ C:Nat→Array Value, ∀ g,(objC oYoung (.slice none 0 0) (.slice (some ⟨g,0,none⟩) 1 1)).toArray=C g:=⟨_,fun g=>rfl⟩
 rw [hC1] at b1
 rw [hC2] at b2
 simp only [hC1] at e1
 simp only [hC2] at e2
 simp only [hC3] at e3 b3
 clear hC1 hC2 hC3
 generalize knA=A at *
 generalize knB=B' at *
 generalize knC=C' at *
 generalize knTree=tT at *
 generalize knOld=tO at *
 generalize knYoung=tY at *
 go_enter Tryz.func7,Tryz.ntmps7
 have bb:=Below.refl w.heap.size w
 go_upto_region 4 with (first
  | ((with_reducible refine lit_build1 b1 ?_ ?_);rfl)
  | ((with_reducible refine (e1 _).out.mono ?_);rintro e w1 ⟨rfl,hb1⟩;replace bb:=bthen bb bb.size hb1;clear hb1)
  | ((with_reducible refine (m1 _).out.mono ?_);rintro e w2 ⟨rfl,hb2⟩;replace bb:=bthen bb bb.size hb2;clear hb2)
  | ((with_reducible refine lit_build3 b2 ?_ ?_ ?_ ?_);rfl;rfl;rfl)
  | ((with_reducible refine (e2 _).out.mono ?_);rintro e w3 ⟨rfl,hb3⟩;replace bb:=bthen bb bb.size hb3;clear hb3)
  | ((with_reducible refine (m2 _).out.mono ?_);rintro e w4 ⟨rfl,hb4⟩;replace bb:=bthen bb bb.size hb4;clear hb4)
  | ((with_reducible refine lit_slice1 (.tmp 30) Tryz.idsTy (u8s B') aB (by omega) ?_ ?_);rfl
     obtain ⟨w5,hw5⟩ : ∃ W,w4.alloc (.cells (u8s B') 42)=W:=⟨_,rfl⟩
     have hb5:Blk w5 w4.heap.size 42 (u8s B'):=by rw [←hw5];exact Blk.new _ _ _
     have hbl5:Below w4.heap.size w4 w5:=by rw [←hw5];exact (Below.refl _ _).alloc (Nat.le_refl _) _
     replace bb:=bthen bb bb.size hbl5
     have ey:=e3 w5 _ hb5
     have b3w:=b3 w4.heap.size
     rw [hw5])
  | ((with_reducible refine lit_build4 b3w ?_ ?_ ?_ ?_ ?_);rfl;rfl;rfl;rfl)
  | ((with_reducible refine ey.out.mono ?_);rintro e w6 ⟨rfl,hb6⟩;replace bb:=bthen bb bb.size hb6;clear hb6))
 clear ey b3w hw5 hb5 hbl5 e1 e2 e3 m1 b1 b2 b3
 go_upto_region 5 with (first
  | ((with_reducible refine lit_new 28 (.tmp 7) (.tmp 36) #[.slice none 0 0] 1 szDSt hS0 hS1 _ ?_ ?_ ?_ ?_)
     ·first | exact hS0 | rfl
     ·rfl
     ·rfl
     intro w7 hb7 hbl7))
 have lS : ∀ W,Below w7.heap.size w7 W→(ldvS ⟨w6.heap.size,0,none⟩).run Tryz.prog W = .ok (.agg #[.slice none 0 0]) W:=fun W hW=>run_ldvS (hb7.below hW hb7.lt)
 replace bb:=bthen bb bb.size hbl7
 have g7:=Below.refl w7.heap.size w7
 have lS7:=lS w7 g7
 obtain ⟨v8,hv8⟩ : ∃ W,w7.alloc (.cells #[.string (B tT), .string (B tY)] 9)=W:=⟨_,rfl⟩
 have k8:Blk v8 w7.heap.size 9 #[.string (B tT), .string (B tY)]:=by rw [←hv8];exact Blk.new _ _ _
 have g8:Below w7.heap.size w7 v8:=by rw [←hv8];exact (Below.refl _ _).alloc (Nat.le_refl _) _
 have c8:=Lib.hid (hA1 v8 _ k8)
 go_upto_region 6 with (first
  | ((with_reducible refine c8.out.mono ?_);rintro e w9 ⟨⟨vm9,es9,rfl,D9,hm9, -⟩,hb9⟩
     replace bb:=bthen bb bb.size g8
     have b9:=bthen g8 g8.size hb9
     replace bb:=bthen bb bb.size hb9
     have n9:es9.length<490000:=by have:=congrArg List.length hm9;rw [List.length_map,l1] at this;omega
     have c9:=of_calls11 D9 n9 (hK.below bb)
     rw [hm9] at c9
     clear hm9 n9 D9
     replace c9:=Lib.hid c9)
  | ((with_reducible refine c9.out.mono ?_);rintro e w10 ⟨⟨p1,vl1,rfl,hp1,St1⟩,hb10⟩
     replace bb:=bthen bb bb.size hb10
     have b10:=bthen b9 b9.size hb10))
 clear c8 c9 hA1 hv8 k8 hb9 hb10 lS7 g8 b9
 have lS10:=lS w10 b10
 obtain ⟨v11,hv11⟩ : ∃ W,w10.alloc (.cells #[.string (B tT), .string (B tO), .string (B tY)] 9)=W:=⟨_,rfl⟩
 have k11:Blk v11 w10.heap.size 9 #[.string (B tT), .string (B tO), .string (B tY)]:=by rw [←hv11];exact Blk.new _ _ _
 have g11:Below w10.heap.size w10 v11:=by rw [←hv11];exact (Below.refl _ _).alloc (Nat.le_refl _) _
 have c11:=Lib.hid (hA2 v11 _ k11)
 go_upto_region 9 with (first
  | ((with_reducible refine c11.out.mono ?_);rintro e w12 ⟨⟨vm12,es12,rfl,D12,hm12, -⟩,hb12⟩
     replace bb:=bthen bb bb.size g11
     replace bb:=bthen bb bb.size hb12
     have b12:=bthen g11 g11.size hb12
     have n12:es12.length<490000:=by have:=congrArg List.length hm12;rw [List.length_map,l2] at this;omega
     have c12:=of_calls11 D12 n12 (hK.below bb)
     rw [hm12] at c12
     clear hm12 n12 D12
     replace c12:=Lib.hid c12)
  | ((with_reducible refine c12.out.mono ?_);rintro e w13 ⟨⟨p2,vl2,rfl,hp2,St2⟩,hb13⟩
     replace bb:=bthen bb bb.size hb13
     have b13:=bthen b12 b12.size hb13))
 replace St1:=St1.below b13
 clear c11 c12 hA2 hv11 k11 hb12 hb13 lS10 g11 b12 b10 lS hb7 hbl7 g7 hrb hbS hS0 hS1 hK
 go_upto_region 10 with (first
  | ((with_reducible refine (m3 _).out.mono ?_);rintro e w14 ⟨rfl,hb14⟩
     replace bb:=bthen bb bb.size hb14)
  | ((with_reducible refine lit_slice1 (.tmp 57) Tryz.idsTy (u8s C') aC (by omega) ?_ ?_);rfl
     obtain ⟨w15,hw15⟩ : ∃ W,w14.alloc (.cells (u8s C') 42)=W:=⟨_,rfl⟩
     have hb15:Blk w15 w14.heap.size 42 (u8s C'):=by rw [←hw15];exact Blk.new _ _ _
     have g15:Below w14.heap.size w14 w15:=by rw [←hw15];exact (Below.refl _ _).alloc (Nat.le_refl _) _
     replace bb:=bthen bb bb.size g15
     have b15:=bthen hb14 hb14.size g15
     rw [hw15]))
 replace St1:=St1.below b15
 replace St2:=St2.below b15
 have hi15:=ids_one hb15
 have lC1 : ∀ x∈[C'],x.length=32:=fun x hx=>by rw [List.mem_singleton.1 hx];exact lC
 have lC0 : ∀ x∈([]:List Txt),x.length=32:=fun x hx=>absurd hx List.not_mem_nil
 have c15:=Lib.hid (graReach_calls St1 [C'] [] lC1 lC0 (by rw [l1];show 1+2*70≤800000;decide) (Nat.zero_le _) _ _ hi15 SliceAt.nil)
 go_upto_region 12 with (first
  | ((with_reducible refine c15.out.mono ?_);rintro e w16 ⟨va,vb,la,lb,rfl,ra,rb,oa,ob, -, -, -, -,hb16⟩
     obtain rfl:=kt ra
     obtain rfl:=kg rb
     replace bb:=bthen bb bb.size hb16
     replace St2:=St2.below hb16
     replace hi15:=hi15.below hb16
     have c16:=Lib.hid (graWalk_calls St2 [C'] [] lC1 lC0 (Nat.zero_le _) _ _ hi15 SliceAt.nil))
  | ((with_reducible refine c16.out.mono ?_);rintro e w17 ⟨vw,rfl,ow,hb17⟩
     rw [kw.out] at ow
     replace bb:=bthen bb bb.size hb17
     replace hi15:=hi15.below hb17
     replace oa:=own_below oa hb17
     replace ob:=own_below ob hb17))
 have hkA : ∀ x∈[C',A],(idC x).length=32:=fun x hx=>idC_len (by
  rcases List.mem_cons.1 hx with rfl | hx
  ·exact lC
  ·rw [List.mem_singleton.1 hx];exact lA)
 have hkB : ∀ x∈[B'],(idC x).length=32:=fun x hx=>idC_len (by rw [List.mem_singleton.1 hx];exact lB)
 have hkC : ∀ x∈[C',B'],(idC x).length=32:=fun x hx=>idC_len (by
  rcases List.mem_cons.1 hx with rfl | hx
  ·exact lC
  ·rw [List.mem_singleton.1 hx];exact lB)
 obtain ⟨A1,c1,rfl, -⟩:=SliceAt.of_own hkA oa
 obtain ⟨g2,o2,c2,rfl,hg2,hr2⟩:=(SliceAt.of_own hkB ob).at_ (i:=0) (by simp)
 obtain ⟨g3,o3,c3,rfl,hg3,hr3⟩:=(SliceAt.of_own hkC ow).at_ (i:=0) (by simp)
 obtain ⟨g4,o4,c4,he4,hg4,hr4⟩:=hi15.at_ (i:=0) (by simp)
 injection he4 with he4 ea eb
 clear ea eb
 injection he4 with he4
 injection he4 with he4 he5 ea
 clear ea
 subst he5
 rw [←he4] at hg4 hr4
 clear he4
 rw [Nat.zero_mul,Nat.add_zero] at hr2 hr3 hr4
 rw [show [C',A].length=2 from rfl,show [B'].length=1 from rfl,show [C',B'].length=2 from rfl]
 have q2 : ∀ W,Below w17.heap.size w17 W→(ldvI ⟨g2,o2,none⟩).run Tryz.prog W = .ok (.agg (u8s B')) W:=fun W hW=>run_ldvI_at (rangeAt_below hr2 hg2 hW) lB
 have q3 : ∀ W,Below w17.heap.size w17 W→(ldvI ⟨g3,o3,none⟩).run Tryz.prog W = .ok (.agg (u8s C')) W:=fun W hW=>run_ldvI_at (rangeAt_below hr3 hg3 hW) lC
 have q4 : ∀ W,Below w17.heap.size w17 W→(ldvI ⟨w14.heap.size,0,none⟩).run Tryz.prog W = .ok (.agg (u8s C')) W:=fun W hW=>run_ldvI_at (rangeAt_below hr4 hg4 hW) lC
 have e5:=fun W=>run_eql_id W B' B' lB lB
 have e6:=fun W=>run_eql_id W C' C' lC lC
 simp only [decide_true] at e5 e6
 clear oa ob ow hi15 hkA hkB hkC lC1 lC0 c15 hw15 hb15 g15 b15 ra rb St1 St2 kt kw kg hp1 hp2 b13 hb14 hb16 hb17 hr2 hr3 hr4 hg2 hg3 hg4
 refine wp_region_class (C:=fun W=>Below w17.heap.size w17 W) (by kernel_rfl) (by kernel_rfl) (Below.refl _ _).drew ?_
 repeat
  first
   | ((with_reducible refine wpQuiet_ex ?_ ?_)
      ·(go_simp;done)
      apply Exists.intro
      refine ⟨fun W hW=>?_,?_⟩
      ·first
        | (have r2:=q2 W hW
           have r3:=q3 W hW
           have r4:=q4 W hW
           have r5:=e5 W
           have r6:=e6 W
           have r7:=bel_keepG hW (m2 W).out
           go_simp
           first
            | rfl
            | (with_reducible exact r7)
            | (simp only [Sem.run_bind,run_eqGuard_agg _ _ _ _ _ _ _ Tryz.eqGuardType42,r5,Result.andThen_ok];rfl)
            | (simp only [Sem.run_bind,run_eqGuard_agg _ _ _ _ _ _ _ Tryz.eqGuardType42,r6,Result.andThen_ok];rfl))
      simp only [Act.put,List.setIfInBounds_toArray,List.set_cons_zero,List.set_cons_succ])
   | ((with_reducible refine wpQuiet_pass ?_ ?_)
      ·(first | rfl | (go_simp;done))
      simp only [Act.put,List.setIfInBounds_toArray,List.set_cons_zero,List.set_cons_succ])
 with_reducible refine wpQuiet_nil ?_
 intro w5 hW5
 go_wp2
 go_ret
 exact ⟨rfl,bthen bb bb.size hW5⟩
end Go.Proofs.YtlojebhcemfodaaGreatDoor
namespace Go.Proofs.YtlojebhcemfodaaGreatDoor
open Go.ChangeShapes Go.WideShapes Go.ChangeAt Go.RowKit
structure HisL where
 seeds:List SdL
 out:Txt
 frm:Txt
 cut:Txt
structure HisOk (w:World) (vs vo vf vc:Value) (h:HisL):Prop where
 seeds:Seeds w vs h.seeds
 out:SliceAt w 1 byC vo h.out
 frm:SliceAt w 1 byC vf h.frm
 cut:SliceAt w 1 byC vc h.cut
theorem HisOk.below {w w':World} {vs vo vf vc:Value} {h:HisL} (hh:HisOk w vs vo vf vc h) (hb:Below w.heap.size w w'):HisOk w' vs vo vf vc h:=⟨hh.seeds.below hb,hh.out.below hb,hh.frm.below hb,hh.cut.below hb⟩
section
variable {H:Type} {enc:TypeId×Value→H} {w:World} {base:Nat} {sp:Nat→Bool} {held:Bool}
set_option maxRecDepth 200000 in
theorem open_his {base0:Nat} {v:Value} {d:DataW H} {p:List MemPlace} (hv:Value.okWide Tryz.prog w .any base0 25 v) (h0:DataW.Trod enc Tryz.prog w base sp held 25 v d p) : ∃ (vs vo vf vc:Value) (h:HisL),v = .agg #[vs,vo,vf,vc]∧HisOk w vs vo vf vc h:=by
 simp only [Value.okWide,Tryz.underlying25] at hv
 obtain ⟨cs0,rfl,hsz,_⟩:=hv
 obtain ⟨fuel,hf0⟩:=h0
 have h4:Tryz.prog.cellsOf 25=4:=by kernel_rfl
 have hl:cs0.toList.length=4:=by rw [Array.length_toList,hsz,h4]
 have hf1:DataW.trod enc Tryz.prog w base sp held fuel 25 cs0.toList=some (d,p):=hf0
 obtain ⟨cs,hcs⟩ : ∃ cs,cs0.toList=cs:=⟨_,rfl⟩
 rw [hcs] at hl hf1
 obtain ⟨ys,n',hn',hy,hlen,hyl,hf⟩:=DataW.trod_struct Tryz.underlying25 hf1
 have hyl:ys.length=4:=hyl
 have h0:=hf 0 _ rfl
 have h1:=hf 1 _ rfl
 have h2:=hf 2 _ rfl
 have h3:=hf 3 _ rfl
 rw [List.getElem?_eq_getElem (show 0<ys.length by omega)] at h0
 rw [List.getElem?_eq_getElem (show 1<ys.length by omega)] at h1
 rw [List.getElem?_eq_getElem (show 2<ys.length by omega)] at h2
 rw [List.getElem?_eq_getElem (show 3<ys.length by omega)] at h3
 have cU:Tryz.prog.cellsOf 5=1:=by kernel_rfl
 have cB:Tryz.prog.cellsOf 23=1:=by kernel_rfl
 have cS:Tryz.prog.cellsOf 22=1:=by kernel_rfl
 obtain ⟨v0,e0,t0⟩:=trod_slice_one (by
  show ((cs.drop 0).take (Tryz.prog.cellsOf 22)).length=1
  rw [cS,List.length_take,List.length_drop];omega) h0
 obtain ⟨v1,e1,t1⟩:=trod_slice_one (by
  show ((cs.drop 1).take (Tryz.prog.cellsOf 23)).length=1
  rw [cB,List.length_take,List.length_drop];omega) h1
 obtain ⟨v2,e2,t2⟩:=trod_slice_one (by
  show ((cs.drop 2).take (Tryz.prog.cellsOf 23)).length=1
  rw [cB,List.length_take,List.length_drop];omega) h2
 obtain ⟨v3,e3,t3⟩:=trod_slice_one (by
  show ((cs.drop 3).take (Tryz.prog.cellsOf 23)).length=1
  rw [cB,List.length_take,List.length_drop];omega) h3
 obtain ⟨l0,hl0,ho0⟩:=open_elems sdC 4 (by omega) (SdOk w) Tryz.underlying22 (by kernel_rfl) (fun y _=>rfl) elem_seed t0
 obtain ⟨l1,hl1,_⟩:=open_elems byC 1 (by omega) (fun _=>True) Tryz.underlying23 cU (fun y _=>rfl) elem_byte t1
 obtain ⟨l2,hl2,_⟩:=open_elems byC 1 (by omega) (fun _=>True) Tryz.underlying23 cU (fun y _=>rfl) elem_byte t2
 obtain ⟨l3,hl3,_⟩:=open_elems byC 1 (by omega) (fun _=>True) Tryz.underlying23 cU (fun y _=>rfl) elem_byte t3
 have e0':(cs.drop 0).take 1=[v0]:=by rw [←cS];exact e0
 have e1':(cs.drop 1).take 1=[v1]:=by rw [←cB];exact e1
 have e2':(cs.drop 2).take 1=[v2]:=by rw [←cB];exact e2
 have e3':(cs.drop 3).take 1=[v3]:=by rw [←cB];exact e3
 refine ⟨v0,v1,v2,v3,⟨l0,l1,l2,l3⟩,?_,⟨⟨hl0,ho0⟩,hl1,hl2,hl3⟩⟩
 have:=chain e0' (m:=1) rfl
 rw [List.drop_zero,chain e1' (m:=2) rfl,chain e2' (m:=3) rfl,chain e3' (m:=4) rfl,List.drop_of_length_le (by omega)] at this
 congr 1
 apply Array.ext'
 rw [hcs,this]
 rfl
end
end Go.Proofs.YtlojebhcemfodaaGreatDoor
namespace Go.Proofs.YtlojebhcemfodaaGreatDoor
open Go.RowKit
attribute [local go_sem ↓] ldvI_eq ldvS_eq
theorem built_one (c:UInt8):Tryz.prog.built 42 [(0, .int .u8 c.toNat)]=some (u8s (c::List.replicate 31 0)):=by kernel_rfl
/-- What Ids tells: as many ids as there are places. -/
def IdsR (w:World) (n:Nat) (e:Ending) (w':World):Prop := ∃ v r,e = .returned v∧OwnIds w' w.heap.size v r∧(∀ x∈r,x.length=32)∧r.length=n
set_option maxRecDepth 100000 in
set_option maxHeartbeats 4000000 in
theorem ids12_calls (all:List Txt) (haok : ∀ x∈all,x.length=32) (hal:all.length≤1000) (va:Value) (w:World) (hva:Ids w va all) (l:Txt) (hl1000:l.length≤1000) (vl:Value) (hvl:SliceAt w 1 byC vl l) :
 Calls Tryz.prog 10 #[va,vl] w fun e w'=>IdsR w l.length e w'∧Below w.heap.size w w':=by
 obtain ⟨A,cap,rfl,hcap1,hcap2,hat⟩:=hvl
 obtain ⟨Aa,ca,rfl,hca1,hca2,hata⟩:=hva
 go_enter Tryz.func10,Tryz.ntmps10
 go_wp2_with (fail)
 go_loopg [5,6] l.length (fun f vo vi wr => ∃ (k:Nat) (acc:List Txt),vi = .int .i64 k∧k+f=l.length∧OwnIds wr w.heap.size vo acc∧Hid ((∀ x∈acc,x.length=32)∧acc.length=k)∧Below w.heap.size w wr)
 case atStart=>exact ⟨0,[],rfl,by omega,World.ownsRow_nil _ _ _ _,Lib.hid ⟨fun x hx=>by simp at hx,rfl⟩,Below.refl _ _⟩
 case round=>
  obtain ⟨k,acc,rfl,hkf,hown,hacc,hbel⟩:=hrel
  have hbs:=hbel.size
  obtain ⟨Ao,co,rfl⟩:=own_form' hown
  cases gk with
  | zero=>
    have hki : ¬ (k:Int)<(l.length:Int):=by omega
    have hke:Hid (k=l.length):=Lib.hid (by omega)
    clear hat hata
    go_wp2_with (fail)
    go_ret
    exact ⟨⟨_,acc,rfl,hown,hacc.out.1,hacc.out.2.trans hke.out⟩,hbel⟩
  | succ f=>
    have hki:(k:Int)<(l.length:Int):=by omega
    have hkl:k<l.length:=by omega
    obtain ⟨ga,oa,rfl,hga,hca⟩:=hat (by omega)
    obtain ⟨c,hc⟩ : ∃ c,l[k]?=some c:=⟨_,List.getElem?_eq_getElem (by omega)⟩
    have hcc:wr.cell? ⟨ga,oa+k,none⟩=some (.int .u8 c.toNat):=by
     have:=rangeAt_below (hca k c hc) hga hbel 0 _ rfl
     rwa [Nat.add_zero,Nat.mul_one] at this
    have hc256:c.toNat<256:=c.toNat_lt
    have hwc:IntKind.i64.wrap ((c.toNat:Nat):Int)=(c.toNat:Int):=IntWalk.i64_in _ (by omega)
    have hal2:acc.length≤1000:=by have:=hacc.out.2;omega
    have hAk:acc.length+1≤9223372036854775807:=by omega
    have hAb:(acc.length+1)*32≤140737488355328:=by omega
    have hrb:=built_one c
    have key : ∀ x:Txt,x.length=32→Hid ((x.length=32∧(u8s x).size=32∧(u8s x).size=1*32 ∧ ∀ u∈(u8s x).toList,u.oneCell'=true)∧(acc++[x]).length=acc.length+1∧rowsOf idC (acc++[x])=rowsOf idC acc++(u8s x).toList∧((∀ z∈acc++[x],z.length=32)∧(acc++[x]).length=k+1)):=fun x hx=>Lib.hid (by
     have h32:(u8s x).size=32:=by rw [u8s_size,hx]
     have hlen:(acc++[x]).length=acc.length+1:=by rw [List.length_append];rfl
     exact ⟨⟨hx,h32,h32,idC_one x⟩,hlen,by rw [rowsOf_append,rowsOf_one];rfl,fun z hz=>(List.mem_append.1 hz).elim (hacc.out.1 z) fun h=>by rw [List.mem_singleton.1 h];exact hx,by rw [hlen,hacc.out.2]⟩)
    clear hca hat hc
    have hx0:(c::List.replicate 31 (0:UInt8)).length=32:=by simp
    by_cases h0:0<all.length
    ·have h0i : ¬ (all.length:Int)=0:=by omega
     have h0b:((all.length:Int)==0)=false:=by simpa using h0i
     by_cases h200:200≤c.toNat
     ·have h2i:(200:Int)≤(c.toNat:Int):=by omega
      obtain ⟨x,hx⟩ : ∃ x,c::List.replicate 31 (0:UInt8)=x:=⟨_,rfl⟩
      rw [hx] at hrb hx0
      have hk0:=key x hx0
      obtain ⟨⟨_,hx32,hx132,hx1⟩,_⟩:=hk0.out
      clear key hx hata h0
      go_wp2_with (first
       | ((with_reducible refine lit_build1 hrb ?_ ?_);rfl)
       | ((with_reducible refine lit_slice1 (.tmp 29) Tryz.idsTy (u8s x) hx32 (by omega) ?_ ?_);rfl)
       | ((with_reducible refine lit_append_new (.tmp 24) (.tmp 30) 1 _ Tryz.idsTy hown (u8s x) hx132 hx1 hAk hAb hbs ?_ ?_ ?_);rfl;rfl
          intro v8 w8 ho8 hb8 hg8 hn8))
      have ho9:OwnIds w8 w.heap.size v8 (acc++[x]):=by unfold OwnIds;rw [hk0.out.2.1,hk0.out.2.2.1];exact ho8
      have hacc9:=Lib.hid hk0.out.2.2.2
      clear hown hacc hk0 ho8
      go_roundg f
      case rel=>exact ⟨k+1,acc++[x],by go_num,by omega,ho9,hacc9,hbel.trans hb8⟩
      case measure=>omega
     ·have h2i : ¬ (200:Int)≤(c.toNat:Int):=by omega
      obtain ⟨m,hm⟩ : ∃ m:Nat,(all.length:Int)-1-(c.toNat:Int)%(all.length:Int)=(m:Int):=by
       refine Int.eq_ofNat_of_zero_le ?_
       have:=Int.emod_lt_of_pos (c.toNat:Int) (show (0:Int)<(all.length:Int) by omega)
       omega
      have hmn:=Int.emod_nonneg (c.toNat:Int) h0i
      have hml:m<all.length:=by omega
      obtain ⟨g3,o3,rfl,hg3,hc3⟩:=hata h0
      obtain ⟨x,hx⟩ : ∃ x,all[m]?=some x:=⟨_,List.getElem?_eq_getElem hml⟩
      have hxi:=haok x (List.mem_of_getElem? hx)
      have hlx:(ldvI ⟨g3,o3+m*32,none⟩).run Tryz.prog wr = .ok (.agg (u8s x)) wr:=run_ldvI_at (show World.rangeAt wr g3 (o3+m*32) (u8s x).toList from rangeAt_below (hc3 m x hx) hg3 hbel) hxi
      have hmi:(m:Int)<(all.length:Int):=by omega
      have hLi:(0:Int)<(all.length:Int):=by omega
      have hk0:=key x hxi
      obtain ⟨⟨_,hx32,hx132,hx1⟩,_⟩:=hk0.out
      clear key hx hc3 hata hrb hx0
      generalize all.length=LN at *
      have hw1:IntKind.i64.wrap ((LN:Int)-1)=(LN:Int)-1:=IntWalk.i64_in _ (by omega)
      have hw2:IntKind.i64.wrap ((c.toNat:Int)%(LN:Int))=(c.toNat:Int)%(LN:Int):=IntWalk.i64_in _ (by have:=Int.emod_lt_of_pos (c.toNat:Int) hLi;omega)
      have hw3:IntKind.i64.wrap ((m:Int))=(m:Int):=IntWalk.i64_in _ (by omega)
      go_wp2_with (first
       | ((with_reducible refine lit_slice1 (.tmp 47) Tryz.idsTy (u8s x) hx32 (by omega) ?_ ?_);rfl)
       | ((with_reducible refine lit_append_new (.tmp 32) (.tmp 48) 1 _ Tryz.idsTy hown (u8s x) hx132 hx1 hAk hAb hbs ?_ ?_ ?_);rfl;rfl
          intro v8 w8 ho8 hb8 hg8 hn8))
      have ho9:OwnIds w8 w.heap.size v8 (acc++[x]):=by unfold OwnIds;rw [hk0.out.2.1,hk0.out.2.2.1];exact ho8
      have hacc9:=Lib.hid hk0.out.2.2.2
      clear hown hacc hk0 ho8 hlx hm hw1 hw2 hw3
      go_roundg f
      case rel=>exact ⟨k+1,acc++[x],by go_num,by omega,ho9,hacc9,hbel.trans hb8⟩
      case measure=>omega
    ·obtain rfl:all=[]:=List.length_eq_zero_iff.1 (by omega)
     obtain ⟨x,hx⟩ : ∃ x,c::List.replicate 31 (0:UInt8)=x:=⟨_,rfl⟩
     rw [hx] at hrb hx0
     have hk0:=key x hx0
     obtain ⟨⟨_,hx32,hx132,hx1⟩,_⟩:=hk0.out
     clear key hx hata h0
     go_wp2_with (first
      | ((with_reducible refine lit_build1 hrb ?_ ?_);rfl)
      | ((with_reducible refine lit_slice1 (.tmp 29) Tryz.idsTy (u8s x) hx32 (by omega) ?_ ?_);rfl)
      | ((with_reducible refine lit_append_new (.tmp 24) (.tmp 30) 1 _ Tryz.idsTy hown (u8s x) hx132 hx1 hAk hAb hbs ?_ ?_ ?_);rfl;rfl
         intro v8 w8 ho8 hb8 hg8 hn8))
     have ho9:OwnIds w8 w.heap.size v8 (acc++[x]):=by unfold OwnIds;rw [hk0.out.2.1,hk0.out.2.2.1];exact ho8
     have hacc9:=Lib.hid hk0.out.2.2.2
     clear hown hacc hk0 ho8
     go_roundg f
     case rel=>exact ⟨k+1,acc++[x],by go_num,by omega,ho9,hacc9,hbel.trans hb8⟩
     case measure=>omega
/-- A history such as is gone through. -/
def FewH (h:HisL):Prop:=(h.seeds.length≤24 ∧ ∀ x∈h.seeds,x.refs.length≤10∧x.text.length≤300)∧h.out.length≤10∧h.frm.length≤10∧h.cut.length≤10
set_option maxRecDepth 100000 in
set_option maxHeartbeats 4000000 in
theorem named_calls (h:HisL) (hf:FewH h) (vs vo vf vc:Value) (w:World) (hh:HisOk w vs vo vf vc h) :
 Calls Tryz.prog 9 #[.agg #[vs,vo,vf,vc]] w fun e w'=>(∃ v r,e = .returned v∧OwnIds w' w.heap.size v r∧(∀ x∈r,x.length=32)∧r.length≤24)∧Below w.heap.size w w':=by
 obtain ⟨W1,hW1⟩ : ∃ W1,w.alloc (.cells #[vs,vo,vf,vc] 25)=W1:=⟨_,rfl⟩
 have s1:Blk W1 w.heap.size 25 #[vs,vo,vf,vc]:=by rw [←hW1];exact Blk.new _ _ _
 have b1:Below w.heap.size w W1:=by rw [←hW1];exact (Below.refl _ _).alloc (Nat.le_refl _) _
 have c0:W1.cell? ⟨w.heap.size,0,none⟩=some vs:=s1.cell 0
 have hgr:=Lib.hid (grow_calls h.seeds (Nat.le_trans hf.1.1 (by omega)) hf.1.2 vs W1 (hh.seeds.below b1))
 have hsl:=hf.1.1
 clear hh hf s1
 go_enter Tryz.func9,Tryz.ntmps9
 go_wp2_with (first
  | ((with_reducible refine hgr.out.mono ?_);rintro e w2 ⟨⟨vm,es,vi,ids,rfl,hD,hel,hoi,hil,hok,hap⟩,hb2⟩
     have hm1:(#[vm]:Array Value).size=1:=rfl
     have hm2:(#[vm]:Array Value).all (·.oneCell')=true:=by simp [hD.one]
     obtain ⟨Ai,ci,rfl⟩:=own_form' hoi)
  | ((with_reducible refine lit_new 28 (.tmp 3) (.tmp 9) #[vm] 1 szDSt hm1 hm2 _ ?_ ?_ ?_ ?_)
     ·first | exact hm1 | rfl
     ·rfl
     ·rfl
     intro W3 hb3 hbl3))
 go_ret
 exact ⟨⟨_,ids,rfl,own_low' (own_below hoi hbl3) b1.size,hok,Nat.le_trans hil hsl⟩,bthen b1 b1.size (bthen hb2 hb2.size hbl3)⟩
end Go.Proofs.YtlojebhcemfodaaGreatDoor
