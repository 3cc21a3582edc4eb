/- Texts of this claim, laid together: MkE, Grow, StoQ, DocA, ObjId, StoI, StL, StM, ChkK, His, HisI. -/
import Derived.Test.YtfdfoplmijmnaaaGreatDoorMm
import Derived.Deep.RegionWith
namespace Go.Proofs.YtfdfoplmijmnaaaGreatDoor
open Go.RowKit
attribute [local go_sem ↓] ldvI_eq ldvS_eq stvI_eq ldvO_eq
def NameV (v:Value):Prop := ∃ c:UInt8,v = .string (B [c])
structure EntS (e:EntL):Prop where
 id:e.id.length=32
 name:e.name.length=1
 k0:0≤e.kind
 k1:e.kind≤255
theorem EntS.ok {e:EntL} (h:EntS e):EntOk e:=⟨h.id,by have:=h.name;omega,by have:=h.k0;omega,by have:=h.k1;omega⟩
def oT : ObjL:=⟨2,[],[],noId,[],0,[],noId,0,[]⟩
def oTC (ve:Value):Array Value:=(objC oT ve (.slice none 0 0)).toArray
theorem entC_lenS {y:Txt} (hy:y.length=32) {n:Txt} {K:Int}:(entC ⟨n,K,y⟩).length=34:=by
 unfold entC
 simp [u8s_size,hy]
set_option maxRecDepth 100000 in
theorem built_ent3 (n:Txt) (k:Int) (x:Txt) (hx:x.length=32):Tryz.prog.built 120 [(0, .string (B n)),(1, .int .i64 k),(2, .agg (u8s x))]=some (entC ⟨n,k,x⟩).toArray:=by
 obtain ⟨f,rfl⟩:=len32 hx
 kernel_rfl
set_option maxRecDepth 100000 in
set_option maxHeartbeats 8000000 in
theorem make_tree {w:World} {vm:Value} {es:List DiL} (h:DocSt w vm es) (ids:List Txt) (hok : ∀ x∈ids,x.length=32) (hil:ids.length≤1000) (vi:Value) (hi:Ids w vi ids) (x:SdL) (hx:SdOk w x) (hr:x.refs.length≤10) (ht:x.text.length≤300) (hk:(x.kind.toNat:Int)%4=1) :
 Calls Tryz.prog 41 #[.agg #[vm],vi, .agg (sdC x).toArray] w fun e w'=>MkR w e w'∧Below w.heap.size w w':=by
 have hzo:=zeroObj
 have hz72:=zObj_size
 have hzone:zObj.all (·.oneCell')=true:=objC_all zeroO none none 0 0 0 0
 have hsz : ∀ cs:Array Value,cs.size=72→(Tryz.prog.info? 70).map (·.size)=some cs.size:=fun cs h=>by rw [h];exact szObj
 obtain ⟨W1,hW1⟩ : ∃ W1,w.alloc (.cells #[vm] 30)=W1:=⟨_,rfl⟩
 have s1:Blk W1 w.heap.size 30 #[vm]:=by rw [←hW1];exact Blk.new _ _ _
 have b1:Below w.heap.size w W1:=by rw [←hW1];exact (Below.refl _ _).alloc (Nat.le_refl _) _
 obtain ⟨W2,hW2⟩ : ∃ W2,W1.alloc (.cells (sdC x).toArray 88)=W2:=⟨_,rfl⟩
 have d2:Blk W2 W1.heap.size 88 (sdC x).toArray:=by rw [←hW2];exact Blk.new _ _ _
 have bb2:Below W1.heap.size W1 W2:=by rw [←hW2];exact (Below.refl _ _).alloc (Nat.le_refl _) _
 obtain ⟨W3,hW3⟩ : ∃ W3,W2.alloc (.cells zObj 70)=W3:=⟨_,rfl⟩
 have z3:Blk W3 W2.heap.size 70 zObj:=by rw [←hW3];exact Blk.new _ _ _
 have bb3:Below W2.heap.size W2 W3:=by rw [←hW3];exact (Below.refl _ _).alloc (Nat.le_refl _) _
 have b2:=bthen b1 b1.size bb2
 have b3:=bthen b2 b2.size bb3
 have s3:=(s1.below bb2 s1.lt).below bb3 (s1.below bb2 s1.lt).lt
 have d3:=d2.below bb3 d2.lt
 have hle2:w.heap.size≤W2.heap.size:=b2.size
 have hlt0:=s1.lt
 have hlt1:=d2.lt
 have hlt2:=z3.lt
 have fL:=fun W (hW:Below W3.heap.size W3 W)=>run_ldvS (s3.below hW s3.lt)
 have fK : ∀ W,Below W3.heap.size W3 W→W.cell? ⟨W1.heap.size,0,none⟩=some (.int .u8 x.kind.toNat):=fun W hW=>(d3.below hW d3.lt).cell 0
 have fR : ∀ W,Below W3.heap.size W3 W→W.cell? ⟨W1.heap.size,1,none⟩=some x.vr:=fun W hW=>(d3.below hW d3.lt).cell 1
 have fT : ∀ W,Below W3.heap.size W3 W→W.cell? ⟨W1.heap.size,2,none⟩=some (.int .u16 x.time):=fun W hW=>(d3.below hW d3.lt).cell 2
 have fX : ∀ W,Below W3.heap.size W3 W→W.cell? ⟨W1.heap.size,3,none⟩=some (.string (B x.text)):=fun W hW=>(d3.below hW d3.lt).cell 3
 have k3:=fK W3 (Below.refl _ _)
 have hkb:(x.kind.toNat:Int)<256:=by have:=x.kind.toNat_lt;omega
 have hsI:(Tryz.prog.info? 35).map (·.size)=some (u8s noId).size:=by rw [u8s_size,noId_len];exact sz32
 obtain ⟨A,cap,hvr,hcap1,hcap2,hat⟩:=hx.refs
 rw [hvr] at fR
 have hkc:=fun (y:Txt) (hy:y.length=32) W (hW:Below W3.heap.size W3 W)=>docKind_calls (h.below (bthen b3 b3.size hW)) y hy
 have hpk:=fun (c:UInt8) W (hW:Below W3.heap.size W3 W)=>(pick_calls (h.below (bthen b3 b3.size hW)) ids hok hil vi (hi.below (bthen b3 b3.size hW)) c.toNat (by have:=c.toNat_lt;omega) 9)
 have fBk : ∀ k,k<x.refs.length → ∃ (ga oa:Nat) (c:UInt8),A=some ⟨ga,oa,none⟩ ∧ ∀ W,Below W3.heap.size W3 W→W.cell? ⟨ga,oa+k,none⟩=some (.int .u8 c.toNat):=fun k hk=>by
  obtain ⟨ga,oa,rfl,hga,hca⟩:=hat (by omega)
  refine ⟨ga,oa,x.refs[k],rfl,fun W hW=>?_⟩
  have:=rangeAt_below (hca k _ (List.getElem?_eq_getElem hk)) hga (bthen b3 b3.size hW) 0 _ rfl
  simpa [byC,u8v] using this
 clear h hi hx fK fT fX hok hat hvr
 generalize (sdC x).toArray=SC at *
 obtain ⟨ZO,hZO⟩ : ∃ ZO,zObj=ZO:=⟨_,rfl⟩
 rw [hZO] at hzo hz72 hzone hW3 z3
 have hbd:=built_kobj 2
 have hcs:(oTC (.slice none 0 0)).size=72:=rfl
 have hc1:(oTC (.slice none 0 0)).all (·.oneCell')=true:=objC_all oT none none 0 0 0 0
 have hbd:Tryz.prog.built 70 [(0, .int .i64 2)]=some (oTC (.slice none 0 0)):=hbd
 obtain ⟨OC,hOC⟩ : ∃ OC,oTC (.slice none 0 0)=OC:=⟨_,rfl⟩
 rw [hOC] at hbd hcs hc1
 have hOC:=Lib.hid hOC
 go_enter Tryz.func41,Tryz.ntmps41
 go_wp2_with (first
  | ((with_reducible refine lit_build1 hbd ?_ ?_);rfl)
  | ((with_reducible refine lit_new 70 (.tmp 7) (.tmp 25) OC 72 szObj hcs hc1 _ ?_ ?_ ?_ ?_)
     ·first | exact hz72 | rfl
     ·rfl
     ·rfl
     intro W4 n4 b34))
 have hO4:Blk W4 W3.heap.size 70 (oTC (.slice none 0 0)):=by rw [hOC.out];exact n4
 clear n4 hbd hcs hc1
 go_loopw [8] (fun vi wr => ∃ (k:Nat) (acc:List EntL) (ve:Value),vi = .int .i64 k∧k≤x.refs.length∧k≤5∧acc.length≤k∧Hid (∀ e∈acc,EntS e)∧Blk wr W3.heap.size 70 (oTC ve)∧OwnEnts wr W3.heap.size ve acc∧Below W3.heap.size W3 wr) (fun vi _=>x.refs.length-(intOf vi).toNat)
 case atStart=>exact ⟨0,[],_,rfl,by omega,by omega,by simp,Lib.hid (fun x hx=>by simp at hx),hO4,World.ownsRow_nil _ _ _ _,b34⟩
 case round=>
  obtain ⟨k,acc,ve,rfl,hk,hk5,hal,hall,hO,hown,hbel⟩:=hrel
  have r6:=fR _ hbel
  by_cases hlt:k<x.refs.length
  ·have hki:(k:Int)<(x.refs.length:Int):=by omega
   by_cases hk6:k<5
   ·have hki5:(k:Int)<5:=by omega
    obtain ⟨ga,oa,c,rfl,fB⟩:=fBk k hlt
    have hcb:(c.toNat:Int)<256:=by have:=c.toNat_lt;omega
    have hcw:IntKind.i64.wrap (c.toNat:Int)=(c.toNat:Int):=IntWalk.i64_in _ (by omega)
    have hpk:=hpk c
    clear fBk
    go_wp2
    refine wp_region_go0 15 (by kernel_rfl) (by kernel_rfl) (by kernel_rfl) (by kernel_rfl) ?_
    simp only [exSp]
    iterate 15 apply Exists.intro
    repeat
     first
      | ((with_reducible apply lx0_ex)
         ·(go_simp;done)
         apply Exists.intro
         apply And.intro
         ·apply Eq.refl
         apply And.intro
         ·intro W hW hD
          have hW2:=hbel.trans (hW.mono hbel.size)
          have q0:=fL W hW2
          have q1:=fR W hW2
          have q2:=fB W hW2
          go_simp
          rfl
         simp only [Act.put,List.setIfInBounds_toArray,List.set_cons_zero,List.set_cons_succ])
      | ((with_reducible apply lx0_pass)
         ·(first | rfl | (go_simp;done))
         ·apply Eq.refl
         simp only [Act.put,List.setIfInBounds_toArray,List.set_cons_zero,List.set_cons_succ])
      | ((with_reducible refine lx0_new (fun v _ _=>PickV v) rfl ?_ (stab_pure PickV) ?_ ?_)
         ·(go_simp;done)
         ·intro W hW hD
          have hW2:=hbel.trans (hW.mono hbel.size)
          unfold doesAt Oper.wp execOp
          go_simp
          (with_reducible refine (hpk W hW2).mono ?_)
          rintro e w' ⟨⟨y,b,rfl,hy⟩,hb⟩
          exact ⟨hb,fun _ _ _ _=>⟨y,b,rfl,hy⟩⟩
         intro v
         simp only [Act.put,List.setIfInBounds_toArray,List.set_cons_zero,List.set_cons_succ])
      | (first | (with_reducible apply lx_move') | (with_reducible apply lx_assign')
         ·apply Eq.refl
         apply Exists.intro
         apply And.intro
         ·(go_simp;rfl)
         simp only [Act.put,List.setIfInBounds_toArray,List.set_cons_zero,List.set_cons_succ])
      | ((with_reducible apply lx_extr')
         ·apply Eq.refl
         apply Exists.intro
         apply And.intro
         ·(go_simp;rfl)
         refine ⟨fun W hW hD=>?_,?_⟩
         ·obtain ⟨F,y,b,rfl,hy⟩:=hD.at 0 rfl (by kernel_rfl)
          exact ⟨_,rfl,by simp⟩
         simp only [Act.put,List.setIfInBounds_toArray,List.set_cons_zero,List.set_cons_succ])
      | ((with_reducible apply lx_al 35 (u8s noId) zeroIdV)
         ·apply Eq.refl
         intro v
         simp only [Act.put,List.setIfInBounds_toArray,List.set_cons_zero,List.set_cons_succ])
      | ((with_reducible apply lx_st' 12 35 (u8s noId) hsI (by kernel_rfl))
         ·exact rfl
         ·apply Eq.refl
         apply Exists.intro
         apply Exists.intro
         apply And.intro
         ·(go_simp;rfl)
         apply And.intro
         ·(go_simp;rfl)
         refine ⟨?_,fun W hW hD=>?_,?_⟩
         ·first | exact List.Mem.head _ | exact List.Mem.tail _ (List.Mem.head _) | exact List.Mem.tail _ (List.Mem.tail _ (List.Mem.head _)) | exact List.Mem.tail _ (List.Mem.tail _ (List.Mem.tail _ (List.Mem.head _)))
         ·obtain ⟨F,y,b,rfl,hy⟩:=hD.at 1 rfl (by kernel_rfl)
          exact ⟨_,rfl,by rw [u8s_size,u8s_size,hy,noId_len],u8s_one y⟩)
    refine lx0_nil ?_ fun w7 hW7 hD7=>?_
    ·exact (by simp [stsOf])
    obtain ⟨_,y7,b,rfl,hy7⟩:=hD7 _ (.tail _ (.tail _ (.head _)))
    obtain ⟨_,g,cs,rfl,hcs,hg1,_,hg2⟩:=hD7 _ (.head _)
    obtain rfl:u8s y7=cs:=by injection hcs
    clear hcs hD7
    simp only [extr2_0,extr2_1]
    have b7:=hbel.trans (hW7.mono hbel.size)
    have own7:=own_below hown hW7
    have hO7:=hO.below hW7 hO.lt
    clear hpk fB hcw
    cases b
    ·go_wp2
     go_roundw
     case rel=>exact ⟨k+1,acc,ve,by go_num,by omega,by omega,by omega,hall,hO7,own7,b7⟩
     case measure=>simp [intOf];omega
    ·obtain ⟨K,hK⟩ : ∃ K,kindS (es.map (·.st)) y7=K:=⟨_,rfl⟩
     have hKb:=kindS_bounds (s:=es.map (·.st)) y7
     have hkc:=hkc y7 hy7
     simp only [hK] at hKb hkc
     have hOV2:(oTC ve)[2]?=some ve:=rfl
     have hOVs:(2:Nat)<(oTC ve).size:=by show 2<(objC oT ve _).toArray.size;rw [List.size_toArray];simp [objC]
     have hOVp : ∀ v,(oTC ve).setIfInBounds 2 v=oTC v:=fun v=>rfl
     have hpre:=preOk2 (i:=10) (j:=12) own7 hO7 (by decide)
     have hrB:=rows2 (i:=10) (j:=12) (p:=fun w=>World.ownsRow w W3.heap.size 120 34 ve acc.length (rowsOf entC acc)) (q:=fun w=>Blk w W3.heap.size 70 (oTC ve)) (v:=ve) (fun k hk=>(World.ownsRow.lt own7 k hk).1) (Nat.le_refl W3.heap.size)
     have sz7:=b7.size
     have hno1:=own_blk_ne own7 hg2 (by decide)
     have hno2:W3.heap.size≠g:=fun e=>Blk.ne_ hO7 (e▸hg2) (by decide) rfl
     have hgI:=fun W (hF:Far (rowsOfP [(10,ve.ownBlock,fun w=>World.ownsRow w W3.heap.size 120 34 ve acc.length (rowsOf entC acc)),(12,some W3.heap.size,fun w=>Blk w W3.heap.size 70 (oTC ve))]) w7 W)=>run_ldvI_at (range_blk (hF.blk hg2 (by simp [rowsOfP];exact ⟨hno1,fun e=>hno2 e.symm⟩))) hy7
     have hkl:acc.length+1≤9223372036854775807:=by omega
     have hby:(acc.length+1)*56≤140737488355328:=by omega
     obtain ⟨A3,c3,rfl⟩:=own_form' hown
     obtain ⟨OV,hOV⟩ : ∃ OV,oTC (.slice A3 acc.length c3)=OV:=⟨_,rfl⟩
     rw [hOV] at hpre hrB hgI hOV2 hOVs hOVp hO7
     have hnm:=fun W=>name_calls11 k (by omega) W
     clear hOV hK hno1 hno2
     go_wp2
     refine wp_region_goP 13 [(10,(Value.slice A3 acc.length c3).ownBlock,fun w=>World.ownsRow w W3.heap.size 120 34 (.slice A3 acc.length c3) acc.length (rowsOf entC acc)),(12,some W3.heap.size,fun w=>Blk w W3.heap.size 70 OV)] hpre (by kernel_rfl) (by kernel_rfl) (by kernel_rfl) (by kernel_rfl) ?_
     simp only [exSp]
     iterate 13 apply Exists.intro
     repeat
      first
       | ((with_reducible apply lx_ex)
          ·(go_simp;done)
          apply Exists.intro
          apply And.intro
          ·apply Eq.refl
          apply And.intro
          ·intro W hF hD
           first
            | (have hf:=far_drew hF
               have hW2:=b7.trans (hf.below sz7 hrB)
               have q0:=fL W hW2
               have q1:W.cell? ⟨W3.heap.size,2,none⟩=some (.slice A3 acc.length c3):=by rw [(hD.was 1 rfl (by kernel_rfl)).cell];exact hOV2
               have q2:=hgI W hf
               have q3:=hkc W hW2
               go_simp
               first
                | rfl
                | (with_reducible exact q3))
            | (have hf:=far_drew hF
               have hW2:=b7.trans (hf.below sz7 hrB)
               have q0:=fL W hW2
               have q2:=hgI W hf
               have q3:=hkc W hW2
               go_simp
               first
                | rfl
                | (with_reducible exact q3))
          simp only [Act.put,List.setIfInBounds_toArray,List.set_cons_zero,List.set_cons_succ])
       | ((with_reducible apply lx_pass)
          ·(first | rfl | (go_simp;done))
          ·apply Eq.refl
          simp only [Act.put,List.setIfInBounds_toArray,List.set_cons_zero,List.set_cons_succ])
       | ((with_reducible refine lx_new (fun _ v _ _=>NameV v) rfl ?_ (fun _=>stab_pure NameV) ?_ ?_)
          ·(go_simp;done)
          ·intro W hF hD
           unfold doesAt Oper.wp execOp
           go_simp
           (with_reducible refine (hnm W).mono ?_)
           rintro e w' ⟨⟨cc,rfl⟩,hb⟩
           exact ⟨hb,fun _ _ _ _=>⟨cc,rfl⟩⟩
          intro v
          simp only [Act.put,List.setIfInBounds_toArray,List.set_cons_zero,List.set_cons_succ])
       | (first | (with_reducible apply lx_move') | (with_reducible apply lx_assign')
          ·apply Eq.refl
          apply Exists.intro
          apply And.intro
          ·(go_simp;rfl)
          simp only [Act.put,List.setIfInBounds_toArray,List.set_cons_zero,List.set_cons_succ])
       | ((with_reducible apply lx_build3 (fun cs => ∃ cc:UInt8,cs=(entC ⟨[cc],K,y7⟩).toArray))
          ·apply Eq.refl
          iterate 3 apply Exists.intro
          iterate 3
           apply And.intro
           ·(go_simp;rfl)
          refine ⟨fun W hF hD=>?_,?_⟩
          ·obtain ⟨F,cc,rfl⟩:=hD.at 0 rfl (by kernel_rfl)
           exact ⟨_,built_ent3 [cc] K y7 hy7,cc,rfl⟩
          intro v
          simp only [Act.put,List.setIfInBounds_toArray,List.set_cons_zero,List.set_cons_succ])
       | ((with_reducible apply lx_slice1 Tryz.entTy (fun cs => ∃ cc:UInt8,cs=(entC ⟨[cc],K,y7⟩).toArray) (by omega))
          ·apply Eq.refl
          apply Exists.intro
          apply And.intro
          ·(go_simp;rfl)
          refine ⟨fun W hF hD=>?_,?_⟩
          ·obtain ⟨F,cs,rfl,cc,rfl⟩:=hD.at 0 rfl (by kernel_rfl)
           exact ⟨_,rfl,by rw [List.size_toArray,entC_lenS hy7],cc,rfl⟩
          intro v
          simp only [Act.put,List.setIfInBounds_toArray,List.set_cons_zero,List.set_cons_succ])
       | ((with_reducible apply lx_append1 Tryz.entTy W3.heap.size (.slice A3 acc.length c3) acc.length (rowsOf entC acc) (fun xs => ∃ cc:UInt8,xs=rowsOf entC acc++entC ⟨[cc],K,y7⟩) hkl hby)
          ·exact sz7
          ·first | exact List.Mem.head _ | exact List.Mem.tail _ (List.Mem.head _) | exact List.Mem.tail _ (List.Mem.tail _ (List.Mem.head _)) | exact List.Mem.tail _ (List.Mem.tail _ (List.Mem.tail _ (List.Mem.head _)))
          ·apply Eq.refl
          apply Exists.intro
          apply Exists.intro
          apply And.intro
          ·(go_simp;rfl)
          apply And.intro
          ·(go_simp;rfl)
          refine ⟨rfl,fun W hF hD=>?_,?_⟩
          ·obtain ⟨F,g5,cs,rfl,_,hk5,cc,rfl⟩:=hD.at 0 rfl (by kernel_rfl)
           exact ⟨g5,_,rfl,hk5,by rw [List.size_toArray,entC_lenS hy7],by rw [List.toList_toArray];exact entC_one _,cc,by rw [List.toList_toArray]⟩
          intro v
          simp only [Act.put,List.setIfInBounds_toArray,List.set_cons_zero,List.set_cons_succ])
       | ((with_reducible apply lx_put W3.heap.size 2 OV 70)
          ·exact (fun _=>by kernel_rfl)
          ·exact hOVs
          ·first | exact List.Mem.head _ | exact List.Mem.tail _ (List.Mem.head _) | exact List.Mem.tail _ (List.Mem.tail _ (List.Mem.head _)) | exact List.Mem.tail _ (List.Mem.tail _ (List.Mem.tail _ (List.Mem.head _)))
          ·apply Eq.refl
          apply Exists.intro
          apply Exists.intro
          apply And.intro
          ·(go_simp;rfl)
          apply And.intro
          ·(go_simp;rfl)
          refine ⟨rfl,fun W hF hD=>?_,?_⟩
          ·obtain ⟨F,xs,_,hv,_⟩:=hD.at 0 rfl (by kernel_rfl)
           obtain ⟨A6,c6,rfl⟩:=own_form' hv
           exact ⟨_,_,_,rfl⟩)
     refine lxP_nil ?_ fun w9 hF9 hD9=>?_
     ·exact List.nodup_nil
     have f9:=hF9
     obtain ⟨_,hg9,hb9⟩:=hD9 _ (.head _)
     obtain ⟨_,xs,⟨cc,rfl⟩,hv9,_⟩:=hD9 _ (.tail _ (.head _))
     rw [hOVp] at hb9
     have b9:=b7.trans (f9.below sz7 hrB)
     go_wp2
     go_roundw
     case rel=>exact ⟨k+1,acc++[⟨[cc],K,y7⟩],_,by go_num,by omega,by omega,by simp;omega,Lib.hid (fun e he=>by
      rcases List.mem_append.1 he with he | he
      ·exact hall.out e he
      ·rw [List.mem_singleton.1 he];exact ⟨hy7,rfl,hKb.1,hKb.2⟩),hb9,by unfold OwnEnts;rw [List.length_append,rowsOf_append,rowsOf_one];exact hv9,b9⟩
     case measure=>simp [intOf];omega
   ·have hki5 : ¬ (k:Int)<5:=by omega
    clear fBk hpk hkc
    obtain ⟨A3,c3,rfl⟩:=own_form' hown
    have hz9:=z3.below hbel z3.lt
    have hokO:ObjOk ⟨2,[],acc,noId,[],0,[],noId,0,[]⟩:=⟨noId_len,noId_len,fun e he=>(hall.out e he).ok,by simp,by simp,by simp,by simp,by simp,by simp,by simp,by simp,by simp⟩
    have hOo:ObjB wr W3.heap.size ⟨2,[],acc,noId,[],0,[],noId,0,[]⟩ (.slice A3 acc.length c3) (.slice none 0 0):=⟨hO,noId_len,noId_len⟩
    have ld:=run_ldvO hOo hokO
    have hcs:(objC ⟨2,[],acc,noId,[],0,[],noId,0,[]⟩ (.slice A3 acc.length c3) (.slice none 0 0)).toArray.size=72:=by rw [List.size_toArray];exact objC_len hokO _ _
    have hc1:=objC_all ⟨2,[],acc,noId,[],0,[],noId,0,[]⟩ A3 none acc.length c3 0 0
    have hfin:Hid (∀ w',OwnEnts w' W3.heap.size (.slice A3 acc.length c3) acc→MkR w (.returned (.agg (objC ⟨2,[],acc,noId,[],0,[],noId,0,[]⟩ (.slice A3 acc.length c3) (.slice none 0 0)).toArray)) w'):=Lib.hid fun w' ho=>⟨_,A3,none,c3,0,rfl,⟨by show acc.length≤_;omega,fun e he=>by have:=(hall.out e he).name;omega,by simp,by simp,by simp,by simp⟩,hokO,own_low' ho b3.size,World.ownsRow_nil _ _ _ _⟩
    have b9:=bthen b3 b3.size hbel
    generalize (objC ⟨2,[],acc,noId,[],0,[],noId,0,[]⟩ (.slice A3 acc.length c3) (.slice none 0 0)).toArray=OR at *
    go_wp2_with (first
     | (refine wpList_store_row rfl 70 (.tmp 6) (.tmp 62) rfl W2.heap.size OR rfl rfl _ _ hz9 (hsz _ hcs) (hz72.trans hcs.symm) hc1 ?_))
    refine bodyPost_ret (results_cell_row rfl _ _ W2.heap.size _ _ _ _ rfl (setRow_heap _ _ _ _ _ _ hz9) Tryz.underlying70 rfl (hsz _ hcs)) rfl ⟨hfin.out _ (own_row hown hlt2 OR),below_setRow b9 hle2 _⟩
  ·have hki : ¬ (k:Int)<(x.refs.length:Int):=by omega
   clear fBk hpk hkc
   obtain ⟨A3,c3,rfl⟩:=own_form' hown
   have hz9:=z3.below hbel z3.lt
   have hokO:ObjOk ⟨2,[],acc,noId,[],0,[],noId,0,[]⟩:=⟨noId_len,noId_len,fun e he=>(hall.out e he).ok,by simp,by simp,by simp,by simp,by simp,by simp,by simp,by simp,by simp⟩
   have hOo:ObjB wr W3.heap.size ⟨2,[],acc,noId,[],0,[],noId,0,[]⟩ (.slice A3 acc.length c3) (.slice none 0 0):=⟨hO,noId_len,noId_len⟩
   have ld:=run_ldvO hOo hokO
   have hcs:(objC ⟨2,[],acc,noId,[],0,[],noId,0,[]⟩ (.slice A3 acc.length c3) (.slice none 0 0)).toArray.size=72:=by rw [List.size_toArray];exact objC_len hokO _ _
   have hc1:=objC_all ⟨2,[],acc,noId,[],0,[],noId,0,[]⟩ A3 none acc.length c3 0 0
   have hfin:Hid (∀ w',OwnEnts w' W3.heap.size (.slice A3 acc.length c3) acc→MkR w (.returned (.agg (objC ⟨2,[],acc,noId,[],0,[],noId,0,[]⟩ (.slice A3 acc.length c3) (.slice none 0 0)).toArray)) w'):=Lib.hid fun w' ho=>⟨_,A3,none,c3,0,rfl,⟨by show acc.length≤_;omega,fun e he=>by have:=(hall.out e he).name;omega,by simp,by simp,by simp,by simp⟩,hokO,own_low' ho b3.size,World.ownsRow_nil _ _ _ _⟩
   have b9:=bthen b3 b3.size hbel
   generalize (objC ⟨2,[],acc,noId,[],0,[],noId,0,[]⟩ (.slice A3 acc.length c3) (.slice none 0 0)).toArray=OR at *
   go_wp2_with (first
    | (refine wpList_store_row rfl 70 (.tmp 6) (.tmp 62) rfl W2.heap.size OR rfl rfl _ _ hz9 (hsz _ hcs) (hz72.trans hcs.symm) hc1 ?_))
   refine bodyPost_ret (results_cell_row rfl _ _ W2.heap.size _ _ _ _ rfl (setRow_heap _ _ _ _ _ _ hz9) Tryz.underlying70 rfl (hsz _ hcs)) rfl ⟨hfin.out _ (own_row hown hlt2 OR),below_setRow b9 hle2 _⟩
end Go.Proofs.YtfdfoplmijmnaaaGreatDoor
namespace Go.Proofs.YtfdfoplmijmnaaaGreatDoor
open Go.RowKit
theorem make1_calls {w:World} {vm:Value} {es:List DiL} (h:DocSt w vm es) (ids:List Txt) (hok : ∀ x∈ids,x.length=32) (hil:ids.length≤1000) (vi:Value) (hi:Ids w vi ids) (x:SdL) (hx:SdOk w x) (hr:x.refs.length≤10) (ht:x.text.length≤300) :
 Calls Tryz.prog 41 #[.agg #[vm],vi, .agg (sdC x).toArray] w fun e w'=>MkR w e w'∧Below w.heap.size w w':=by
 have h4:(x.kind.toNat:Int)%4=0∨(x.kind.toNat:Int)%4=1∨(x.kind.toNat:Int)%4=2∨(x.kind.toNat:Int)%4=3:=by omega
 rcases h4 with h4 | h4 | h4 | h4
 ·exact make_blob h ids hok hil vi hi x hx hr ht h4
 ·exact make_tree h ids hok hil vi hi x hx hr ht h4
 ·exact make_commit h ids hok hil vi hi x hx hr ht h4
 ·exact make_tag h ids hok hil vi hi x hx hr ht h4
def ldvSd (p:Addr):Sem Value:=loadVar 88 p
theorem ldvSd_eq (p:Addr):loadVar 88 p=ldvSd p:=rfl
theorem run_ldvSd {w:World} {g o:Nat} {e:SdL} (h:w.rangeAt g o (sdC e)):(ldvSd ⟨g,o,none⟩).run Tryz.prog w = .ok (.agg (sdC e).toArray) w:=run_loadVar_mid w g o 88 (sdC e) _ h Tryz.underlying88 rfl szSeed
attribute [local go_sem ↓] ldvI_eq ldvS_eq stvI_eq stvS_eq ldvSd_eq
/-- What make1 tells, amid a region. -/
def MkV (B:Nat) (v:Value) (F:Foot) (w:World):Prop := ∃ o A1 A2 k1 k2,v = .agg (objC o (.slice A1 o.ents.length k1) (.slice A2 o.pars.length k2)).toArray∧Small o∧ObjOk o∧ownR B 120 34 o.ents.length (rowsOf entC o.ents) (.slice A1 o.ents.length k1) F w∧ownR B 35 32 o.pars.length (rowsOf idC o.pars) (.slice A2 o.pars.length k2) F w
theorem MkV_stab (B:Nat) (v:Value):Stab (MkV B v):=fun F F' w w' hf ha ⟨o,A1,A2,k1,k2,e,h1,h2,h3,h4⟩=>⟨o,A1,A2,k1,k2,e,h1,h2,ownR_stab _ _ _ _ _ _ F F' w w' hf ha h3,ownR_stab _ _ _ _ _ _ F F' w w' hf ha h4⟩
def EncV (v:Value):Prop := ∃ t b,v = .tuple #[.string (B t), .bool b]∧t.length≤4096
theorem encD_V (o:ObjL):EncV (encD o):=by
 cases h:encO o with
 | none=>exact ⟨[],false,encD_none h,by simp⟩
 | some t=>
   refine ⟨t,true,encD_some h,?_⟩
   unfold encO at h
   split at h
   ·rename_i hc
    injection h with h
    rw [←h];exact hc.2
   ·cases h
theorem DocSt.one {w:World} {vm:Value} {es:List DiL} (h:DocSt w vm es):vm.oneCell'=true:=by
 obtain ⟨A,c,rfl⟩:=own_form' h.own
 rfl
theorem grow_id (w:World) (a b:Array Value) (T:TypeId) (c:Array Value) (S:TypeId):Blk (((w.alloc (.cells a T)).alloc (.cells b S)).setRow w.heap.size c) (w.heap.size+1) S b:=by
 unfold Blk
 rw [setRow_other _ _ _ _ (by omega)]
 have:=Blk.new (w.alloc (.cells a T)) S b
 rwa [size_alloc'] at this
/-- What Grow tells: some store, some ids. -/
def GrowR (w:World) (n:Nat) (e:Ending) (w':World):Prop := ∃ vm es vi ids,e = .returned (.tuple #[.agg #[vm],vi])∧DocSt w' vm es∧es.length≤n∧OwnIds w' w.heap.size vi ids∧ids.length≤n∧(∀ x∈ids,x.length=32)∧Apart vi vm es
set_option maxRecDepth 100000 in
set_option maxHeartbeats 16000000 in
theorem grow_calls (l:List SdL) (hl:l.length≤100) (hsm : ∀ x∈l,x.refs.length≤10∧x.text.length≤300) (va:Value) (w:World) (h:Seeds w va l) :
 Calls Tryz.prog 22 #[va] w fun e w'=>GrowR w l.length e w'∧Below w.heap.size w w':=by
 have hzI:=zeroIdV
 have hZ32:(u8s noId).size=32:=by rw [u8s_size,noId_len]
 have hbS:Tryz.prog.built 30 []=some #[.slice none 0 0]:=by kernel_rfl
 have hrb:=fun W=>run_build (P:=Tryz.prog) W _ _ _ hbS
 have hS0:(#[Value.slice none 0 0]:Array Value).size=1:=rfl
 have hS1:(#[Value.slice none 0 0]:Array Value).all (·.oneCell')=true:=by kernel_rfl
 obtain ⟨W1,hW1⟩ : ∃ W1,w.alloc (.cells #[.slice none 0 0] 30)=W1:=⟨_,rfl⟩
 have r1:Blk W1 w.heap.size 30 #[.slice none 0 0]:=by rw [←hW1];exact Blk.new _ _ _
 have b1:Below w.heap.size w W1:=by rw [←hW1];exact (Below.refl _ _).alloc (Nat.le_refl _) _
 have hlt0:=r1.lt
 have hat0:=h.at_
 have heach:=h.each
 obtain ⟨A,cap,rfl,hcap1,hcap2,hat⟩:=hat0
 clear h
 go_enter Tryz.func22,Tryz.ntmps22
 go_wp2_with (first
  | ((with_reducible refine lit_new 30 (.tmp 4) (.tmp 12) #[.slice none 0 0] 1 szDSt hS0 hS1 _ ?_ ?_ ?_ ?_)
     ·exact hS0
     ·rfl
     ·rfl
     intro W2 m2 b12))
 have hlt1:=m2.lt
 have hD2:DocSt W2 (.slice none 0 0) []:=⟨World.ownsRow_nil _ _ _ _,fun e he=>by simp at he,StoOk.nil⟩
 clear hrb hS0 hS1
 go_loopw [5,6] (fun v5 v6 wr => ∃ (k:Nat) (vm:Value) (es:List DiL) (ids:List Txt),v6 = .int .i64 k∧k≤l.length∧es.length≤k∧ids.length≤k∧Hid (∀ x∈ids,x.length=32)∧Blk wr W1.heap.size 30 #[vm]∧DocSt wr vm es∧OwnIds wr W2.heap.size v5 ids∧Apart v5 vm es∧Below W1.heap.size W1 wr∧W2.heap.size≤wr.heap.size) (fun _ v6 _=>l.length-(intOf v6).toNat)
 case atStart=>exact ⟨0,_,[],[],rfl,by omega,by simp,by simp,Lib.hid (fun x hx=>by simp at hx),m2,hD2,World.ownsRow_nil _ _ _ _,fun k hk=>by simp [Value.ownBlock] at hk,b12,Nat.le_refl _⟩
 case round=>
  obtain ⟨k,vm,es,ids,rfl,hk,hel,hil,hids,hM,hD,hown,hap,hbel,hsz2⟩:=hrel
  by_cases hlt:k<l.length
  ·have hki:(k:Int)<(l.length:Int):=by omega
   obtain ⟨ga,oa,rfl,hga,hca⟩:=hat (by omega)
   obtain ⟨x,hx⟩ : ∃ x,l[k]?=some x:=⟨_,List.getElem?_eq_getElem hlt⟩
   have hxm:=List.mem_of_getElem? hx
   obtain ⟨hx1,hx2⟩:=hsm x hxm
   have hxo:=heach x hxm
   have hbr:Below w.heap.size w wr:=bthen b1 b1.size hbel
   have fS:=fun W (hW:Below wr.heap.size wr W)=>run_ldvSd (rangeAt_below (hca k x hx) hga (bthen hbr hbr.size hW))
   have fM:=fun W (hW:Below wr.heap.size wr W)=>run_ldvS (hM.below hW hM.lt)
   have hiW:=fun W (hW:Below wr.heap.size wr W)=>SliceAt.of_own (fun e h=>idC_len (hids.out e h)) (own_below hown hW)
   have hmk:=fun W (hW:Below wr.heap.size wr W)=>make1_calls (hD.below hW) ids hids.out (by omega) _ (hiW W hW) x (hxo.below (bthen hbr hbr.size hW)) hx1 hx2
   have hlth:(k:Nat)<l.length:=hlt
   clear hx hca hat heach hsm hxm hxo hiW
   generalize (sdC x).toArray=SC at *
   go_wp2
   refine wp_region_go0 13 (by kernel_rfl) (by kernel_rfl) (by kernel_rfl) (by kernel_rfl) ?_
   simp only [exSp]
   iterate 13 apply Exists.intro
   repeat
    first
     | ((with_reducible apply lx0_ex)
        ·(go_simp;done)
        apply Exists.intro
        apply And.intro
        ·apply Eq.refl
        apply And.intro
        ·intro W hW hD
         have q0:=fM W hW
         have q1:=fS W hW
         go_simp
         rfl
        simp only [Act.put,List.setIfInBounds_toArray,List.set_cons_zero,List.set_cons_succ])
     | ((with_reducible apply lx0_pass)
        ·(first | rfl | (go_simp;done))
        ·apply Eq.refl
        simp only [Act.put,List.setIfInBounds_toArray,List.set_cons_zero,List.set_cons_succ])
     | ((with_reducible refine lx0_new (MkV wr.heap.size) rfl ?_ (MkV_stab _) ?_ ?_)
        ·(go_simp;done)
        ·intro W hW hD
         unfold doesAt Oper.wp execOp
         go_simp
         (with_reducible refine (hmk W hW).mono ?_)
         rintro e w' ⟨⟨o,A1,A2,k1,k2,rfl,h1,h2,h3,h4⟩,hb⟩
         exact ⟨hb,fun F f1 f2 f3=>⟨o,A1,A2,k1,k2,rfl,h1,h2,ownR_new hW.size h3 F f1 f2 f3,ownR_new hW.size h4 F f1 f2 f3⟩⟩
        intro v
        simp only [Act.put,List.setIfInBounds_toArray,List.set_cons_zero,List.set_cons_succ])
     | ((with_reducible refine lx0_new (fun v _ _=>EncV v) rfl ?_ (stab_pure EncV) ?_ ?_)
        ·(go_simp;done)
        ·intro W hW hD
         obtain ⟨F,o,A1,A2,k1,k2,rfl,h1,h2,h3,h4⟩:=hD.at 0 rfl (by kernel_rfl)
         have hc:=refEncode_calls o h1 A1 A2 k1 k2 W ⟨h2,SliceAt.of_own (fun e h=>entC_len (h2.ents e h)) h3.1,SliceAt.of_own (fun e h=>idC_len (h2.pars e h)) h4.1⟩
         unfold doesAt Oper.wp execOp
         go_simp
         (with_reducible refine hc.mono ?_)
         rintro e w' ⟨rfl,hb⟩
         exact ⟨hb,fun _ _ _ _=>encD_V o⟩
        intro v
        simp only [Act.put,List.setIfInBounds_toArray,List.set_cons_zero,List.set_cons_succ])
     | (first | (with_reducible apply lx_move') | (with_reducible apply lx_assign')
        ·apply Eq.refl
        apply Exists.intro
        apply And.intro
        ·(go_simp;rfl)
        simp only [Act.put,List.setIfInBounds_toArray,List.set_cons_zero,List.set_cons_succ])
     | ((with_reducible apply lx_extr')
        ·apply Eq.refl
        apply Exists.intro
        apply And.intro
        ·(go_simp;rfl)
        refine ⟨fun W hW hD=>?_,?_⟩
        ·obtain ⟨F,t,b,rfl,ht⟩:=hD.at 0 rfl (by kernel_rfl)
         exact ⟨_,rfl,by simp⟩
        simp only [Act.put,List.setIfInBounds_toArray,List.set_cons_zero,List.set_cons_succ])
   refine lx0_nil ?_ fun w6 hW6 hD6=>?_
   ·exact List.nodup_nil
   obtain ⟨_,t,b,rfl,htl⟩:=hD6 _ (.head _)
   simp only [extr2_0,extr2_1]
   have b6:=hbel.trans (hW6.mono hbel.size)
   have M6:=hM.below hW6 hM.lt
   have D6:=hD.below hW6
   have own6:=own_below hown hW6
   have sz6:W2.heap.size≤w6.heap.size:=Nat.le_trans hsz2 hW6.size
   clear hD6 hmk fS
   cases b
   ·go_wp2
    go_roundw
    case rel=>exact ⟨k+1,vm,es,ids,by go_num,by omega,by omega,by omega,hids,M6,D6,own6,hap,b6,sz6⟩
    case measure=>simp [intOf];omega
   ·have lM:=run_ldvS M6
    have hwi:=Lib.hid (docWith_calls D6 (by omega) t (by omega))
    have hpl:=putS_len (es.map (·.st)) t
    rw [List.length_map] at hpl
    have hpi:(putI t).length=32:=by
     unfold putI
     split
     ·rfl
     ·exact shaOf_length _
    obtain ⟨pn,hpn⟩ : ∃ pn,putI t=pn:=⟨_,rfl⟩
    obtain ⟨bf,hbf⟩ : ∃ bf,(decO t).isSome=bf:=⟨_,rfl⟩
    obtain ⟨PL,hPL⟩ : ∃ PL,putS (es.map (·.st)) t=PL:=⟨_,rfl⟩
    unfold WithR at hwi
    rw [hpn] at hpi hwi
    rw [hbf,hPL] at hwi
    rw [hPL] at hpl
    have hp32:(u8s pn).size=32:=by rw [u8s_size,hpi]
    have hpo:=u8s_one pn
    have hszI:(Tryz.prog.info? 35).map (·.size)=some (u8s pn).size:=by rw [hp32];exact sz32
    clear hpn hbf hPL
    go_upto_region 9 with (first
     | ((with_reducible refine hwi.out.mono ?_);rintro e w7 ⟨⟨vm7,es7,rfl,D7,hmap,hold, -⟩,b67⟩)
     | (refine wpList_store_row rfl 30 (.tmp 9) (.tmp 35) rfl w7.heap.size #[vm7] rfl rfl _ #[.slice none 0 0] ((Blk.new _ _ _).alloc _) szDSt rfl (by simp [D7.one]) ?_)
     | (refine wpList_store_row rfl 35 (.tmp 10) (.tmp 36) rfl (w7.heap.size+1) (u8s pn) rfl rfl _ (u8s noId) (grow_id _ _ _ _ _ _) hszI (by rw [hp32,hZ32]) hpo ?_))
    obtain ⟨W8,hW8⟩ : ∃ W8,(((w7.alloc (.cells #[.slice none 0 0] 30)).alloc (.cells (u8s noId) 35)).setRow w7.heap.size #[vm7]).setRow (w7.heap.size+1) (u8s pn)=W8:=⟨_,rfl⟩
    have b78:Below w7.heap.size w7 W8:=by
     rw [←hW8]
     exact below_setRow (below_setRow (((Below.refl _ _).alloc (Nat.le_refl _) _).alloc (by rw [size_alloc'];omega) _) (Nat.le_refl _) _) (by omega) _
    have g9:Blk W8 w7.heap.size 30 #[vm7]:=by
     rw [←hW8]
     unfold Blk
     rw [setRow_other _ _ _ _ (by omega)]
     exact setRow_heap _ _ _ _ _ _ ((Blk.new _ _ _).alloc _)
    have g10:Blk W8 (w7.heap.size+1) 35 (u8s pn):=by
     rw [←hW8]
     exact setRow_heap _ _ _ _ _ _ (grow_id _ _ _ _ _ _)
    rw [hW8]
    have b68:Below w6.heap.size w6 W8:=bthen b67 b67.size b78
    have b8:=b6.trans (b68.mono b6.size)
    have M8:=M6.below b68 M6.lt
    have D8:=D7.below b78
    have O8:=D6.below b68
    have own8:=own_below own6 b68
    have sz8:W2.heap.size≤W8.heap.size:=Nat.le_trans sz6 b68.size
    have hel7:es7.length≤es.length+1:=by rw [←hmap,List.length_map] at hpl;exact hpl
    have hap8:=hap.with_ own6 own8 D8 hold
    clear hwi hW8 hmap hold
    cases bf
    ·go_wp2
     go_roundw
     case rel=>exact ⟨k+1,vm,es,ids,by go_num,by omega,by omega,by omega,hids,M8,O8,own8,hap,b8,sz8⟩
     case measure=>simp [intOf];omega
    ·have l9:=run_ldvS g9
     have hno:=D8.blk_ne M8 (by decide) (by decide) (by decide)
     have D9:=D8.row hno #[vm7]
     have own9:=own_row own8 hlt1 #[vm7]
     have hne10:w7.heap.size+1≠W1.heap.size:=by have:=M6.lt;have:=b67.size;omega
     have g109:Blk (W8.setRow W1.heap.size #[vm7]) (w7.heap.size+1) 35 (u8s pn):=keep_row g10 hne10 _
     have l10:=run_ldvI_at (range_blk g109) hpi
     have M9:Blk (W8.setRow W1.heap.size #[vm7]) W1.heap.size 30 #[vm7]:=setRow_heap _ _ _ _ _ _ M8
     have b9:=below_setRow b8 (Nat.le_refl _) #[vm7]
     have sz9:W2.heap.size≤(W8.setRow W1.heap.size #[vm7]).heap.size:=by simpa using sz8
     have hid32:(u8s pn).size=32:=hp32
     have hidl:(u8s pn).size=1*32:=hp32
     have hid1 : ∀ u∈(u8s pn).toList,u.oneCell'=true:=idC_one pn
     have hids2:Hid (∀ z∈ids++[pn],z.length=32):=Lib.hid fun z hz=>by
      rcases List.mem_append.1 hz with hz | hz
      ·exact hids.out z hz
      ·rw [List.mem_singleton.1 hz];exact hpi
     have hrow:Hid (rowsOf idC (ids++[pn])=rowsOf idC ids++(u8s pn).toList):=Lib.hid (by rw [rowsOf_append,rowsOf_one];rfl)
     have hkl:ids.length+1≤9223372036854775807:=by omega
     have hm2:(ids.length+1)*32≤140737488355328:=by omega
     have hone7:(#[vm7]:Array Value).all (·.oneCell')=true:=by simp [D7.one]
     have hdM:=own_blk_ne own9 M9 (by decide)
     have hszS1:(Tryz.prog.info? 30).map (·.size)=some (#[vm7]:Array Value).size:=szDSt
     clear hpi g10 g109 g9 hp32
     generalize u8s pn=XC at *
     go_wp2_with (first
      | (refine wpList_store_row rfl 30 (.tmp 4) (.tmp 39) rfl W1.heap.size #[vm7] rfl rfl _ _ M8 hszS1 rfl hone7 ?_)
      | ((with_reducible refine lit_slice1 (.tmp 41) Tryz.idsTy XC hid32 (by omega) ?_ ?_);rfl)
      | (at_builtin
         (with_reducible refine lit_append_new (.tmp 40) (.tmp 42) 1 _ Tryz.idsTy own9 XC hidl hid1 hkl hm2 sz9 ?_ ?_ ?_);rfl;rfl
         intro v10 w10 hv10 hb10 hg10 hn10
         have b10:=b9.trans (hb10.mono (Nat.le_of_lt hlt1))
         have M10:=Blk.grown M9 hg10 hdM
         have D10:=D9.grown hg10 (fun k hk=>hap8 k hk)
         have hap10:=(Apart.newer hap8 D9 hn10)
         have hap10b:Apart v10 vm7 es7:=hap10
         have sz10:W2.heap.size≤w10.heap.size:=Nat.le_trans sz9 hg10.size
         clear hg10 hn10 hap10))
     go_roundw
     case rel=>exact ⟨k+1,vm7,es7,ids++[pn],by go_num,by omega,by omega,by simp;omega,hids2,M10,D10,by unfold OwnIds;rw [List.length_append,hrow.out];exact hv10,hap10b,b10,sz10⟩
     case measure=>simp [intOf];omega
  ·have hki : ¬ (k:Int)<(l.length:Int):=by omega
   have lM:=run_ldvS hM
   have rr:=r1.below hbel hlt0
   have hno:=hD.blk_ne rr (by decide) (by decide) (by decide)
   have hbr:Below w.heap.size w wr:=bthen b1 b1.size hbel
   have hszS1:(Tryz.prog.info? 30).map (·.size)=some (#[vm]:Array Value).size:=szDSt
   have hone7:(#[vm]:Array Value).all (·.oneCell')=true:=by simp [hD.one]
   clear hat heach hsm
   go_wp2_with (first
    | (refine wpList_store_row rfl 30 (.tmp 2) (.tmp 44) rfl w.heap.size #[vm] rfl rfl _ _ rr hszS1 rfl hone7 ?_))
   refine bodyPost_ret (results_row_tmp rfl _ _ w.heap.size _ _ _ _ rfl (setRow_heap _ _ _ _ _ _ rr) Tryz.underlying30 rfl hszS1) rfl ⟨⟨vm,es,_,ids,rfl,hD.row hno _,by omega,own_down (own_row hown (Nat.lt_trans hlt0 hlt1) _) (Nat.le_of_lt (Nat.lt_trans hlt0 hlt1)),by omega,hids.out,by exact hap⟩,below_setRow hbr (Nat.le_refl _) _⟩
end Go.Proofs.YtfdfoplmijmnaaaGreatDoor
namespace Go.Proofs.YtfdfoplmijmnaaaGreatDoor
open Go.RowKit
theorem StIs.putI {x:StL} (h:StIs x):putI x.text=x.id:=by
 obtain ⟨h1,o,ho⟩:=h
 unfold Go.Proofs.YtfdfoplmijmnaaaGreatDoor.putI
 rw [ho];exact h1.symm
theorem StIs.putC {x:StL} (h:StIs x):putC x.text=0:=by
 obtain ⟨h1,o,ho⟩:=h
 unfold Go.Proofs.YtfdfoplmijmnaaaGreatDoor.putC
 rw [ho]
theorem StIs.putS {x:StL} (h:StIs x) (s:List StL):putS s x.text=if hasK StL.id s x.id then s else insK StL.id s x:=by
 obtain ⟨h1,o,ho⟩:=h
 unfold Go.Proofs.YtfdfoplmijmnaaaGreatDoor.putS
 rw [ho]
 simp only [←h1]
theorem sorted_split {s:List StL} {x:StL} {k:Nat} (h:SortedK StL.id s) (hx:s[k]?=some x):(∀ y∈s.take k,Op.bytesLess y.id x.id=true) ∧ ∀ y∈s.drop (k+1),Op.bytesLess x.id y.id=true:=by
 have hlt:=(List.getElem?_eq_some_iff.1 hx).1
 have e:s=s.take k++x::s.drop (k+1):=by
  rw [←(List.getElem?_eq_some_iff.1 hx).2,←List.drop_eq_getElem_cons hlt,List.take_append_drop]
 unfold SortedK at h
 rw [e,List.pairwise_append] at h
 exact ⟨fun y hy=>h.2.2 y hy x (by simp),fun y hy=>(List.pairwise_cons.1 h.2.1).1 y hy⟩
theorem takeWhile_full {α:Type} {p:α→Bool} : ∀ {l:List α},(∀ y∈l,p y=true)→l.takeWhile p=l
 | [],_=>rfl
 | y::l,h=>by rw [List.takeWhile_cons,if_pos (h y (by simp)),takeWhile_full fun z hz=>h z (by simp [hz])]
/-- Items are put one behind the other, from the first one; from the last one. -/
theorem putS_rise {s:List StL} (h:StoOk s) {k:Nat} {x:StL} (hx:s[k]?=some x):putS (s.take k) x.text=s.take (k+1):=by
 have hl:=(sorted_split h.sorted hx).1
 rw [(h.each x (List.mem_of_getElem? hx)).putS,if_neg,insK,show posK StL.id (s.take k) (StL.id x)=(s.take k).length by unfold posK;rw [takeWhile_full hl],List.take_length,List.drop_length,List.append_nil,List.take_add_one,hx]
 ·rfl
 ·unfold hasK
  rw [Bool.not_eq_true,List.any_eq_false]
  intro y hy
  rw [less_ne (hl y hy)]
  simp
theorem StoOk.take {s:List StL} (h:StoOk s) (k:Nat):StoOk (s.take k):=⟨fun x hx=>h.each x (List.mem_of_mem_take hx),h.sorted.sublist (List.take_sublist _ _),by rw [List.length_take];have:=h.few;omega⟩
end Go.Proofs.YtfdfoplmijmnaaaGreatDoor
namespace Go.Proofs.YtfdfoplmijmnaaaGreatDoor
open Go.RowKit
attribute [local go_sem ↓] ldvI_eq ldvS_eq
def txC (t:Txt):List Value:=[.string (B t)]
/-- Texts that are put, one behind the other. -/
def putL11 (s:List StL) (l:List Txt):List StL:=l.foldl putS s
theorem putL11_more {s:List StL} {l:List Txt} {k:Nat} {t:Txt} (h:l[k]?=some t):putL11 s (l.take (k+1))=putS (putL11 s (l.take k)) t:=by
 unfold putL11
 rw [List.take_add_one,h,List.foldl_append]
 rfl
/-- What a store uses is what another one does, or lies from B on. -/
def UseOr (B:Nat) (vm:Value) (es:List DiL) (vm':Value) (es':List DiL):Prop := ∀ k,DocUse vm' es' k→DocUse vm es k∨B≤k
theorem UseOr.with_ {B:Nat} {vm vm':Value} {es es':List DiL} (h : ∀ e∈es',OldOr B es e) (hv:vm'=vm ∨ ∀ k,vm'.ownBlock=some k→B≤k):UseOr B vm es vm' es':=by
 intro k hk
 rcases hk with hk | ⟨e,he,hk⟩
 ·rcases hv with rfl | hv
  ·exact .inl (.inl hk)
  ·exact .inr (hv k hk)
 ·rcases h e he with h1 | ⟨h1,h2⟩
  ·exact .inl (.inr ⟨e,h1,hk⟩)
  ·rcases hk with hk | hk
   ·exact .inr (h1 k hk)
   ·exact .inr (h2 k hk)
theorem UseOr.trans {B B':Nat} {vm vm' vm2:Value} {es es' es2:List DiL} (h:UseOr B vm es vm' es') (h':UseOr B' vm' es' vm2 es2) (hB:B≤B'):UseOr B vm es vm2 es2:=fun k hk=>by
 rcases h' k hk with h1 | h1
 ·exact h k h1
 ·exact .inr (Nat.le_trans hB h1)
/-- What All tells. -/
def AllR (B:Nat) (vm:Value) (es:List DiL) (L:List StL) (e:Ending) (w':World):Prop := ∃ vm' es',e = .returned (.agg #[vm'])∧DocSt w' vm' es'∧es'.map (·.st)=L∧UseOr B vm es vm' es'
set_option maxRecDepth 100000 in
set_option maxHeartbeats 8000000 in
theorem docAll_calls {w:World} {vm:Value} {es:List DiL} (h:DocSt w vm es) (l:List Txt) (hlt : ∀ t∈l,t.length≤5000) (hn:es.length+l.length<490000) (v:Value) (hv:SliceAt w 1 txC v l) :
 Calls Tryz.prog 18 #[.agg #[vm],v] w fun e w'=>AllR w.heap.size vm es (putL11 (es.map (·.st)) l) e w'∧Below w.heap.size w w':=by
 obtain ⟨W1,hW1⟩ : ∃ W1,w.alloc (.cells #[vm] 30)=W1:=⟨_,rfl⟩
 have s1:Blk W1 w.heap.size 30 #[vm]:=by rw [←hW1];exact Blk.new _ _ _
 have b1:Below w.heap.size w W1:=by rw [←hW1];exact (Below.refl _ _).alloc (Nat.le_refl _) _
 obtain ⟨W2,hW2⟩ : ∃ W2,W1.alloc (.cells #[.slice none 0 0] 30)=W2:=⟨_,rfl⟩
 have r2:Blk W2 W1.heap.size 30 #[.slice none 0 0]:=by rw [←hW2];exact Blk.new _ _ _
 have bb2:Below W1.heap.size W1 W2:=by rw [←hW2];exact (Below.refl _ _).alloc (Nat.le_refl _) _
 have b2:=bthen b1 b1.size bb2
 have s2:=s1.below bb2 s1.lt
 have hle1:w.heap.size≤W1.heap.size:=b1.size
 have hlt1:w.heap.size<W1.heap.size:=s1.lt
 have hD2:=h.below b2
 obtain ⟨L,hL⟩ : ∃ L,putL11 (es.map (·.st)) l=L:=⟨_,rfl⟩
 rw [hL]
 obtain ⟨S0,hS0⟩ : ∃ S0,es.map (·.st)=S0:=⟨_,rfl⟩
 rw [hS0] at hL
 have hel:es.length=S0.length:=by rw [←hS0,List.length_map]
 rw [hel] at hn
 obtain ⟨B1,hB1⟩ : ∃ B1,W1.heap.size=B1:=⟨_,rfl⟩
 rw [hB1] at r2 hle1 hlt1
 have hszS : ∀ vm:Value,(Tryz.prog.info? 30).map (·.size)=some (#[vm]:Array Value).size:=fun vm=>szDSt
 obtain ⟨A,cap,rfl,hcap1,hcap2,hat⟩:=hv
 have hu0:Hid (UseOr w.heap.size vm es vm es):=Lib.hid fun k hk => .inl hk
 obtain ⟨vm0,hvm0⟩ : ∃ v,v=vm:=⟨_,rfl⟩
 obtain ⟨es0,hes0⟩ : ∃ l,l=es:=⟨_,rfl⟩
 rw [show AllR w.heap.size vm es L=AllR w.heap.size vm0 es0 L by rw [hvm0,hes0]]
 rw [show UseOr w.heap.size vm es vm es=UseOr w.heap.size vm0 es0 vm es by rw [hvm0,hes0]] at hu0
 clear hvm0 hes0
 replace hL:=Lib.hid hL
 have hS0':Hid (es.map (·.st)=putL11 S0 (l.take 0)):=Lib.hid (by rw [hS0];rfl)
 clear hel s1 b1 h bb2
 go_enter Tryz.func18,Tryz.ntmps18
 go_wp2_with (fail)
 try rw [hB1]
 go_loopg [5] l.length (fun f vi wr => ∃ (k:Nat) (vm:Value) (es:List DiL),vi = .int .i64 k∧k+f=l.length∧Blk wr w.heap.size 30 #[vm]∧Blk wr B1 30 #[.slice none 0 0]∧DocSt wr vm es∧Hid (es.map (·.st)=putL11 S0 (l.take k))∧es.length≤S0.length+k∧Hid (UseOr w.heap.size vm0 es0 vm es)∧Below w.heap.size w wr)
 case atStart=>exact ⟨0,vm,es,rfl,by omega,s2,r2,hD2,hS0',by rw [←hS0,List.length_map];omega,hu0,b2⟩
 case round=>
  clear s2 r2 hD2 hS0' b2 hS0 hW1 hW2 hu0
  obtain ⟨k,vm,es,rfl,hkf,hs,hr,hD,hm,hlen,hu,hbel⟩:=hrel
  have hbs:=hbel.size
  cases gk with
  | zero=>
    have hki : ¬ (k:Int)<(l.length:Int):=by omega
    have hke:l.take k=l:=List.take_of_length_le (by omega)
    have hm2:Hid (es.map (·.st)=L):=Lib.hid (by rw [hm.out,hke,hL.out])
    have lS:=run_ldvS hs
    have hnoR:=hD.blk_ne hr (by decide) (by decide) (by decide)
    have hone:(#[vm]:Array Value).all (·.oneCell')=true:=by simp [hD.one]
    clear hat hm hke
    go_wp2_with (first
     | (refine wpList_store_row rfl 30 (.tmp 4) (.tmp 22) rfl B1 #[vm] rfl rfl _ _ hr (hszS _) rfl hone ?_))
    refine bodyPost_ret (results_cell_row rfl _ _ B1 _ _ _ _ rfl (setRow_heap _ _ _ _ _ _ hr) Tryz.underlying30 rfl (hszS _)) rfl ⟨⟨vm,es,rfl,hD.row hnoR _,hm2.out,hu.out⟩,below_setRow hbel hle1 _⟩
  | succ f=>
    have hki:(k:Int)<(l.length:Int):=by omega
    have hkl:k<l.length:=by omega
    obtain ⟨ga,oa,rfl,hga,hca⟩:=hat (by omega)
    obtain ⟨t,ht⟩ : ∃ t,l[k]?=some t:=⟨_,List.getElem?_eq_getElem hkl⟩
    have ht5:=hlt t (List.mem_of_getElem? ht)
    have hct:wr.drew.cell? ⟨ga,oa+k,none⟩=some (.string (B t)):=by
     have:=rangeAt_below (hca k t ht) hga (hbel.drew) 0 _ rfl
     rwa [Nat.add_zero,Nat.mul_one] at this
    have hbd:Below wr.heap.size wr wr.drew:=(Below.refl _ _).drew
    have hsd:=hs.below hbd hs.lt
    have hrd:=hr.below hbd hr.lt
    have lS:=run_ldvS hsd
    have hwi:=Lib.hid (docWith_calls (hD.below hbd) (by omega) t ht5)
    have hmore:Hid (putL11 S0 (l.take (k+1))=putS (es.map (·.st)) t):=Lib.hid (by rw [putL11_more ht,hm.out])
    obtain ⟨pi,hpi⟩ : ∃ pi,putI t=pi:=⟨_,rfl⟩
    obtain ⟨bf,hbf⟩ : ∃ bf,(decO t).isSome=bf:=⟨_,rfl⟩
    have hpl:=putS_len (es.map (·.st)) t
    rw [List.length_map] at hpl
    obtain ⟨PL,hPL⟩ : ∃ PL,putS (es.map (·.st)) t=PL:=⟨_,rfl⟩
    unfold WithR at hwi
    rw [hpi,hbf,hPL] at hwi
    rw [hPL] at hmore hpl
    clear hat hca ht hpi hbf hPL hm hs hr hD
    go_upto_region 4 with (fail)
    go_region_with (first
     | (go_at_call 39;go_must (refine hwi.out.mono ?_);rintro e w7 ⟨⟨vm7,es7,rfl,D7,hmap,hold,hvold⟩,b67⟩
        have hu7:=Lib.hid (hu.out.trans (UseOr.with_ hold hvold) hbs)
        clear hold hvold
        obtain ⟨A7,c7,rfl⟩:=own_form' D7.own
        have hs7:=hsd.below b67 hsd.lt
        have q7:=hs7.cell 0
        have f7:=hs7.frozen 0))
    all_goals
     have b07:=bthen hbel hbs (bthen hbd hbd.size b67)
     have hr7:=hrd.below b67 hrd.lt
     have hnoS:=D7.blk_ne hs7 (by decide) (by decide) (by decide)
     have hs8:=hs7.set_ 0 (.slice A7 es7.length c7)
     have hr8:Blk (w7.setCell ⟨w.heap.size,0,none⟩ (.slice A7 es7.length c7)) B1 30 #[.slice none 0 0]:=(Below.heap_setCell _ _ _ _ (fun e=>by have:B1=w.heap.size:=e;omega)).trans hr7
     have D8:DocSt (w7.setCell ⟨w.heap.size,0,none⟩ (.slice A7 es7.length c7)) (.slice A7 es7.length c7) es7:=D7.same fun k hk=>Below.heap_setCell _ _ _ _ fun e=>hnoS (by have e2:k=w.heap.size:=e;rw [←e2];exact hk)
     have b08:Below w.heap.size w (w7.setCell ⟨w.heap.size,0,none⟩ (.slice A7 es7.length c7)):=below_setCells [.slice A7 es7.length c7] 0 w w7 b07 (Nat.le_refl _)
     have hm8:=Lib.hid (hmap.trans hmore.out.symm)
     have hl8:es7.length≤S0.length+(k+1):=by rw [←hmap,List.length_map] at hpl;omega
     clear hmap hmore hpl hu
     go_wp2_with (fail)
     go_roundg f
     case rel=>exact ⟨k+1,_,es7,by go_num,by omega,hs8,hr8,D8,hm8,hl8,hu7,b08⟩
     case measure=>omega
end Go.Proofs.YtfdfoplmijmnaaaGreatDoor
namespace Go.Proofs.YtfdfoplmijmnaaaGreatDoor
open Go.RowKit
theorem TabK.alloc_ {w:World} (h:TabK w) (o:Obj):TabK (w.alloc o):=h.below ((Below.refl _ _).alloc (Nat.le_refl _) o)
set_option maxRecDepth 100000 in
set_option maxHeartbeats 2000000 in
theorem objId_calls (s:Txt) (hs:s.length≤1000000000) (w:World) (hK:TabK w):Calls Tryz.prog 65 #[.string (B s)] w fun e w'=>e = .returned (.agg (u8s (shaOf s)))∧Below w.heap.size w w':=by
 have hzv:=zeroIdV
 have hzl:(u8s noId).size=32:=by rw [u8s_size,noId_len]
 generalize u8s noId=Z at *
 obtain ⟨W1,hW1⟩ : ∃ W1,w.alloc (.cells Z 35)=W1:=⟨_,rfl⟩
 have hx1:Blk W1 w.heap.size 35 Z:=by rw [←hW1];exact Blk.new _ _ _
 have b1:Below w.heap.size w W1:=by rw [←hW1];exact (Below.refl _ _).alloc (Nat.le_refl _) _
 obtain ⟨W2,hW2⟩ : ∃ W2,W1.alloc (.cells #[.string (B s)] 9)=W2:=⟨_,rfl⟩
 have hb2:Below W1.heap.size W1 W2:=by rw [←hW2];exact (Below.refl _ _).alloc (Nat.le_refl _) _
 have hy2:Blk W2 W1.heap.size 9 #[.string (B s)]:=by rw [←hW2];exact Blk.new _ _ _
 have hx2:=hx1.below hb2 hx1.lt
 have b2:=bthen b1 b1.size hb2
 have hK2:TabK W2:=by rw [←hW2,←hW1];exact (hK.alloc_ _).alloc_ _
 have hst:Strs W2 (.slice (some ⟨W1.heap.size,0,none⟩) 1 1) [s] := .inr ⟨W1.heap.size,0,1,rfl,fun j l hj=>by
  match j,hj with
  | 0,hj=>
    injection hj with hj
    subst hj
    rw [hy2.cell];rfl
  | j+1,hj=>simp at hj,hy2.lt,by simp,by simp⟩
 have hsum:=sum_calls [s] _ W2 hK2 hst (by simp;omega)
 have hfl:[s].flatten=s:=by simp
 rw [hfl] at hsum
 have hsum:=Lib.hid hsum
 have hl:=shaOf_length s
 have hsz:(Tryz.prog.info? 35).map (·.size)=some (u8s (shaOf s)).size:=by rw [u8s_size,hl];exact sz32
 have h32:(u8s (shaOf s)).size=32:=by rw [u8s_size,hl]
 have hone:=u8s_one (shaOf s)
 obtain ⟨D,hD⟩ : ∃ D,Hid (u8s (shaOf s)=D):=⟨_,Lib.hid rfl⟩
 rw [hD.out] at hsum hsz h32 hone
 clear hy2 hK2 hst hfl hl hx1 b1 hb2
 go_enter Tryz.func65,Tryz.ntmps65
 go_wp2_with (first
  | ((with_reducible refine hsum.out.mono ?_);rintro e w3 ⟨rfl,hb3⟩
     have hx3:=hx2.below hb3 hx2.lt
     have b3:=bthen b2 b2.size hb3
     clear hsum hW1 hW2)
  | (refine wpList_store_row rfl 35 (.tmp 2) (.tmp 5) rfl w.heap.size D rfl rfl _ _ hx3 hsz (by rw [hzl,h32]) hone ?_))
 exact bodyPost_ret (results_cell_row rfl _ _ w.heap.size _ _ _ _ rfl (setRow_heap _ _ _ _ _ _ hx3) Tryz.underlying35 rfl hsz) rfl ⟨by rw [hD.out],below_setRow b3 (Nat.le_refl _) _⟩
end Go.Proofs.YtfdfoplmijmnaaaGreatDoor
namespace Go.Proofs.YtfdfoplmijmnaaaGreatDoor
open Go.RowKit
attribute [local go_sem ↓] ldvI_eq ldvO_eq
/-- What Put leaves. -/
def PutAt (w:World) (base p:Nat) (vl:Value) (s':List StL) (w':World):Prop := ∃ vl',StoAt w' base p vl' s'∧Far [some p,vl.ownBlock] w w'∧Newer w vl vl'
set_option maxRecDepth 100000 in
set_option maxHeartbeats 8000000 in
theorem stoPut_calls {w:World} {base p:Nat} {vl:Value} {s:List StL} (hB:base≤w.heap.size) (h:StoAt w base p vl s) (t:Txt) (ht:t.length≤1000000) (hK:TabK w) (hf:s.length<500000) :
 Calls Tryz.prog 42 #[.pointer (some ⟨p,0,none⟩), .string (B t)] w fun e w'=>e = .returned (.tuple #[.agg (u8s (putI t)), .int .i64 (putC t)])∧PutAt w base p vl (putS s t) w':=by
 have hzI:=zeroIdV
 have hrb:=fun W=>run_build (P:=Tryz.prog) W _ _ _ built_zId
 have hZ32:(u8s noId).size=32:=by rw [u8s_size,noId_len]
 have hZone:=u8s_one noId
 obtain ⟨W0,hW0⟩ : ∃ W0,w.alloc (.cells (u8s noId) 35)=W0:=⟨_,rfl⟩
 have z0:Blk W0 w.heap.size 35 (u8s noId):=by rw [←hW0];exact Blk.new _ _ _
 have b0:Below w.heap.size w W0:=by rw [←hW0];exact (Below.refl _ _).alloc (Nat.le_refl _) _
 have hsz : ∀ cs:Array Value,cs.size=32→(Tryz.prog.info? 35).map (·.size)=some cs.size:=fun cs h=>by rw [h];exact sz32
 have hde:=Lib.hid (decode_calls t (by omega) W0)
 have hzo:=zeroObj
 have hz72:=zObj_size
 have hplw:=h.lt
 have hD:=Lib.hid h
 have hn0:(List.replicate 32 (0:UInt8))=noId:=rfl
 cases hd:decO t with
 | none=>
   have hpi:putI t=noId:=by unfold putI;rw [hd];exact hn0
   have hpc:putC t=2:=by unfold putC;rw [hd]
   have hps:putS s t=s:=by unfold putS;rw [hd]
   rw [hpi,hpc,hps]
   rw [hd] at hde
   have hde:Hid (Calls Tryz.prog 64 #[.string (B t)] W0 fun e w'=>e = .returned (.tuple #[.agg zObj, .int .i64 2])∧Below W0.heap.size W0 w'):=hde
   have hzone:zObj.all (·.oneCell')=true:=objC_all zeroO none none 0 0 0 0
   generalize u8s noId=Z at *
   generalize zObj=ZO at *
   clear hd hpi hpc hps hn0
   go_enter Tryz.func42,Tryz.ntmps42
   go_wp2_with (first
    | ((with_reducible refine hde.out.mono ?_);rintro e w1 ⟨rfl,bb1⟩
       have b1:=bthen b0 b0.size bb1
       have z1:=z0.below bb1 z0.lt)
    | ((with_reducible refine lit_new 70 (.tmp 6) (.tmp 17) ZO 72 szObj hz72 hzone _ ?_ ?_ ?_ ?_)
       ·first | exact hz72 | rfl
       ·rfl
       ·rfl
       intro W2 hb2 hbl2
       have b2:=bthen b1 b1.size hbl2
       have z2:=z1.below hbl2 z1.lt)
    | (refine wpList_store_row rfl 35 (.tmp 4) (.tmp 21) rfl w.heap.size Z rfl rfl _ _ z2 (hsz Z hZ32) rfl hZone ?_))
   refine bodyPost_ret (results_row_tmp rfl _ _ w.heap.size _ _ _ _ rfl (setRow_heap _ _ _ _ _ _ z2) Tryz.underlying35 rfl (hsz Z hZ32)) rfl ⟨rfl,?_⟩
   have hb:=below_setRow b2 (Nat.le_refl _) Z
   exact ⟨vl,hD.out.below hb,Far.of_below hb,Newer.refl _ _⟩
 | some o=>
   have hpi:putI t=shaOf t:=by unfold putI;rw [hd]
   have hpc:putC t=0:=by unfold putC;rw [hd]
   have hps:putS s t=if hasK StL.id s (shaOf t) then s else insK StL.id s ⟨shaOf t,t⟩:=by unfold putS;rw [hd]
   have hokP:=h.ok.put t hf
   rw [hpi,hpc]
   rw [hps] at hokP ⊢
   rw [hd] at hde
   have hde:Hid (Calls Tryz.prog 64 #[.string (B t)] W0 fun e w'=>(∃ A1 A2 k1 k2,e = .returned (.tuple #[.agg (objC o (.slice A1 o.ents.length k1) (.slice A2 o.pars.length k2)).toArray, .int .i64 0])∧ObjV w' (.slice A1 o.ents.length k1) (.slice A2 o.pars.length k2) o)∧Below W0.heap.size W0 w'):=Lib.hid (hde.out.mono fun e w' ⟨⟨A1,A2,k1,k2,h1,h2,_⟩,hb⟩=>⟨⟨A1,A2,k1,k2,h1,h2⟩,hb⟩)
   have hid:=fun W (hb:Below w.heap.size w W)=>objId_calls t (by omega) W (hK.below hb)
   have hn32:=shaOf_length t
   have hxok:StitOk ⟨shaOf t,t⟩:=⟨hn32,by show t.length≤_;omega⟩
   obtain ⟨n,hn⟩ : ∃ n,shaOf t=n:=⟨_,rfl⟩
   rw [hn] at hid hn32 hxok hokP ⊢
   have hN32:(u8s n).size=32:=by rw [u8s_size,hn32]
   have hNone:=u8s_one n
   have hsI:(Tryz.prog.info? 35).map (·.size)=some (u8s n).toList.length:=by rw [u8s_lenS,hn32];exact sz32
   have hldn : ∀ W g,Blk W g 35 (u8s n)→(ldvI ⟨g,0,none⟩).run Tryz.prog W = .ok (.agg (u8s n)) W:=fun W g hb=>by
    have:=run_loadVar_mid (P:=Tryz.prog) W g 0 35 (u8s n).toList _ (range_blk hb) Tryz.underlying35 rfl hsI
    rwa [Array.toArray_toList] at this
   have hpl:=fun W (hb:Below w.heap.size w W)=>stoPlace_calls (hD.out.below hb) n hn32
   have hPle:posK StL.id s n≤s.length:=posK_le
   have hZ32':(u8s noId).size=(u8s n).size:=by rw [hZ32,hN32]
   clear hd hpi hpc hps hn0 hn
   cases hh:hasK StL.id s n with
   | true=>
     rw [hh] at hpl hokP
     simp only [if_true] at hokP ⊢
     generalize posK StL.id s n=P at *
     go_enter Tryz.func42,Tryz.ntmps42
     go_wp2_with (first
      | ((with_reducible refine hde.out.mono ?_);rintro e w1 ⟨⟨A1,A2,k1,k2,rfl,hv1⟩,bb1⟩
         have b1:=bthen b0 b0.size bb1
         have z1:=z0.below bb1 z0.lt
         have hc72:(objC o (.slice A1 o.ents.length k1) (.slice A2 o.pars.length k2)).toArray.size=72:=by rw [List.size_toArray,objC_len hv1.ok]
         have hcone:=objC_all o A1 A2 o.ents.length k1 o.pars.length k2)
      | ((with_reducible refine lit_new 70 (.tmp 6) (.tmp 17) (objC o (.slice A1 o.ents.length k1) (.slice A2 o.pars.length k2)).toArray 72 szObj hc72 hcone _ ?_ ?_ ?_ ?_)
         ·first | exact hz72 | rfl
         ·rfl
         ·rfl
         intro W2 hb2 hbl2
         have b2:=bthen b1 b1.size hbl2
         have z2:=z1.below hbl2 z1.lt)
      | ((with_reducible refine (hid _ b2).mono ?_);rintro e w3 ⟨rfl,bb3⟩
         have b3:=bthen b2 b2.size bb3
         have z3:=z2.below bb3 z2.lt)
      | ((with_reducible refine lit_new 35 (.tmp 8) (.tmp 23) (u8s n) 32 sz32 hN32 hNone _ ?_ ?_ ?_ ?_)
         ·first | exact hZ32 | rfl
         ·rfl
         ·rfl
         intro W4 hb4 hbl4
         have b4:=bthen b3 b3.size hbl4
         have z4:=z3.below hbl4 z3.lt
         have ld4:=hldn _ _ hb4)
      | ((with_reducible refine (hpl _ b4).mono ?_);rintro e w5 ⟨rfl,bb5⟩
         have b5:=bthen b4 b4.size bb5
         have z5:=z4.below bb5 z4.lt
         have ld5:=hldn _ _ (hb4.below bb5 hb4.lt))
      | (refine wpList_store_row rfl 35 (.tmp 4) (.tmp 45) rfl w.heap.size (u8s n) rfl rfl _ _ z5 (hsz _ hN32) hZ32' hNone ?_))
     refine bodyPost_ret (results_row_tmp rfl _ _ w.heap.size _ _ _ _ rfl (setRow_heap _ _ _ _ _ _ z5) Tryz.underlying35 rfl (hsz _ hN32)) rfl ⟨rfl,?_⟩
     have hb:=below_setRow b5 (Nat.le_refl _) (u8s n)
     exact ⟨vl,hD.out.below hb,Far.of_below hb,Newer.refl _ _⟩
   | false=>
     rw [hh] at hpl hokP
     simp only [Bool.false_eq_true,if_false] at hokP ⊢
     unfold insK at hokP ⊢
     simp only at hokP ⊢
     generalize posK StL.id s n=P at *
     obtain ⟨s',hs'⟩ : ∃ s',s.take P++[(⟨n,t⟩:StL)]++s.drop P=s':=⟨_,rfl⟩
     rw [hs'] at hokP ⊢
     have HS:=Lib.hid hs'
     clear hs'
     go_enter Tryz.func42,Tryz.ntmps42
     go_upto_region 9 with (first
      | ((with_reducible refine hde.out.mono ?_);rintro e w1 ⟨⟨A1,A2,k1,k2,rfl,hv1⟩,bb1⟩
         have b1:=bthen b0 b0.size bb1
         have z1:=z0.below bb1 z0.lt
         have hc72:(objC o (.slice A1 o.ents.length k1) (.slice A2 o.pars.length k2)).toArray.size=72:=by rw [List.size_toArray,objC_len hv1.ok]
         have hcone:=objC_all o A1 A2 o.ents.length k1 o.pars.length k2)
      | ((with_reducible refine lit_new 70 (.tmp 6) (.tmp 17) (objC o (.slice A1 o.ents.length k1) (.slice A2 o.pars.length k2)).toArray 72 szObj hc72 hcone _ ?_ ?_ ?_ ?_)
         ·first | exact hz72 | rfl
         ·rfl
         ·rfl
         intro W2 hb2 hbl2
         have b2:=bthen b1 b1.size hbl2
         have z2:=z1.below hbl2 z1.lt)
      | ((with_reducible refine (hid _ b2).mono ?_);rintro e w3 ⟨rfl,bb3⟩
         have b3:=bthen b2 b2.size bb3
         have z3:=z2.below bb3 z2.lt)
      | ((with_reducible refine lit_new 35 (.tmp 8) (.tmp 23) (u8s n) 32 sz32 hN32 hNone _ ?_ ?_ ?_ ?_)
         ·first | exact hZ32 | rfl
         ·rfl
         ·rfl
         intro W4 hb4 hbl4
         have b4:=bthen b3 b3.size hbl4
         have z4:=z3.below hbl4 z3.lt
         have hgI:w.heap.size≤w3.heap.size:=b3.size
         have ld4:=hldn _ _ hb4)
      | ((with_reducible refine (hpl _ b4).mono ?_);rintro e w0 ⟨rfl,bb5⟩
         have b5:=bthen b4 b4.size bb5
         have z5:=z4.below bb5 z4.lt
         have hI5:=hb4.below bb5 hb4.lt))
     have hgI0:=z3.lt
     obtain ⟨gI,hgIe⟩ : ∃ gI,w3.heap.size=gI:=⟨_,rfl⟩
     rw [hgIe] at hI5 hgI0 ⊢
     have hD0:=hD.out.below b5
     have hplw2:p<w.heap.size:=hplw
     have hlv0 : ∀ q,vl.ownBlock=some q→q<w.heap.size:=fun q hq=>(World.ownsRow.lt hD.out.own q hq).2
     have hok:=hD.out.ok
     have hB:base≤w0.heap.size:=Nat.le_trans hB b5.size
     replace hD:=Lib.hid hD0
     have hlv : ∀ q,vl.ownBlock=some q→q<w0.heap.size:=fun q hq=>(World.ownsRow.lt hD.out.own q hq).2
     have hPl:=hPle
     have ldn:=fun W (hW:Below w0.heap.size w0 W)=>hldn W gI (hI5.below hW hI5.lt)
     clear hde hid hpl b0 b1 b2 b3 b4 z0 z1 z2 z3 z4 ld4 bb1 bb3 bb5 hv1 hc72 hcone hb2 hbl2 hb4 hbl4 hW0 hD0 hgIe hplw hPle hh hK
     obtain ⟨V,hV⟩ : ∃ V:Nat→Value,V=fun i=>[(.pointer (some ⟨p,0,none⟩)),(.pointer (some ⟨p,0,none⟩)),(.pointer (some ⟨p,0,none⟩)),(.pointer (some ⟨p,0,none⟩)),vl,(.int .i64 P),(.agg (u8s n)),(.string (B t)),(.agg (stitC ⟨n,t⟩).toArray),undef,undef,(.pointer (some ⟨p,0,none⟩)),(.pointer (some ⟨p,0,none⟩)),undef].getD i undef:=⟨_,rfl⟩
     have v0:V 0=(.pointer (some ⟨p,0,none⟩)):=by rw [hV];rfl
     have v1:V 1=(.pointer (some ⟨p,0,none⟩)):=by rw [hV];rfl
     have v2:V 2=(.pointer (some ⟨p,0,none⟩)):=by rw [hV];rfl
     have v3:V 3=(.pointer (some ⟨p,0,none⟩)):=by rw [hV];rfl
     have v4:V 4=vl:=by rw [hV];rfl
     have v5:V 5=(.int .i64 P):=by rw [hV];rfl
     have v6:V 6=(.agg (u8s n)):=by rw [hV];rfl
     have v7:V 7=(.string (B t)):=by rw [hV];rfl
     have v8:V 8=(.agg (stitC ⟨n,t⟩).toArray):=by rw [hV];rfl
     have v11:V 11=(.pointer (some ⟨p,0,none⟩)):=by rw [hV];rfl
     have v12:V 12=(.pointer (some ⟨p,0,none⟩)):=by rw [hV];rfl
     have v13:V 13=undef:=by rw [hV];rfl
     clear hV
     refine wp_region_listed (C:=StPutC w0 base p vl s') (R:=StPutR V w0 base vl ⟨n,t⟩ s') (by kernel_rfl) (by kernel_rfl) (by kernel_rfl) ?_ (StPutC.start w0).drew ?_ ?_
     ·exact sizes_spec (n:=46) (by kernel_rfl)
     ·intro i o listed a w1 ho hi hL
      have hin:=(ready_spec hi).1
      have hsz:listed.size=14:=hL.size
      match i,ho with
      | 0,ho=>
        obtain rfl:=(Option.some.inj ho).symm
        have e0:a.tmps[0]?.getD undef=(.pointer (some ⟨p,0,none⟩)):=(slot_eval a 0).trans (hL.get_old hi (by kernel_rfl))
        have hc:=hL.cls
        refine step_wp rfl rfl ?_
        clear ho hL
        refine wp_val (v:=(.pointer (some ⟨p,0,none⟩))) ?_ ⟨_,rfl,StPutR.mk (by decide) v0.symm,hc.same (by rw [hsz];decide) (by decide),fun _ _ _ h=>h⟩
        clear hi hin hsz v0 v1 v2 v3 v4 v5 v6 v7 v8 v11 v12 v13  hc
        unfold execOp
        go_simp
      | 1,ho=>
        obtain rfl:=(Option.some.inj ho).symm
        have e0:a.tmps[0]?.getD undef=(.pointer (some ⟨p,0,none⟩)):=(slot_eval a 0).trans (hL.get_old hi (by kernel_rfl))
        have hc:=hL.cls
        refine step_wp rfl rfl ?_
        clear ho hL
        refine wp_val (v:=(.pointer (some ⟨p,0,none⟩))) ?_ ⟨_,rfl,StPutR.mk (by decide) v1.symm,hc.same (by rw [hsz];decide) (by decide),fun _ _ _ h=>h⟩
        clear hi hin hsz v0 v1 v2 v3 v4 v5 v6 v7 v8 v11 v12 v13  hc
        unfold execOp
        go_simp
      | 2,ho=>
        obtain rfl:=(Option.some.inj ho).symm
        have e0:a.tmps[33]?.getD undef=(.pointer (some ⟨p,0,none⟩)):=(slot_eval a 33).trans ((StPutR.at_ (hi:=by decide) (hL.get_new (j:=1) hi (by kernel_rfl))).trans v1)
        have hc:=hL.cls
        refine step_wp rfl rfl ?_
        clear ho hL
        refine wp_val (v:=(.pointer (some ⟨p,0,none⟩))) ?_ ⟨_,rfl,StPutR.mk (by decide) v2.symm,hc.same (by rw [hsz];decide) (by decide),fun _ _ _ h=>h⟩
        clear hi hin hsz v0 v1 v2 v3 v4 v5 v6 v7 v8 v11 v12 v13  hc
        unfold execOp
        go_simp
      | 3,ho=>
        obtain rfl:=(Option.some.inj ho).symm
        have e0:a.tmps[34]?.getD undef=(.pointer (some ⟨p,0,none⟩)):=(slot_eval a 34).trans ((StPutR.at_ (hi:=by decide) (hL.get_new (j:=2) hi (by kernel_rfl))).trans v2)
        have hc:=hL.cls
        refine step_wp rfl rfl ?_
        clear ho hL
        refine wp_val (v:=(.pointer (some ⟨p,0,none⟩))) ?_ ⟨_,rfl,StPutR.mk (by decide) v3.symm,hc.same (by rw [hsz];decide) (by decide),fun _ _ _ h=>h⟩
        clear hi hin hsz v0 v1 v2 v3 v4 v5 v6 v7 v8 v11 v12 v13  hc
        unfold execOp
        go_simp
      | 4,ho=>
        obtain rfl:=(Option.some.inj ho).symm
        have e0:a.tmps[35]?.getD undef=(.pointer (some ⟨p,0,none⟩)):=(slot_eval a 35).trans ((StPutR.at_ (hi:=by decide) (hL.get_new (j:=3) hi (by kernel_rfl))).trans v3)
        have hc:=hL.cls
        refine step_wp rfl rfl ?_
        have hL4:=hL.later (j:=10) hi (by kernel_rfl)
        clear ho hL
        refine wp_val (v:=vl) ?_ ⟨_,rfl,StPutR.mk (by decide) v4.symm,hc.same (by rw [hsz];decide) (by decide),fun _ _ _ h=>h⟩
        have hb0:=hc.a_ (hL4)
        have q:=(hD.out.below hb0).c0
        clear hi hin hsz v0 v1 v2 v3 v4 v5 v6 v7 v8 v11 v12 v13  hc
        unfold execOp
        go_simp
      | 5,ho=>
        obtain rfl:=(Option.some.inj ho).symm
        have e0:a.tmps[9]?.getD undef=(.int .i64 P):=(slot_eval a 9).trans (hL.get_old hi (by kernel_rfl))
        have hc:=hL.cls
        refine step_wp rfl rfl ?_
        clear ho hL
        refine wp_val (v:=(.int .i64 P)) ?_ ⟨_,rfl,StPutR.mk (by decide) v5.symm,hc.same (by rw [hsz];decide) (by decide),fun _ _ _ h=>h⟩
        clear hi hin hsz v0 v1 v2 v3 v4 v5 v6 v7 v8 v11 v12 v13  hc
        unfold execOp
        go_simp
      | 6,ho=>
        obtain rfl:=(Option.some.inj ho).symm
        have e0:a.tmps[8]?.getD undef=(.pointer (some ⟨gI,0,none⟩)):=(slot_eval a 8).trans (hL.get_old hi (by kernel_rfl))
        have hc:=hL.cls
        refine step_wp rfl rfl ?_
        have hL8:=hL.later (j:=8) hi (by kernel_rfl)
        have hL9:listed.getD 9 false=false:=hL.later2 hL8 (by kernel_rfl)
        have hL6:listed.getD 10 false=false:=hL.later2 hL9 (by kernel_rfl)
        clear ho hL
        refine wp_val (v:=(.agg (u8s n))) ?_ ⟨_,rfl,StPutR.mk (by decide) v6.symm,hc.same (by rw [hsz];decide) (by decide),fun _ _ _ h=>h⟩
        have hb0:=hc.a_ (hL6)
        have q:=ldn w1 hb0
        clear hi hin hsz v0 v1 v2 v3 v4 v5 v6 v7 v8 v11 v12 v13  hc
        unfold execOp
        go_simp
      | 7,ho=>
        obtain rfl:=(Option.some.inj ho).symm
        have e0:a.tmps[1]?.getD undef=(.string (B t)):=(slot_eval a 1).trans (hL.get_old hi (by kernel_rfl))
        have hc:=hL.cls
        refine step_wp rfl rfl ?_
        clear ho hL
        refine wp_val (v:=(.string (B t))) ?_ ⟨_,rfl,StPutR.mk (by decide) v7.symm,hc.same (by rw [hsz];decide) (by decide),fun _ _ _ h=>h⟩
        clear hi hin hsz v0 v1 v2 v3 v4 v5 v6 v7 v8 v11 v12 v13  hc
        unfold execOp
        go_simp
      | 8,ho=>
        obtain rfl:=(Option.some.inj ho).symm
        have e0:a.tmps[38]?.getD undef=(.agg (u8s n)):=(slot_eval a 38).trans ((StPutR.at_ (hi:=by decide) (hL.get_new (j:=6) hi (by kernel_rfl))).trans v6)
        have e1:a.tmps[39]?.getD undef=(.string (B t)):=(slot_eval a 39).trans ((StPutR.at_ (hi:=by decide) (hL.get_new (j:=7) hi (by kernel_rfl))).trans v7)
        have hc:=hL.cls
        refine step_wp rfl rfl ?_
        clear ho hL
        refine build_step rfl (built_stit ⟨n,t⟩ hxok.1) (parts2 (slot_is e0) (slot_is e1)) ⟨_,rfl,StPutR.mk (by decide) v8.symm,hc.same (by rw [hsz];decide) (by decide),fun _ _ _ h=>h⟩
      | 9,ho=>
        obtain rfl:=(Option.some.inj ho).symm
        have e0:a.tmps[40]?.getD undef=(.agg (stitC ⟨n,t⟩).toArray):=(slot_eval a 40).trans ((StPutR.at_ (hi:=by decide) (hL.get_new (j:=8) hi (by kernel_rfl))).trans v8)
        have hc:=hL.cls
        have hla:=hL.later (j:=10) hi (by kernel_rfl)
        have hb0:=hc.a_ hla
        clear ho hL
        refine step_wp rfl rfl ?_
        refine slice_step rfl Tryz.stitTy (by decide) (stitC_len hxok) (.inl (slot_is e0)) ⟨_,rfl,StPutR.lit (Blk.new _ _ _) hb0.size,?_,fun j u _ h=>StPutR.far (S:=[]) h (Far.of_below ((Below.refl _ _).alloc (Nat.le_refl _) _)) (fun _ _ _=>by simp) (fun _ _ _=>by simp)⟩
        refine StPutC.same ⟨fun _=>hb0.alloc hb0.size _,fun e=>?_,fun e=>?_,?_⟩ (by rw [hsz];decide) (by decide)
        ·rw [hla] at e;cases e
        ·obtain ⟨v',h1,h2,h3,h4⟩:=hc.c_ e
         exact ⟨v',h1.alloc _,World.ownsRow.alloc h2 _,h3,h4.alloc _⟩
        ·exact Nat.le_trans hc.sz (by simp)
      | 10,ho=>
        obtain rfl:=(Option.some.inj ho).symm
        have e0:a.tmps[36]?.getD undef=vl:=(slot_eval a 36).trans ((StPutR.at_ (hi:=by decide) (hL.get_new (j:=4) hi (by kernel_rfl))).trans v4)
        have e1:a.tmps[37]?.getD undef=(.int .i64 P):=(slot_eval a 37).trans ((StPutR.at_ (hi:=by decide) (hL.get_new (j:=5) hi (by kernel_rfl))).trans v5)
        have e2:=hL.get_new (j:=9) (t:=41) hi (by kernel_rfl)
        have hc:=hL.cls
        have hla:listed.getD 10 false=false:=by rw [getD_of_size (by rw [hsz];exact hin)];exact (ready_spec hi).2.1
        have hlb:=hL.later (j:=13) hi (by kernel_rfl)
        have hb0:=hc.a_ hla
        obtain ⟨b,h5,hb5,hge5⟩:=StPutR.litAt e2
        clear ho hL
        refine step_wp rfl rfl ?_
        have hins:=insertStits_calls s hok.ok (by have:=hok.few;omega) vl w1 base P b ⟨n,t⟩ hxok (Nat.le_trans hB hc.sz) (own_below hD.out.own hb0) hPl hb5 (fun e=>by have:=hlv _ e;omega)
        refine call_step rfl (vals := #[vl, .int .i64 P, .slice (some ⟨b,0,none⟩) 1 1]) (map3 (slot_is e0) (slot_is e1) h5) (by go_simp) hins ?_
        rintro e w2 ⟨v',rfl,hown2,hg2,hnw2⟩
        rw [HS.out] at hown2
        have hf2:Far [vl.ownBlock] w1 w2:=Far.of_grown hg2
        refine ⟨_,rfl,_,rfl,StPutR.ins hown2 ((Newer.refl w0 vl).then_ hnw2 hc.sz),?_,fun j u hj h=>StPutR.far h hf2 (fun q hq _ hm=>?_) (fun hj10 k hk hm=>?_)⟩
        ·refine ⟨fun e=>?_,fun _ _=>(Far.of_below hb0).then_ hf2 (fun k hk => .inl hk),fun e=>?_,Nat.le_trans hc.sz hf2.size⟩
         ·rw [getD_set (by rw [hsz];decide),if_pos rfl] at e;cases e
         ·rw [getD_set (by rw [hsz];decide),if_neg (by decide),hlb] at e;cases e
        ·simp only [List.mem_singleton] at hm
         have:=hlv q hm.symm
         omega
        ·subst hj10
         rw [hla] at hj;cases hj
      | 11,ho=>
        obtain rfl:=(Option.some.inj ho).symm
        have e0:a.tmps[32]?.getD undef=(.pointer (some ⟨p,0,none⟩)):=(slot_eval a 32).trans ((StPutR.at_ (hi:=by decide) (hL.get_new (j:=0) hi (by kernel_rfl))).trans v0)
        have hc:=hL.cls
        refine step_wp rfl rfl ?_
        clear ho hL
        refine wp_val (v:=(.pointer (some ⟨p,0,none⟩))) ?_ ⟨_,rfl,StPutR.mk (by decide) v11.symm,hc.same (by rw [hsz];decide) (by decide),fun _ _ _ h=>h⟩
        clear hi hin hsz v0 v1 v2 v3 v4 v5 v6 v7 v8 v11 v12 v13  hc
        unfold execOp
        go_simp
      | 12,ho=>
        obtain rfl:=(Option.some.inj ho).symm
        have e0:a.tmps[43]?.getD undef=(.pointer (some ⟨p,0,none⟩)):=(slot_eval a 43).trans ((StPutR.at_ (hi:=by decide) (hL.get_new (j:=11) hi (by kernel_rfl))).trans v11)
        have hc:=hL.cls
        refine step_wp rfl rfl ?_
        clear ho hL
        refine wp_val (v:=(.pointer (some ⟨p,0,none⟩))) ?_ ⟨_,rfl,StPutR.mk (by decide) v12.symm,hc.same (by rw [hsz];decide) (by decide),fun _ _ _ h=>h⟩
        clear hi hin hsz v0 v1 v2 v3 v4 v5 v6 v7 v8 v11 v12 v13  hc
        unfold execOp
        go_simp
      | 13,ho=>
        obtain rfl:=(Option.some.inj ho).symm
        have e0:a.tmps[44]?.getD undef=(.pointer (some ⟨p,0,none⟩)):=(slot_eval a 44).trans ((StPutR.at_ (hi:=by decide) (hL.get_new (j:=12) hi (by kernel_rfl))).trans v12)
        have e1:=hL.get_new (j:=10) (t:=42) hi (by kernel_rfl)
        have hc:=hL.cls
        have hla:listed.getD 10 false=true:=hL.before hi (by kernel_rfl)
        have hls:listed.getD 13 false=false:=(getD_of_size (by rw [hsz];exact hin)).trans (ready_spec hi).2.1
        have hf0:=hc.b_ hla hls
        obtain ⟨hown2,hnw2⟩:=StPutR.insAt e1
        have hp1:Blk w1 p 96 #[vl]:=hf0.blk hD.out.blk (fun hm=>by simp only [List.mem_singleton] at hm;exact hD.out.ne hm.symm)
        have hvp : ∀ k,(a.eval (.tmp 42)).ownBlock=some k→some k ∉ [some p]:=fun k hk hm=>by
         simp only [List.mem_singleton] at hm
         injection hm with hm
         subst hm
         exact hnw2.ne hD.out.lt hD.out.ne hk
        obtain ⟨A2,c2,hform⟩:=own_form' hown2
        have e2:a.tmps[42]?.getD undef = .slice A2 s'.length c2:=(slot_eval a 42).trans hform
        have c0:w1.cell? ⟨p,0,none⟩=some vl:=by rw [hp1.cell];rfl
        have f0:=hp1.frozen 0
        rw [hform] at hown2 hnw2 hvp
        have hf1:Far [some p] w1 (w1.setCell ⟨p,0,none⟩ (.slice A2 s'.length c2)):=(Far.refl _ _).set_ (p:=⟨p,0,none⟩) (.inl (by simp)) _
        have hown3:=hf1.own hown2 hvp
        have hH : ∀ u:Value,StPutC w0 base p vl s' (listed.setIfInBounds 13 true) (w1.setCell ⟨p,0,none⟩ (.slice A2 s'.length c2)):=fun _=>by
         refine ⟨fun e=>?_,fun _ e=>?_,fun _=>⟨_,hp1.set_ 0 _,hown3,hnw2,(hf0.mono (T:=[some p,vl.ownBlock]) fun k hk=>List.mem_cons_of_mem _ hk).then_ (T:=[some p]) hf1 (fun k hk => .inl (by simp only [List.mem_singleton] at hk;rw [hk];simp))⟩,Nat.le_trans hc.sz hf1.size⟩
         ·rw [getD_set (by rw [hsz];decide),if_neg (by decide),hla] at e;cases e
         ·rw [getD_set (by rw [hsz];decide),if_pos rfl] at e;cases e
        have hK : ∀ j u,listed.getD j false=true→StPutR V w0 base vl ⟨n,t⟩ s' j u w1→StPutR V w0 base vl ⟨n,t⟩ s' j u (w1.setCell ⟨p,0,none⟩ (.slice A2 s'.length c2)):=fun j u _ hju=>StPutR.far hju hf1 (fun q hq _ hm=>by
         simp only [List.mem_singleton] at hm
         injection hm with hm
         have:=hD.out.lt
         omega) (fun hj k hk hm=>by
         rw [hj] at hju
         simp only [List.mem_singleton] at hm
         injection hm with hm
         rw [hm] at hk
         exact (StPutR.insAt hju).2.ne hD.out.lt hD.out.ne hk)
        refine step_wp rfl rfl ?_
        clear hi ho hL hin hc hown2 hnw2 hown3 hvp e1 hform
        refine wp_skip (w':=w1.setCell ⟨p,0,none⟩ (.slice A2 s'.length c2)) ?_ ⟨_,rfl,StPutR.mk (by decide) v13.symm,hH undef,hK⟩
        clear hH hK v0 v1 v2 v3 v4 v5 v6 v7 v8 v11 v12 v13
        unfold execOp
        go_simp
      | (n+14),ho=>exact absurd hin (by simp)
     ·intro a w1 listed hL hall
      have hc:=hL.cls
      obtain ⟨vs,rfl,hR⟩:=hL.frame (by kernel_rfl) (sizes_spec (n:=46) (by kernel_rfl)) hall
      simp only [putAll,Act.put,List.setIfInBounds_toArray,List.set_cons_zero,List.set_cons_succ]
      simp only [Nat.zero_add,Nat.reduceAdd]
      obtain ⟨v',hp9,hown9,hnw9,hfar9⟩:=hc.c_ (hall 13 (by decide))
      clear hR hc hL
      have hgIn:some gI ∉ [some p,vl.ownBlock]:=fun hm=>by
       rcases List.mem_cons.1 hm with h1 | h1
       ·injection h1 with h1
        omega
       ·have h2:=hlv0 gI (List.mem_singleton.1 h1).symm
        omega
      have hgZn:some w.heap.size ∉ [some p,vl.ownBlock]:=fun hm=>by
       rcases List.mem_cons.1 hm with h1 | h1
       ·injection h1 with h1
        omega
       ·have h2:=hlv0 w.heap.size (List.mem_singleton.1 h1).symm
        omega
      have ld9:=hldn w1 gI (hfar9.blk hI5 hgIn)
      have z9:=hfar9.blk z5 hgZn
      go_wp2_with (first
       | (refine wpList_store_row rfl 35 (.tmp 4) (.tmp 45) rfl w.heap.size (u8s n) rfl rfl _ _ z9 (hsz _ hN32) hZ32' hNone ?_))
      refine bodyPost_ret (results_row_tmp rfl _ _ w.heap.size _ _ _ _ rfl (setRow_heap _ _ _ _ _ _ z9) Tryz.underlying35 rfl (hsz _ hN32)) rfl ⟨rfl,?_⟩
      have hf10:Far [some w.heap.size] w1 (w1.setRow w.heap.size (u8s n)):=⟨rfl,rfl,rfl,by simp,fun k _ hk=>setRow_other _ _ _ _ (fun e=>hk (by rw [e];simp))⟩
      have hne1:some p ∉ [some w.heap.size]:=fun hm=>by
       have:=List.mem_singleton.1 hm
       injection this with this
       omega
      have hne2 : ∀ k,v'.ownBlock=some k→some k ∉ [some w.heap.size]:=fun k hk hm=>by
       have h1:=List.mem_singleton.1 hm
       injection h1 with h1
       subst h1
       rcases hnw9 with h2 | h2
       ·have:=hlv0 _ (h2.symm.trans hk)
        omega
       ·have:=h2 _ hk
        have:=z5.lt
        omega
      refine ⟨v',⟨hf10.blk hp9 hne1,hf10.own hown9 hne2,hokP⟩,?_,?_⟩
      ·exact ((Far.of_below b5).then_ hfar9 (fun k hk => .inl hk)).then_ hf10 (fun k hk => .inr (by
        have:=List.mem_singleton.1 hk
        injection this with this
        omega))
      ·rcases hnw9 with h2 | h2
       ·exact .inl h2
       ·exact .inr fun k hk=>Nat.le_trans b5.size (h2 k hk)
end Go.Proofs.YtfdfoplmijmnaaaGreatDoor
namespace Go.Proofs.YtfdfoplmijmnaaaGreatDoor
open Go.RowKit
attribute [local go_sem ↓] ldvI_eq ldvS_eq
end Go.Proofs.YtfdfoplmijmnaaaGreatDoor
namespace Go.Proofs.YtfdfoplmijmnaaaGreatDoor
open Go.RowKit
attribute [local go_sem ↓] ldvI_eq ldvS_eq
/-- A store that is put together out of the document's. -/
def OfR (w:World) (L:List StL) (e:Ending) (w':World):Prop := ∃ p vl,e = .returned (.pointer (some ⟨p,0,none⟩))∧w.heap.size≤p∧StoAt w' w.heap.size p vl L
set_option maxRecDepth 100000 in
set_option maxHeartbeats 8000000 in
theorem of_calls11 {w:World} {vm:Value} {es:List DiL} (hm:DocSt w vm es) (hf:es.length<490000) (hK:TabK w) :
 Calls Tryz.prog 24 #[.agg #[vm]] w fun e w'=>OfR w (es.map (·.st)) e w'∧Below w.heap.size w w':=by
 obtain ⟨W1,hW1⟩ : ∃ W1,w.alloc (.cells #[vm] 30)=W1:=⟨_,rfl⟩
 have s1:Blk W1 w.heap.size 30 #[vm]:=by rw [←hW1];exact Blk.new _ _ _
 have b1:Below w.heap.size w W1:=by rw [←hW1];exact (Below.refl _ _).alloc (Nat.le_refl _) _
 have hlt0:=s1.lt
 have hnw:=Lib.hid (stoNew_calls W1)
 have hzI:=zeroIdV
 have hZ32:(u8s noId).size=32:=by rw [u8s_size,noId_len]
 have hok:=hm.ok
 have heach:=hm.each
 have hmat:=hm.at_
 obtain ⟨L,hL⟩ : ∃ L,es.map (·.st)=L:=⟨_,rfl⟩
 have hLl:L.length=es.length:=by rw [←hL,List.length_map]
 rw [hL] at hok
 have hLk : ∀ (k:Nat) (x:DiL),es[k]?=some x→L[k]?=some x.st:=fun k x hx=>by rw [←hL,List.getElem?_map,hx];rfl
 rw [hL]
 have hLl:=Lib.hid hLl
 have hLk:=Lib.hid hLk
 obtain ⟨A,cap,rfl,hcap1,hcap2,hat⟩:=hmat
 clear hL
 go_enter Tryz.func24,Tryz.ntmps24
 go_wp2_with (first
  | ((with_reducible refine hnw.out.mono ?_);rintro e w2 ⟨rfl,s2,b12⟩))
 have hpl:W1.heap.size<w2.heap.size:=s2.lt
 go_loopw [4] (fun vi wr => ∃ (k:Nat) (vl:Value),vi = .int .i64 k∧k≤es.length∧StoAt wr W1.heap.size W1.heap.size vl (L.take k)∧Below W1.heap.size W1 wr) (fun vi _=>es.length-(intOf vi).toNat)
 case atStart=>exact ⟨0,_,rfl,by omega,by rw [List.take_zero];exact s2,b12⟩
 case round=>
  obtain ⟨k,vl,rfl,hk,hS,hbel⟩:=hrel
  have hbr:=bthen b1 b1.size hbel
  have cr:wr.cell? ⟨w.heap.size,0,none⟩=some (.slice A es.length cap):=(s1.below hbel hlt0).cell 0
  by_cases hlt:k<es.length
  ·have hki:(k:Int)<(es.length:Int):=by omega
   obtain ⟨ga,oa,rfl,hga,hca⟩:=hat (by omega)
   obtain ⟨x,hx⟩ : ∃ x,es[k]?=some x:=⟨_,List.getElem?_eq_getElem hlt⟩
   have hxm:=List.mem_of_getElem? hx
   have hxo:=heach x hxm
   have hxi:=hxo.id
   have hLx:=hLk.out k x hx
   have hIs:=hok.each x.st (List.mem_of_getElem? hLx)
   have htx:=dit_text (rangeAt_below (hca k x hx) hga hbr) hxi
   have hKr:=hK.below hbr
   have htl:=(decO_len hxo.dec).2
   have htk:(L.take k).length<500000:=by have:=hLl.out;rw [List.length_take];omega
   have hpt:=stoPut_calls hbel.size hS x.st.text (by omega) hKr htk
   rw [hIs.putI,hIs.putC,putS_rise hok hLx] at hpt
   have hpt:=Lib.hid hpt
   have hid32:(u8s x.st.id).size=32:=by rw [u8s_size,hxi]
   have hid1:=u8s_one x.st.id
   have heq:=fun W=>run_neq_id W x.st.id x.st.id hxi hxi
   simp only [decide_true,Bool.not_true] at heq
   have hxr:=dit_id (hca k x hx)
   clear hx hat hca heach hLx hIs htk hLk hxo hxm
   go_upto_region 8 with (first
    | ((with_reducible refine hpt.out.mono ?_);rintro e w3 ⟨rfl,vl3,s3,f3,n3⟩
       have hS3 : ∀ k,some k∈[some W1.heap.size,vl.ownBlock]→W1.heap.size≤k:=fun k hk=>by
        simp only [List.mem_cons,List.not_mem_nil,or_false] at hk
        rcases hk with hk | hk
        ·injection hk with hk;omega
        ·exact (World.ownsRow.lt hS.own k hk.symm).1
       have b3:Below W1.heap.size W1 w3:=hbel.trans (f3.below hbel.size hS3))
    | ((with_reducible refine lit_new 35 (.tmp 5) (.tmp 26) (u8s x.st.id) 32 sz32 hid32 hid1 _ ?_ ?_ ?_ ?_)
       ·first | exact hZ32 | rfl
       ·rfl
       ·rfl
       intro W4 i4 hbl4
       have b4:=bthen b3 b3.size hbl4
       have s4:=s3.below hbl4))
   have fI:=fun W (hW:Below W4.heap.size W4 W)=>run_ldvI_at (range_blk (i4.below hW i4.lt)) hxi
   have fX:=fun W (hW:Below W4.heap.size W4 W)=>run_ldvI_at (rangeAt_below hxr hga (bthen b1 b1.size (bthen b4 b4.size hW))) hxi
   have fC : ∀ W,Below W4.heap.size W4 W→W.cell? ⟨w.heap.size,0,none⟩=some (.slice (some ⟨ga,oa,none⟩) es.length cap):=fun W hW=>(s1.below (bthen b4 b4.size hW) hlt0).cell 0
   go_wp2
   refine wp_region_go0 12 (by kernel_rfl) (by kernel_rfl) (by kernel_rfl) (by kernel_rfl) ?_
   simp only [exSp]
   iterate 12 apply Exists.intro
   repeat
    first
     | ((with_reducible apply lx0_ex)
        ·(go_simp;done)
        apply Exists.intro
        apply And.intro
        ·apply Eq.refl
        apply And.intro
        ·intro W hW hD
         have q0:=fI W hW
         have q1:=fX W hW
         have q2:=fC W hW
         have q4:=heq W
         go_simp
         rfl
        simp only [Act.put,List.setIfInBounds_toArray,List.set_cons_zero,List.set_cons_succ])
     | ((with_reducible apply lx0_pass)
        ·(first | rfl | (go_simp;done))
        ·apply Eq.refl
        simp only [Act.put,List.setIfInBounds_toArray,List.set_cons_zero,List.set_cons_succ])
   refine lx0_nil ?_ fun w5 hW5 hD5=>?_
   ·exact List.nodup_nil
   have b5:=bthen b4 b4.size hW5
   have s5:=s4.below hW5
   go_wp2
   go_roundw
   case rel=>exact ⟨k+1,_,by go_num,by omega,s5,b5⟩
   case measure=>simp [intOf];omega
  ·have hki : ¬ (k:Int)<(es.length:Int):=by omega
   obtain rfl:k=es.length:=by omega
   rw [←hLl.out,List.take_length] at hS
   clear hat heach hLk
   go_wp2
   go_ret
   exact ⟨⟨_,vl,rfl,Nat.le_of_lt hlt0,hS.blk,own_down hS.own (Nat.le_of_lt hlt0),hS.ok⟩,hbr⟩
end Go.Proofs.YtfdfoplmijmnaaaGreatDoor
namespace Go.Proofs.YtfdfoplmijmnaaaGreatDoor
open Go.RowKit
attribute [local go_sem ↓] ldvI_eq ldvS_eq
def OfR14 (vr vs:Value) (L:List StL) (e:Ending) (w':World):Prop := ∃ base p vl,e = .returned (.tuple #[.agg #[.pointer (some ⟨p,0,none⟩),vr,vs], .bool true])∧StoAt w' base p vl L
set_option maxRecDepth 100000 in
set_option maxHeartbeats 4000000 in
theorem of14_calls {w:World} {vm:Value} {es:List DiL} (hD:DocSt w vm es) (hf:es.length<490000) (hK:TabK w) (Ar As:Option Addr) (nr ns cr cs:Nat) :
 Calls Tryz.prog 9 #[.agg #[vm, .slice Ar nr cr, .slice As ns cs]] w fun e w'=>OfR14 (.slice Ar nr cr) (.slice As ns cs) (es.map (·.st)) e w'∧Below w.heap.size w w':=by
 obtain ⟨W1,hW1⟩ : ∃ W1,w.alloc (.cells #[vm, .slice Ar nr cr, .slice As ns cs] 41)=W1:=⟨_,rfl⟩
 have s1:Blk W1 w.heap.size 41 #[vm, .slice Ar nr cr, .slice As ns cs]:=by rw [←hW1];exact Blk.new _ _ _
 have b1:Below w.heap.size w W1:=by rw [←hW1];exact (Below.refl _ _).alloc (Nat.le_refl _) _
 obtain ⟨W2,hW2⟩ : ∃ W2,W1.alloc (.cells #[.pointer none, .slice none 0 0, .slice none 0 0] 44)=W2:=⟨_,rfl⟩
 have r2:Blk W2 W1.heap.size 44 #[.pointer none, .slice none 0 0, .slice none 0 0]:=by rw [←hW2];exact Blk.new _ _ _
 have bb2:Below W1.heap.size W1 W2:=by rw [←hW2];exact (Below.refl _ _).alloc (Nat.le_refl _) _
 have b2:=bthen b1 b1.size bb2
 have s2:=s1.below bb2 s1.lt
 have hle1:w.heap.size≤W1.heap.size:=b1.size
 have c1 : ∀ W,Below W2.heap.size W2 W→W.cell? ⟨w.heap.size,1,none⟩=some (.slice Ar nr cr):=fun W hW=>(s2.below hW s2.lt).cell 1
 have c2 : ∀ W,Below W2.heap.size W2 W→W.cell? ⟨w.heap.size,2,none⟩=some (.slice As ns cs):=fun W hW=>(s2.below hW s2.lt).cell 2
 have e0:(ldvS ⟨w.heap.size,0,none⟩).run Tryz.prog W2 = .ok (.agg #[vm]) W2:=run_ldvS_at fun j u hu=>by
  have:=s2.cell 0
  cases j with
  | zero=>rw [Nat.add_zero,this];exact hu
  | succ j=>simp at hu
 have hof:=Lib.hid (of_calls11 (hD.below b2) hf (hK.below b2))
 clear hD hK s1 s2
 go_enter Tryz.func9,Tryz.ntmps9
 go_wp2_with (first
  | ((with_reducible refine hof.out.mono ?_);rintro e w3 ⟨⟨p,vl,rfl,hp,hS3⟩,hb3⟩
     have d1:=c1 w3 hb3
     have d2:=c2 w3 hb3
     have r3:=r2.below hb3 r2.lt
     have hnr:=own_blk_ne hS3.own r3 (by decide))
  | (refine wpList_store_row rfl 44 (.tmp 2) (.tmp 13) rfl W1.heap.size #[.pointer (some ⟨p,0,none⟩), .slice Ar nr cr, .slice As ns cs] rfl rfl _ _ r3 (by kernel_rfl) rfl (by simp [Value.oneCell']) ?_))
 have hS4:=fun cs=>(⟨keep_row hS3.blk (by have:=r2.lt;omega) cs,own_row hS3.own r2.lt cs,hS3.ok⟩:StoAt (w3.setRow W1.heap.size cs) W2.heap.size p vl (es.map (·.st)))
 refine bodyPost_ret (results_row_tmp rfl _ _ W1.heap.size _ _ _ _ rfl (setRow_heap _ _ _ _ _ _ r3) Tryz.underlying44 rfl (by kernel_rfl)) rfl ⟨⟨_,p,vl,rfl,hS4 _⟩,below_setRow (bthen b2 b2.size hb3) hle1 _⟩
theorem Tryz.refTy14 : SliceTy Tryz.prog 26 37 (.agg (refC ⟨[],List.replicate 32 0⟩).toArray) 33 48:=⟨Tryz.underlying26,info_parts (by kernel_rfl),rfl,by omega⟩
def knT14 : Txt:=[3,35]++List.replicate 35 0
theorem kn_dec14 : ∃ o,decO knT14=some o∧o.kind=3∧linksL o=[⟨noId,2⟩]:=⟨_,rfl,rfl,rfl⟩
def knId : Txt:=1::List.replicate 31 0
def knBad : List RefL:=[⟨[98],knId⟩,⟨[97],knId⟩]
theorem kn_fine : fineL []=true:=by kernel_rfl
theorem kn_shal (S:List StL):shalB S []=true:=rfl
theorem kn_whole : wholeN [] [] []=0:=(wholeN_4 kn_fine (kn_shal _) rfl).trans rfl
theorem kn_bad (S:List StL) (sh:List Txt):wholeN S knBad sh=8:=wholeN_1 (by kernel_rfl)
theorem one_is {t:Txt} {o:ObjL} (ho:decO t=some o):StIs ⟨shaOf t,t⟩:=⟨rfl,o,ho⟩
theorem one_put {t:Txt} {o:ObjL} (ho:decO t=some o):putL11 [] [t]=[⟨shaOf t,t⟩]:=by
 show putS [] t=_
 rw [show t=(StL.text ⟨shaOf t,t⟩) from rfl,(one_is ho).putS]
 rfl
theorem one_alone {t:Txt} {o:ObjL} (ho:decO t=some o) (hk:o.kind=3) (hl:linksL o=[⟨noId,2⟩]):wholeN [⟨shaOf t,t⟩] [] []=7:=by
 generalize shaOf t=n
 have hg:getS [⟨n,t⟩] n=some ⟨n,t⟩:=by unfold getS;rw [List.find?_cons];simp
 have hobj:objS [⟨n,t⟩] n=some o:=objS_some hg ho
 refine wholeN_3 kn_fine (kn_shal _) ?_
 show ((rightS [⟨n,t⟩] [] n)&&true)=false
 rw [Bool.and_true,right_some hobj]
 have hc:cutO [] n o=o:=by unfold cutO;rw [if_neg (by simp [inL])]
 rw [hc,hl]
 show (okL [⟨n,t⟩] ⟨noId,2⟩&&true)=false
 rw [Bool.and_true]
 have hkk:kindS [⟨n,t⟩] noId=3∨kindS [⟨n,t⟩] noId=0:=by
  unfold kindS getS
  rw [List.find?_cons]
  cases hb:((⟨n,t⟩:StL).id==noId) with
  | true=>left;simp only [ho,hk]
  | false=>right;rfl
 unfold okL
 rcases hkk with h | h<;>rw [h]<;>rfl
theorem slice_one {W:World} {g:Nat} {t:Txt} (h:Blk W g 9 #[.string (B t)]):SliceAt W 1 txC (.slice (some ⟨g,0,none⟩) 1 1) [t]:=by
 refine ⟨_,1,rfl,by simp,by decide,fun _=>⟨g,0,rfl,h.lt,fun i x hx j u hu=>?_⟩⟩
 have hi:i=0:=by
  have:=(List.getElem?_eq_some_iff.1 hx).1
  simp at this
  exact this
 subst hi
 injection hx with hx
 subst hx
 have hj:j=0:=by
  have:=(List.getElem?_eq_some_iff.1 hu).1
  simp [txC] at this
  exact this
 subst hj
 injection hu with hu
 subst hu
 exact h.cell 0
/-- A slice that was just laid. -/
def sl1F (T:TypeId) (n:Nat) (cs:Array Value) (v:Value) (F:Foot) (w:World):Prop := ∃ g,v = .slice (some ⟨g,0,none⟩) n n∧F g∧Blk w g T cs
theorem sl1F_stab (T:TypeId) (n:Nat) (cs:Array Value) (v:Value):Stab (sl1F T n cs v):=fun _ _ _ _ hf ha ⟨g,h1,h2,h3⟩=>⟨g,h1,hf g h2,(ha.same g h3.lt h2).trans h3⟩
/-- A document's store that was just told. -/
def docF (L:List StL) (v:Value) (F:Foot) (w:World):Prop := ∃ vm es,v = .agg #[vm]∧DocSt w vm es∧es.map (·.st)=L ∧ ∀ k,DocUse vm es k→F k
theorem docF_stab (L:List StL) (v:Value):Stab (docF L v):=fun _ _ _ _ hf ha ⟨vm,es,h1,h2,h3,h4⟩=>⟨vm,es,h1,h2.same fun k hk=>ha.same k (h2.lt hk) (h4 k hk),h3,fun k hk=>hf k (h4 k hk)⟩
/-- A store of ours that was just told. -/
def stoF (L:List StL) (v:Value) (F:Foot) (w:World):Prop := ∃ base p vl,v = .pointer (some ⟨p,0,none⟩)∧StoAt w base p vl L∧F p ∧ ∀ k,vl.ownBlock=some k→F k
theorem stoF_stab (L:List StL) (v:Value):Stab (stoF L v):=fun _ _ _ _ hf ha ⟨base,p,vl,h1,h2,h3,h4⟩=>⟨base,p,vl,h1,⟨(ha.same p h2.lt h3).trans h2.blk,own_same h2.own fun k hk=>ha.same k (World.ownsRow.lt h2.own k hk).2 (h4 k hk),h2.ok⟩,hf p h3,fun k hk=>hf k (h4 k hk)⟩
theorem refs_two {W:World} {g:Nat} {r1 r2:RefL} (h1:(refC r1).length=33) (h2:(refC r2).length=33) (hb:Blk W g 37 ((refC r1).toArray++(refC r2).toArray)):Refs W (.slice (some ⟨g,0,none⟩) 2 2) [r1,r2]:=by
 refine ⟨_,2,rfl,by simp,by decide,fun _=>⟨g,0,rfl,hb.lt,fun i x hx j u hu=>?_⟩⟩
 have hi:i=0∨i=1:=by
  have:=(List.getElem?_eq_some_iff.1 hx).1
  simp at this
  omega
 have hju:=(List.getElem?_eq_some_iff.1 hu).1
 rw [hb.cell]
 rcases hi with rfl | rfl
 ·injection hx with hx
  subst hx
  rw [Array.getElem?_append_left (by rw [List.size_toArray];omega)]
  simpa using hu
 ·injection hx with hx
  subst hx
  rw [Array.getElem?_append_right (by rw [List.size_toArray];omega),List.size_toArray,h1]
  rw [show 0+1*33+j-33=j from by omega]
  simpa using hu
theorem built_repo1 (q:Nat):Tryz.prog.built 44 [(0, .pointer (some ⟨q,0,none⟩))]=some #[.pointer (some ⟨q,0,none⟩), .slice none 0 0, .slice none 0 0]:=by kernel_rfl
theorem built_repo2 (q g n:Nat):Tryz.prog.built 44 [(0, .pointer (some ⟨q,0,none⟩)),(1, .slice (some ⟨g,0,none⟩) n n)]=some #[.pointer (some ⟨q,0,none⟩), .slice (some ⟨g,0,none⟩) n n, .slice none 0 0]:=by kernel_rfl
theorem built_kn : Tryz.prog.built 35 [(0, .int .u8 1)]=some (u8s knId):=by kernel_rfl
theorem built_knr (c:UInt8):Tryz.prog.built 37 [(0, .string ⟨#[c]⟩),(1, .agg (u8s knId))]=some (refC ⟨[c],knId⟩).toArray:=by kernel_rfl
theorem use_nil (k:Nat) : ¬ DocUse (.slice none 0 0) [] k:=by
 rintro (h | ⟨e,he,_⟩)
 ·simp [Value.ownBlock] at h
 ·simp at he
set_option maxRecDepth 100000 in
set_option maxHeartbeats 8000000 in
theorem knows_calls14 (w:World) (hK:TabK w):Calls Tryz.prog 6 #[] w fun e w'=>e = .returned (.bool true)∧Below w.heap.size w w':=by
 have hbS:Tryz.prog.built 30 []=some #[.slice none 0 0]:=by kernel_rfl
 have hrb:=fun W=>run_build (P:=Tryz.prog) W _ _ _ hbS
 have hS0:(#[Value.slice none 0 0]:Array Value).size=1:=rfl
 have hS1:(#[Value.slice none 0 0]:Array Value).all (·.oneCell')=true:=by kernel_rfl
 go_enter Tryz.func6,Tryz.ntmps6
 go_upto_region 2 with (first
  | ((with_reducible refine lit_new 30 (.tmp 1) (.tmp 4) #[.slice none 0 0] 1 szDSt hS0 hS1 _ ?_ ?_ ?_ ?_)
     ·first | exact hS0 | rfl
     ·rfl
     ·rfl
     intro W1 hb1 hbl1))
 have lS : ∀ W,Below W1.heap.size W1 W→(ldvS ⟨w.heap.size,0,none⟩).run Tryz.prog W = .ok (.agg #[.slice none 0 0]) W:=fun W hW=>run_ldvS (hb1.below hW hb1.lt)
 have hcells:madeCells (Value.int .u8 0).cells ((35:Int).toNat*1)=u8s (List.replicate 35 0):=by kernel_rfl
 have hmk : ∀ W:World,(Instr.makeSlice 23 (.int .i64 35) (.int .i64 35)).run Tryz.prog W = .ok (.slice (some ⟨W.heap.size,0,none⟩) 35 35) (W.alloc (.cells (u8s (List.replicate 35 0)) 5)):=fun W=>by
  obtain ⟨it,h1,h2,h3,h4⟩:=info_parts (P:=Tryz.prog) (e:=5) (z := .int .u8 0) (size:=1) (bytes:=1) (by kernel_rfl)
  have:=run_makeSlice (P:=Tryz.prog) W 23 5 it (.int .u8 0) Tryz.underlying23 h1 h2 .i64 .i64 35 35 (by omega) (by omega) (by rw [h3];decide) (by rw [h4];decide) (by decide)
  rw [h3,hcells] at this
  exact this
 have hcv : ∀ W g,Blk W g 5 (u8s (List.replicate 35 0))→(convert 23 9 (.slice (some ⟨g,0,none⟩) 35 35)).run Tryz.prog W = .ok (.string (B (List.replicate 35 0))) W:=fun W g h=>str_of_blk W h
 have hT:knT14=3::35::List.replicate 35 0:=rfl
 obtain ⟨o,ho,hk,hl⟩:=kn_dec14
 have hput:=one_put ho
 have hal:=one_alone ho hk hl
 have hlen:knT14.length≤5000:=by decide
 rw [hT] at hput hal hlen
 clear hcells hT hrb
 have hzl : ¬ 9223372036854775807<2+(List.replicate 35 (0:UInt8)).length:=by simp
 generalize List.replicate 35 (0:UInt8)=ZT at *
 have hDe : ∀ W,DocSt W (.slice none 0 0) []:=fun W=>⟨World.ownsRow_nil _ _ _ _,fun e he=>by simp at he,StoOk.nil⟩
 have hAll : ∀ (W:World) (g:Nat),Blk W g 9 #[.string (B (3::35::ZT))]→Calls Tryz.prog 18 #[.agg #[.slice none 0 0], .slice (some ⟨g,0,none⟩) 1 1] W fun e w'=>AllR W.heap.size (.slice none 0 0) [] [⟨shaOf (3::35::ZT),3::35::ZT⟩] e w'∧Below W.heap.size W w':=fun W g hb=>by
  have:=docAll_calls (hDe W) [3::35::ZT] (by simpa using hlen) (by simp) _ (slice_one hb)
  rwa [show ([]:List DiL).map (·.st)=[] from rfl,hput] at this
 obtain ⟨L,hL⟩ : ∃ L:List StL,[⟨shaOf (3::35::ZT),3::35::ZT⟩]=L:=⟨_,rfl⟩
 have hLl:L.length=1:=by rw [←hL];rfl
 simp only [hL] at hAll hal
 clear hL hput hlen hDe
 refine wp_region_go0 8 (by kernel_rfl) (by kernel_rfl) (by kernel_rfl) (by kernel_rfl) ?_
 simp only [exSp]
 iterate 8 apply Exists.intro
 repeat
  first
   | ((with_reducible apply lx0_ex)
      ·(go_simp;done)
      apply Exists.intro
      apply And.intro
      ·apply Eq.refl
      apply And.intro
      ·intro W hW hD
       have q0:=lS W hW
       first
        | (go_simp
           rfl)
        | (obtain ⟨F,g,rfl,_,hb⟩:=hD.at 0 rfl (by kernel_rfl)
           have q1:=hcv W g hb
           go_simp
           rfl)
      simp only [Act.put,List.setIfInBounds_toArray,List.set_cons_zero,List.set_cons_succ])
   | ((with_reducible apply lx0_pass)
      ·(first | rfl | (go_simp;done))
      ·apply Eq.refl
      simp only [Act.put,List.setIfInBounds_toArray,List.set_cons_zero,List.set_cons_succ])
   | ((with_reducible refine lx0_new (sl1F 5 35 (u8s ZT)) rfl ?_ (sl1F_stab _ _ _) ?_ ?_)
      ·(go_simp;done)
      ·intro W hW hD
       refine does_val (v := .slice (some ⟨W.heap.size,0,none⟩) 35 35) (w':=W.alloc (.cells (u8s ZT) 5)) ?_ ?_
       ·have q:=hmk W
        unfold execOp
        go_simp
        done
       exact ⟨(Below.refl _ _).alloc (Nat.le_refl _) _,fun F f1 f2 f3=>⟨W.heap.size,rfl,f3 _ (Nat.le_refl _) (by rw [size_alloc'];omega),Blk.new _ _ _⟩⟩
      intro v
      simp only [Act.put,List.setIfInBounds_toArray,List.set_cons_zero,List.set_cons_succ])
   | ((with_reducible refine lx0_new (sl1F 9 1 #[.string (B (3::35::ZT))]) rfl ?_ (sl1F_stab _ _ _) ?_ ?_)
      ·(go_simp;done)
      ·intro W hW hD
       unfold doesAt Oper.wp execOp
       go_simp
       exact ⟨(Below.refl _ _).alloc (Nat.le_refl _) _,fun F f1 f2 f3=>⟨W.heap.size,rfl,f3 _ (Nat.le_refl _) (by rw [size_alloc'];omega),Blk.new _ _ _⟩⟩
      intro v
      simp only [Act.put,List.setIfInBounds_toArray,List.set_cons_zero,List.set_cons_succ])
   | ((with_reducible refine lx0_new (docF L) rfl ?_ (docF_stab _) ?_ ?_)
      ·(go_simp;done)
      ·intro W hW hD
       obtain ⟨F,g,rfl,_,hb⟩:=hD.at 0 rfl (by kernel_rfl)
       have hc:=hAll W g hb
       unfold doesAt Oper.wp execOp
       go_simp
       refine hc.mono ?_
       rintro e w' ⟨⟨vm7,es7,rfl,D7,hm7,hu7⟩,hb7⟩
       exact ⟨hb7,fun F f1 f2 f3=>⟨vm7,es7,rfl,D7,hm7,fun k hk=>by
        rcases hu7 k hk with h | h
        ·exact absurd h (use_nil k)
        ·exact f3 k h (D7.lt hk)⟩⟩
      intro v
      simp only [Act.put,List.setIfInBounds_toArray,List.set_cons_zero,List.set_cons_succ])
   | ((with_reducible refine lx0_new (stoF L) rfl ?_ (stoF_stab _) ?_ ?_)
      ·(go_simp;done)
      ·intro W hW hD
       obtain ⟨F,vm7,es7,rfl,D7,hm7,_⟩:=hD.at 0 rfl (by kernel_rfl)
       have h17:es7.length<490000:=by have:=congrArg List.length hm7;rw [List.length_map,hLl] at this;omega
       have hc:=of_calls11 D7 h17 (hK.below (bthen hbl1 hbl1.size hW))
       rw [hm7] at hc
       unfold doesAt Oper.wp execOp
       go_simp
       refine hc.mono ?_
       rintro e w' ⟨⟨p,vl,rfl,hp,hS⟩,hb7⟩
       exact ⟨hb7,fun F f1 f2 f3=>⟨_,p,vl,rfl,hS,f3 p hp hS.lt,fun k hk=>f3 k (World.ownsRow.lt hS.own k hk).1 (World.ownsRow.lt hS.own k hk).2⟩⟩
      intro v
      simp only [Act.put,List.setIfInBounds_toArray,List.set_cons_zero,List.set_cons_succ])
   | (first | (with_reducible apply lx_move') | (with_reducible apply lx_assign')
      ·apply Eq.refl
      apply Exists.intro
      apply And.intro
      ·(go_simp;rfl)
      simp only [Act.put,List.setIfInBounds_toArray,List.set_cons_zero,List.set_cons_succ])
 refine lx0_nil ?_ fun w8 hW8 hD8=>?_
 ·exact List.nodup_nil
 obtain ⟨_,base,p,vl,rfl,hS8,_⟩:=hD8 _ (.head _)
 clear hD8 hmk hcv hAll lS hzl
 have b8:=bthen hbl1 hbl1.size hW8
 obtain ⟨K1,hK1⟩ : ∃ K1,u8s knId=K1:=⟨_,rfl⟩
 have q1:=built_kn
 have q2:=built_knr 98
 have q3:=built_knr 97
 rw [hK1] at q1 q2 q3
 have r33 : ∀ c:UInt8,(refC ⟨[c],knId⟩).length=33:=fun c=>rfl
 obtain ⟨R1,hR1⟩ : ∃ R1:RefL,R1=⟨[98],knId⟩:=⟨_,rfl⟩
 obtain ⟨R2,hR2⟩ : ∃ R2:RefL,R2=⟨[97],knId⟩:=⟨_,rfl⟩
 rw [←hR1] at q2
 rw [←hR2] at q3
 have s1:(refC R1).toArray.size=33:=by rw [hR1];rfl
 have s2:(refC R2).toArray.size=33:=by rw [hR2];rfl
 have hbad:Hid (∀ S sh,wholeN S [R1,R2] sh=8):=Lib.hid fun S sh=>by rw [hR1,hR2];exact kn_bad S sh
 have hbok:Hid (RefsOk [R1,R2]):=Lib.hid (by
  rw [hR1,hR2]
  intro r hr
  rcases List.mem_cons.1 hr with rfl | hr
  ·exact ⟨rfl,by decide⟩
  ·rw [List.mem_singleton.1 hr];exact ⟨rfl,by decide⟩)
 have hrefs:=fun W g (h:Blk W g 37 ((refC R1).toArray++(refC R2).toArray))=>refs_two (by rw [hR1];rfl) (by rw [hR2];rfl) h
 clear hK1 hR1 hR2 r33
 obtain ⟨C1,hC1⟩ : ∃ C1,(refC R1).toArray=C1:=⟨_,rfl⟩
 obtain ⟨C2,hC2⟩ : ∃ C2,(refC R2).toArray=C2:=⟨_,rfl⟩
 rw [hC1] at q2 s1
 rw [hC2] at q3 s2
 simp only [hC1,hC2] at hrefs
 clear hC1 hC2
 have hone:=Lib.hid hal
 have hzero:=Lib.hid kn_whole
 obtain ⟨W9,hW9⟩ : ∃ W9,w8.alloc (.cells (C1++C2) 37)=W9:=⟨_,rfl⟩
 have hb9:Blk W9 w8.heap.size 37 (C1++C2):=by rw [←hW9];exact Blk.new _ _ _
 have hbl9:Below w8.heap.size w8 W9:=by rw [←hW9];exact (Below.refl _ _).alloc (Nat.le_refl _) _
 have b9:=bthen b8 b8.size hbl9
 have hS9:=hS8.below hbl9
 have hr9:=hrefs W9 _ hb9
 have hnw:=Lib.hid (stoNew_calls W9)
 clear hal hrefs hb9
 have rp1:=built_repo1
 have rp2:=built_repo2 p w8.heap.size 2
 have rpp:=built_repo1 p
 have rpn:=built_repo1 W9.heap.size
 clear rp1
 have hL1:(L.length:Int)=1:=by omega
 have hlen9:=fun W (hW:Below W9.heap.size W9 W)=>Lib.hid ((stoLen_calls (hS9.below hW)).mono fun e w' (h:e = .returned (.int .i64 L.length)∧w'=W)=>(⟨by rw [h.1,hL1],h.2▸Below.refl _ _⟩:e = .returned (.int .i64 1)∧Below W.heap.size W w'))
 have hwh2:=fun W (hW:Below W9.heap.size W9 W)=>Lib.hid (chkWhole_calls (hS9.below hW) [] (fun r h=>by simp at h) [] (fun x h=>by simp at h) (.slice none 0 0) (.slice none 0 0) SliceAt.nil SliceAt.nil)
 have hwh3:=fun W (hW:Below W9.heap.size W9 W)=>Lib.hid (chkWhole_calls (hS9.below hW) [R1,R2] hbok.out [] (fun x h=>by simp at h) (.slice (some ⟨w8.heap.size,0,none⟩) 2 2) (.slice none 0 0) (hr9.below hW) SliceAt.nil)
 simp only [hone.out] at hwh2
 simp only [hbad.out] at hwh3
 clear hLl hL1 hone hbad hbok
 go_wp2_with (first
  | ((with_reducible refine lit_build1 q1 ?_ ?_);rfl)
  | ((with_reducible refine lit_build2 q2 ?_ ?_ ?_);rfl;rfl)
  | ((with_reducible refine lit_build2 q3 ?_ ?_ ?_);rfl;rfl)
  | ((with_reducible refine lit_slice2 (.tmp 15) (.tmp 17) Tryz.refTy14 C1 C2 s1 s2 (by omega) ?_ ?_ ?_);rfl;rfl;rw [hW9])
  | ((with_reducible refine hnw.out.mono ?_);rintro e w11 ⟨rfl,hS11,hb11⟩
     have hw1:=Lib.hid (chkWhole_calls hS11 [] (fun r h=>by simp at h) [] (fun x h=>by simp at h) (.slice none 0 0) (.slice none 0 0) SliceAt.nil SliceAt.nil)
     rw [hzero.out] at hw1)
  | ((with_reducible refine lit_build1 rpn ?_ ?_);rfl)
  | ((with_reducible refine hw1.out.mono ?_);rintro e w12 ⟨rfl,hb12⟩
     have c12:=bthen hb11 hb11.size hb12
     have hl12:=hlen9 w12 c12)
  | ((with_reducible refine hl12.out.mono ?_);rintro e w13 ⟨rfl,hb13⟩
     have c13:=bthen c12 c12.size hb13
     have hw2:=hwh2 w13 c13)
  | ((with_reducible refine lit_build1 rpp ?_ ?_);rfl)
  | ((with_reducible refine hw2.out.mono ?_);rintro e w14 ⟨rfl,hb14⟩
     have c14:=bthen c13 c13.size hb14
     have hw3:=hwh3 w14 c14)
  | ((with_reducible refine lit_build2 rp2 ?_ ?_ ?_);rfl;rfl)
  | ((with_reducible refine hw3.out.mono ?_);rintro e w15 ⟨rfl,hb15⟩))
 go_ret
 exact ⟨rfl,bthen b9 b9.size (bthen c14 c14.size hb15)⟩
end Go.Proofs.YtfdfoplmijmnaaaGreatDoor
namespace Go.Proofs.YtfdfoplmijmnaaaGreatDoor
open Go.ChangeShapes Go.WideShapes Go.ChangeAt Go.RowKit
structure HisL where
 seeds:List SdL
 out:Txt
 frm:Txt
 cut:Txt
structure HisOk (w:World) (vs vo vf vc:Value) (h:HisL):Prop where
 seeds:Seeds w vs h.seeds
 out:SliceAt w 1 byC vo h.out
 frm:SliceAt w 1 byC vf h.frm
 cut:SliceAt w 1 byC vc h.cut
theorem HisOk.below {w w':World} {vs vo vf vc:Value} {h:HisL} (hh:HisOk w vs vo vf vc h) (hb:Below w.heap.size w w'):HisOk w' vs vo vf vc h:=⟨hh.seeds.below hb,hh.out.below hb,hh.frm.below hb,hh.cut.below hb⟩
section
variable {H:Type} {enc:TypeId×Value→H} {w:World} {base:Nat} {sp:Nat→Bool} {held:Bool}
set_option maxRecDepth 200000 in
theorem open_his {base0:Nat} {v:Value} {d:DataW H} {p:List MemPlace} (hv:Value.okWide Tryz.prog w .any base0 25 v) (h0:DataW.Trod enc Tryz.prog w base sp held 25 v d p) : ∃ (vs vo vf vc:Value) (h:HisL),v = .agg #[vs,vo,vf,vc]∧HisOk w vs vo vf vc h:=by
 simp only [Value.okWide,Tryz.underlying25] at hv
 obtain ⟨cs0,rfl,hsz,_⟩:=hv
 obtain ⟨fuel,hf0⟩:=h0
 have h4:Tryz.prog.cellsOf 25=4:=by kernel_rfl
 have hl:cs0.toList.length=4:=by rw [Array.length_toList,hsz,h4]
 have hf1:DataW.trod enc Tryz.prog w base sp held fuel 25 cs0.toList=some (d,p):=hf0
 obtain ⟨cs,hcs⟩ : ∃ cs,cs0.toList=cs:=⟨_,rfl⟩
 rw [hcs] at hl hf1
 obtain ⟨ys,n',hn',hy,hlen,hyl,hf⟩:=DataW.trod_struct Tryz.underlying25 hf1
 have hyl:ys.length=4:=hyl
 have h0:=hf 0 _ rfl
 have h1:=hf 1 _ rfl
 have h2:=hf 2 _ rfl
 have h3:=hf 3 _ rfl
 rw [List.getElem?_eq_getElem (show 0<ys.length by omega)] at h0
 rw [List.getElem?_eq_getElem (show 1<ys.length by omega)] at h1
 rw [List.getElem?_eq_getElem (show 2<ys.length by omega)] at h2
 rw [List.getElem?_eq_getElem (show 3<ys.length by omega)] at h3
 have cU:Tryz.prog.cellsOf 5=1:=by kernel_rfl
 have cB:Tryz.prog.cellsOf 23=1:=by kernel_rfl
 have cS:Tryz.prog.cellsOf 22=1:=by kernel_rfl
 obtain ⟨v0,e0,t0⟩:=trod_slice_one (by
  show ((cs.drop 0).take (Tryz.prog.cellsOf 22)).length=1
  rw [cS,List.length_take,List.length_drop];omega) h0
 obtain ⟨v1,e1,t1⟩:=trod_slice_one (by
  show ((cs.drop 1).take (Tryz.prog.cellsOf 23)).length=1
  rw [cB,List.length_take,List.length_drop];omega) h1
 obtain ⟨v2,e2,t2⟩:=trod_slice_one (by
  show ((cs.drop 2).take (Tryz.prog.cellsOf 23)).length=1
  rw [cB,List.length_take,List.length_drop];omega) h2
 obtain ⟨v3,e3,t3⟩:=trod_slice_one (by
  show ((cs.drop 3).take (Tryz.prog.cellsOf 23)).length=1
  rw [cB,List.length_take,List.length_drop];omega) h3
 obtain ⟨l0,hl0,ho0⟩:=open_elems sdC 4 (by omega) (SdOk w) Tryz.underlying22 (by kernel_rfl) (fun y _=>rfl) elem_seed t0
 obtain ⟨l1,hl1,_⟩:=open_elems byC 1 (by omega) (fun _=>True) Tryz.underlying23 cU (fun y _=>rfl) elem_byte t1
 obtain ⟨l2,hl2,_⟩:=open_elems byC 1 (by omega) (fun _=>True) Tryz.underlying23 cU (fun y _=>rfl) elem_byte t2
 obtain ⟨l3,hl3,_⟩:=open_elems byC 1 (by omega) (fun _=>True) Tryz.underlying23 cU (fun y _=>rfl) elem_byte t3
 have e0':(cs.drop 0).take 1=[v0]:=by rw [←cS];exact e0
 have e1':(cs.drop 1).take 1=[v1]:=by rw [←cB];exact e1
 have e2':(cs.drop 2).take 1=[v2]:=by rw [←cB];exact e2
 have e3':(cs.drop 3).take 1=[v3]:=by rw [←cB];exact e3
 refine ⟨v0,v1,v2,v3,⟨l0,l1,l2,l3⟩,?_,⟨⟨hl0,ho0⟩,hl1,hl2,hl3⟩⟩
 have:=chain e0' (m:=1) rfl
 rw [List.drop_zero,chain e1' (m:=2) rfl,chain e2' (m:=3) rfl,chain e3' (m:=4) rfl,List.drop_of_length_le (by omega)] at this
 congr 1
 apply Array.ext'
 rw [hcs,this]
 rfl
end
end Go.Proofs.YtfdfoplmijmnaaaGreatDoor
namespace Go.Proofs.YtfdfoplmijmnaaaGreatDoor
open Go.RowKit
attribute [local go_sem ↓] ldvI_eq ldvS_eq
theorem built_one (c:UInt8):Tryz.prog.built 35 [(0, .int .u8 c.toNat)]=some (u8s (c::List.replicate 31 0)):=by kernel_rfl
/-- What Ids tells: as many ids as there are places. -/
def IdsR (w:World) (n:Nat) (e:Ending) (w':World):Prop := ∃ v r,e = .returned v∧OwnIds w' w.heap.size v r∧(∀ x∈r,x.length=32)∧r.length=n
set_option maxRecDepth 100000 in
set_option maxHeartbeats 4000000 in
theorem ids12_calls (all:List Txt) (haok : ∀ x∈all,x.length=32) (hal:all.length≤1000) (va:Value) (w:World) (hva:Ids w va all) (l:Txt) (hl1000:l.length≤1000) (vl:Value) (hvl:SliceAt w 1 byC vl l) :
 Calls Tryz.prog 8 #[va,vl] w fun e w'=>IdsR w l.length e w'∧Below w.heap.size w w':=by
 obtain ⟨A,cap,rfl,hcap1,hcap2,hat⟩:=hvl
 obtain ⟨Aa,ca,rfl,hca1,hca2,hata⟩:=hva
 go_enter Tryz.func8,Tryz.ntmps8
 go_wp2_with (fail)
 go_loopg [5,6] l.length (fun f vo vi wr => ∃ (k:Nat) (acc:List Txt),vi = .int .i64 k∧k+f=l.length∧OwnIds wr w.heap.size vo acc∧Hid ((∀ x∈acc,x.length=32)∧acc.length=k)∧Below w.heap.size w wr)
 case atStart=>exact ⟨0,[],rfl,by omega,World.ownsRow_nil _ _ _ _,Lib.hid ⟨fun x hx=>by simp at hx,rfl⟩,Below.refl _ _⟩
 case round=>
  obtain ⟨k,acc,rfl,hkf,hown,hacc,hbel⟩:=hrel
  have hbs:=hbel.size
  obtain ⟨Ao,co,rfl⟩:=own_form' hown
  cases gk with
  | zero=>
    have hki : ¬ (k:Int)<(l.length:Int):=by omega
    have hke:Hid (k=l.length):=Lib.hid (by omega)
    clear hat hata
    go_wp2_with (fail)
    go_ret
    exact ⟨⟨_,acc,rfl,hown,hacc.out.1,hacc.out.2.trans hke.out⟩,hbel⟩
  | succ f=>
    have hki:(k:Int)<(l.length:Int):=by omega
    have hkl:k<l.length:=by omega
    obtain ⟨ga,oa,rfl,hga,hca⟩:=hat (by omega)
    obtain ⟨c,hc⟩ : ∃ c,l[k]?=some c:=⟨_,List.getElem?_eq_getElem (by omega)⟩
    have hcc:wr.cell? ⟨ga,oa+k,none⟩=some (.int .u8 c.toNat):=by
     have:=rangeAt_below (hca k c hc) hga hbel 0 _ rfl
     rwa [Nat.add_zero,Nat.mul_one] at this
    have hc256:c.toNat<256:=c.toNat_lt
    have hwc:IntKind.i64.wrap ((c.toNat:Nat):Int)=(c.toNat:Int):=IntWalk.i64_in _ (by omega)
    have hal2:acc.length≤1000:=by have:=hacc.out.2;omega
    have hAk:acc.length+1≤9223372036854775807:=by omega
    have hAb:(acc.length+1)*32≤140737488355328:=by omega
    have hrb:=built_one c
    have key : ∀ x:Txt,x.length=32→Hid ((x.length=32∧(u8s x).size=32∧(u8s x).size=1*32 ∧ ∀ u∈(u8s x).toList,u.oneCell'=true)∧(acc++[x]).length=acc.length+1∧rowsOf idC (acc++[x])=rowsOf idC acc++(u8s x).toList∧((∀ z∈acc++[x],z.length=32)∧(acc++[x]).length=k+1)):=fun x hx=>Lib.hid (by
     have h32:(u8s x).size=32:=by rw [u8s_size,hx]
     have hlen:(acc++[x]).length=acc.length+1:=by rw [List.length_append];rfl
     exact ⟨⟨hx,h32,h32,idC_one x⟩,hlen,by rw [rowsOf_append,rowsOf_one];rfl,fun z hz=>(List.mem_append.1 hz).elim (hacc.out.1 z) fun h=>by rw [List.mem_singleton.1 h];exact hx,by rw [hlen,hacc.out.2]⟩)
    clear hca hat hc
    have hx0:(c::List.replicate 31 (0:UInt8)).length=32:=by simp
    by_cases h0:0<all.length
    ·have h0i : ¬ (all.length:Int)=0:=by omega
     have h0b:((all.length:Int)==0)=false:=by simpa using h0i
     by_cases h200:200≤c.toNat
     ·have h2i:(200:Int)≤(c.toNat:Int):=by omega
      obtain ⟨x,hx⟩ : ∃ x,c::List.replicate 31 (0:UInt8)=x:=⟨_,rfl⟩
      rw [hx] at hrb hx0
      have hk0:=key x hx0
      obtain ⟨⟨_,hx32,hx132,hx1⟩,_⟩:=hk0.out
      clear key hx hata h0
      go_wp2_with (first
       | ((with_reducible refine lit_build1 hrb ?_ ?_);rfl)
       | ((with_reducible refine lit_slice1 (.tmp 29) Tryz.idsTy (u8s x) hx32 (by omega) ?_ ?_);rfl)
       | ((with_reducible refine lit_append_new (.tmp 24) (.tmp 30) 1 _ Tryz.idsTy hown (u8s x) hx132 hx1 hAk hAb hbs ?_ ?_ ?_);rfl;rfl
          intro v8 w8 ho8 hb8 hg8 hn8))
      have ho9:OwnIds w8 w.heap.size v8 (acc++[x]):=by unfold OwnIds;rw [hk0.out.2.1,hk0.out.2.2.1];exact ho8
      have hacc9:=Lib.hid hk0.out.2.2.2
      clear hown hacc hk0 ho8
      go_roundg f
      case rel=>exact ⟨k+1,acc++[x],by go_num,by omega,ho9,hacc9,hbel.trans hb8⟩
      case measure=>omega
     ·have h2i : ¬ (200:Int)≤(c.toNat:Int):=by omega
      obtain ⟨m,hm⟩ : ∃ m:Nat,(all.length:Int)-1-(c.toNat:Int)%(all.length:Int)=(m:Int):=by
       refine Int.eq_ofNat_of_zero_le ?_
       have:=Int.emod_lt_of_pos (c.toNat:Int) (show (0:Int)<(all.length:Int) by omega)
       omega
      have hmn:=Int.emod_nonneg (c.toNat:Int) h0i
      have hml:m<all.length:=by omega
      obtain ⟨g3,o3,rfl,hg3,hc3⟩:=hata h0
      obtain ⟨x,hx⟩ : ∃ x,all[m]?=some x:=⟨_,List.getElem?_eq_getElem hml⟩
      have hxi:=haok x (List.mem_of_getElem? hx)
      have hlx:(ldvI ⟨g3,o3+m*32,none⟩).run Tryz.prog wr = .ok (.agg (u8s x)) wr:=run_ldvI_at (show World.rangeAt wr g3 (o3+m*32) (u8s x).toList from rangeAt_below (hc3 m x hx) hg3 hbel) hxi
      have hmi:(m:Int)<(all.length:Int):=by omega
      have hLi:(0:Int)<(all.length:Int):=by omega
      have hk0:=key x hxi
      obtain ⟨⟨_,hx32,hx132,hx1⟩,_⟩:=hk0.out
      clear key hx hc3 hata hrb hx0
      generalize all.length=LN at *
      have hw1:IntKind.i64.wrap ((LN:Int)-1)=(LN:Int)-1:=IntWalk.i64_in _ (by omega)
      have hw2:IntKind.i64.wrap ((c.toNat:Int)%(LN:Int))=(c.toNat:Int)%(LN:Int):=IntWalk.i64_in _ (by have:=Int.emod_lt_of_pos (c.toNat:Int) hLi;omega)
      have hw3:IntKind.i64.wrap ((m:Int))=(m:Int):=IntWalk.i64_in _ (by omega)
      go_wp2_with (first
       | ((with_reducible refine lit_slice1 (.tmp 47) Tryz.idsTy (u8s x) hx32 (by omega) ?_ ?_);rfl)
       | ((with_reducible refine lit_append_new (.tmp 32) (.tmp 48) 1 _ Tryz.idsTy hown (u8s x) hx132 hx1 hAk hAb hbs ?_ ?_ ?_);rfl;rfl
          intro v8 w8 ho8 hb8 hg8 hn8))
      have ho9:OwnIds w8 w.heap.size v8 (acc++[x]):=by unfold OwnIds;rw [hk0.out.2.1,hk0.out.2.2.1];exact ho8
      have hacc9:=Lib.hid hk0.out.2.2.2
      clear hown hacc hk0 ho8 hlx hm hw1 hw2 hw3
      go_roundg f
      case rel=>exact ⟨k+1,acc++[x],by go_num,by omega,ho9,hacc9,hbel.trans hb8⟩
      case measure=>omega
    ·obtain rfl:all=[]:=List.length_eq_zero_iff.1 (by omega)
     obtain ⟨x,hx⟩ : ∃ x,c::List.replicate 31 (0:UInt8)=x:=⟨_,rfl⟩
     rw [hx] at hrb hx0
     have hk0:=key x hx0
     obtain ⟨⟨_,hx32,hx132,hx1⟩,_⟩:=hk0.out
     clear key hx hata h0
     go_wp2_with (first
      | ((with_reducible refine lit_build1 hrb ?_ ?_);rfl)
      | ((with_reducible refine lit_slice1 (.tmp 29) Tryz.idsTy (u8s x) hx32 (by omega) ?_ ?_);rfl)
      | ((with_reducible refine lit_append_new (.tmp 24) (.tmp 30) 1 _ Tryz.idsTy hown (u8s x) hx132 hx1 hAk hAb hbs ?_ ?_ ?_);rfl;rfl
         intro v8 w8 ho8 hb8 hg8 hn8))
     have ho9:OwnIds w8 w.heap.size v8 (acc++[x]):=by unfold OwnIds;rw [hk0.out.2.1,hk0.out.2.2.1];exact ho8
     have hacc9:=Lib.hid hk0.out.2.2.2
     clear hown hacc hk0 ho8
     go_roundg f
     case rel=>exact ⟨k+1,acc++[x],by go_num,by omega,ho9,hacc9,hbel.trans hb8⟩
     case measure=>omega
/-- A history such as is gone through. -/
def FewH (h:HisL):Prop:=(h.seeds.length≤24 ∧ ∀ x∈h.seeds,x.refs.length≤10∧x.text.length≤300)∧h.out.length≤10∧h.frm.length≤10∧h.cut.length≤10
set_option maxRecDepth 100000 in
set_option maxHeartbeats 4000000 in
theorem named_calls (h:HisL) (hf:FewH h) (vs vo vf vc:Value) (w:World) (hh:HisOk w vs vo vf vc h) :
 Calls Tryz.prog 7 #[.agg #[vs,vo,vf,vc]] w fun e w'=>(∃ v r,e = .returned v∧OwnIds w' w.heap.size v r∧(∀ x∈r,x.length=32)∧r.length≤24)∧Below w.heap.size w w':=by
 obtain ⟨W1,hW1⟩ : ∃ W1,w.alloc (.cells #[vs,vo,vf,vc] 25)=W1:=⟨_,rfl⟩
 have s1:Blk W1 w.heap.size 25 #[vs,vo,vf,vc]:=by rw [←hW1];exact Blk.new _ _ _
 have b1:Below w.heap.size w W1:=by rw [←hW1];exact (Below.refl _ _).alloc (Nat.le_refl _) _
 have c0:W1.cell? ⟨w.heap.size,0,none⟩=some vs:=s1.cell 0
 have hgr:=Lib.hid (grow_calls h.seeds (Nat.le_trans hf.1.1 (by omega)) hf.1.2 vs W1 (hh.seeds.below b1))
 have hsl:=hf.1.1
 clear hh hf s1
 go_enter Tryz.func7,Tryz.ntmps7
 go_wp2_with (first
  | ((with_reducible refine hgr.out.mono ?_);rintro e w2 ⟨⟨vm,es,vi,ids,rfl,hD,hel,hoi,hil,hok,hap⟩,hb2⟩
     have hm1:(#[vm]:Array Value).size=1:=rfl
     have hm2:(#[vm]:Array Value).all (·.oneCell')=true:=by simp [hD.one]
     obtain ⟨Ai,ci,rfl⟩:=own_form' hoi)
  | ((with_reducible refine lit_new 30 (.tmp 3) (.tmp 9) #[vm] 1 szDSt hm1 hm2 _ ?_ ?_ ?_ ?_)
     ·first | exact hm1 | rfl
     ·rfl
     ·rfl
     intro W3 hb3 hbl3))
 go_ret
 exact ⟨⟨_,ids,rfl,own_low' (own_below hoi hbl3) b1.size,hok,Nat.le_trans hil hsl⟩,bthen b1 b1.size (bthen hb2 hb2.size hbl3)⟩
end Go.Proofs.YtfdfoplmijmnaaaGreatDoor
