/- Texts of this claim, laid together: MkE, Grow, StoQ, DocA, KnG, GraN, GraQ, GraH, GraO. -/
import Derived.Test.YtlojebhcemfodaaGreatDoorMk
import Derived.Deep.RegionWith
import Derived.BigRegion
namespace Go.Proofs.YtlojebhcemfodaaGreatDoor
open Go.RowKit
attribute [local go_sem ↓] ldvI_eq ldvS_eq stvI_eq ldvO_eq
def NameV (v:Value):Prop := ∃ c:UInt8,v = .string (B [c])
structure EntS (e:EntL):Prop where
 id:e.id.length=32
 name:e.name.length=1
 k0:0≤e.kind
 k1:e.kind≤255
theorem EntS.ok {e:EntL} (h:EntS e):EntOk e:=⟨h.id,by have:=h.name;omega,by have:=h.k0;omega,by have:=h.k1;omega⟩
def oT : ObjL:=⟨2,[],[],noId,[],0,[],noId,0,[]⟩
def oTC (ve:Value):Array Value:=(objC oT ve (.slice none 0 0)).toArray
theorem entC_lenS {y:Txt} (hy:y.length=32) {n:Txt} {K:Int}:(entC ⟨n,K,y⟩).length=34:=by
 unfold entC
 simp [u8s_size,hy]
set_option maxRecDepth 100000 in
theorem built_ent3 (n:Txt) (k:Int) (x:Txt) (hx:x.length=32):Tryz.prog.built 134 [(0, .string (B n)),(1, .int .i64 k),(2, .agg (u8s x))]=some (entC ⟨n,k,x⟩).toArray:=by
 obtain ⟨f,rfl⟩:=len32 hx
 kernel_rfl
set_option maxRecDepth 100000 in
set_option maxHeartbeats 8000000 in
theorem make_tree {w:World} {vm:Value} {es:List DiL} (h:DocSt w vm es) (ids:List Txt) (hok : ∀ x∈ids,x.length=32) (hil:ids.length≤1000) (vi:Value) (hi:Ids w vi ids) (x:SdL) (hx:SdOk w x) (hr:x.refs.length≤10) (ht:x.text.length≤300) (hk:(x.kind.toNat:Int)%4=1) :
 Calls Tryz.prog 47 #[.agg #[vm],vi, .agg (sdC x).toArray] w fun e w'=>MkR w e w'∧Below w.heap.size w w':=by
 have hzo:=zeroObj
 have hz72:=zObj_size
 have hzone:zObj.all (·.oneCell')=true:=objC_all zeroO none none 0 0 0 0
 have hsz : ∀ cs:Array Value,cs.size=72→(Tryz.prog.info? 54).map (·.size)=some cs.size:=fun cs h=>by rw [h];exact szObj
 obtain ⟨W1,hW1⟩ : ∃ W1,w.alloc (.cells #[vm] 28)=W1:=⟨_,rfl⟩
 have s1:Blk W1 w.heap.size 28 #[vm]:=by rw [←hW1];exact Blk.new _ _ _
 have b1:Below w.heap.size w W1:=by rw [←hW1];exact (Below.refl _ _).alloc (Nat.le_refl _) _
 obtain ⟨W2,hW2⟩ : ∃ W2,W1.alloc (.cells (sdC x).toArray 98)=W2:=⟨_,rfl⟩
 have d2:Blk W2 W1.heap.size 98 (sdC x).toArray:=by rw [←hW2];exact Blk.new _ _ _
 have bb2:Below W1.heap.size W1 W2:=by rw [←hW2];exact (Below.refl _ _).alloc (Nat.le_refl _) _
 obtain ⟨W3,hW3⟩ : ∃ W3,W2.alloc (.cells zObj 54)=W3:=⟨_,rfl⟩
 have z3:Blk W3 W2.heap.size 54 zObj:=by rw [←hW3];exact Blk.new _ _ _
 have bb3:Below W2.heap.size W2 W3:=by rw [←hW3];exact (Below.refl _ _).alloc (Nat.le_refl _) _
 have b2:=bthen b1 b1.size bb2
 have b3:=bthen b2 b2.size bb3
 have s3:=(s1.below bb2 s1.lt).below bb3 (s1.below bb2 s1.lt).lt
 have d3:=d2.below bb3 d2.lt
 have hle2:w.heap.size≤W2.heap.size:=b2.size
 have hlt0:=s1.lt
 have hlt1:=d2.lt
 have hlt2:=z3.lt
 have fL:=fun W (hW:Below W3.heap.size W3 W)=>run_ldvS (s3.below hW s3.lt)
 have fK : ∀ W,Below W3.heap.size W3 W→W.cell? ⟨W1.heap.size,0,none⟩=some (.int .u8 x.kind.toNat):=fun W hW=>(d3.below hW d3.lt).cell 0
 have fR : ∀ W,Below W3.heap.size W3 W→W.cell? ⟨W1.heap.size,1,none⟩=some x.vr:=fun W hW=>(d3.below hW d3.lt).cell 1
 have fT : ∀ W,Below W3.heap.size W3 W→W.cell? ⟨W1.heap.size,2,none⟩=some (.int .u16 x.time):=fun W hW=>(d3.below hW d3.lt).cell 2
 have fX : ∀ W,Below W3.heap.size W3 W→W.cell? ⟨W1.heap.size,3,none⟩=some (.string (B x.text)):=fun W hW=>(d3.below hW d3.lt).cell 3
 have k3:=fK W3 (Below.refl _ _)
 have hkb:(x.kind.toNat:Int)<256:=by have:=x.kind.toNat_lt;omega
 have hsI:(Tryz.prog.info? 42).map (·.size)=some (u8s noId).size:=by rw [u8s_size,noId_len];exact sz32
 obtain ⟨A,cap,hvr,hcap1,hcap2,hat⟩:=hx.refs
 rw [hvr] at fR
 have hkc:=fun (y:Txt) (hy:y.length=32) W (hW:Below W3.heap.size W3 W)=>docKind_calls (h.below (bthen b3 b3.size hW)) y hy
 have hpk:=fun (c:UInt8) W (hW:Below W3.heap.size W3 W)=>(pick_calls (h.below (bthen b3 b3.size hW)) ids hok hil vi (hi.below (bthen b3 b3.size hW)) c.toNat (by have:=c.toNat_lt;omega) 9)
 have fBk : ∀ k,k<x.refs.length → ∃ (ga oa:Nat) (c:UInt8),A=some ⟨ga,oa,none⟩ ∧ ∀ W,Below W3.heap.size W3 W→W.cell? ⟨ga,oa+k,none⟩=some (.int .u8 c.toNat):=fun k hk=>by
  obtain ⟨ga,oa,rfl,hga,hca⟩:=hat (by omega)
  refine ⟨ga,oa,x.refs[k],rfl,fun W hW=>?_⟩
  have:=rangeAt_below (hca k _ (List.getElem?_eq_getElem hk)) hga (bthen b3 b3.size hW) 0 _ rfl
  simpa [byC,u8v] using this
 clear h hi hx fK fT fX hok hat hvr
 generalize (sdC x).toArray=SC at *
 obtain ⟨ZO,hZO⟩ : ∃ ZO,zObj=ZO:=⟨_,rfl⟩
 rw [hZO] at hzo hz72 hzone hW3 z3
 have hbd:=built_kobj 2
 have hcs:(oTC (.slice none 0 0)).size=72:=rfl
 have hc1:(oTC (.slice none 0 0)).all (·.oneCell')=true:=objC_all oT none none 0 0 0 0
 have hbd:Tryz.prog.built 54 [(0, .int .i64 2)]=some (oTC (.slice none 0 0)):=hbd
 obtain ⟨OC,hOC⟩ : ∃ OC,oTC (.slice none 0 0)=OC:=⟨_,rfl⟩
 rw [hOC] at hbd hcs hc1
 have hOC:=Lib.hid hOC
 go_enter Tryz.func47,Tryz.ntmps47
 go_wp2_with (first
  | ((with_reducible refine lit_build1 hbd ?_ ?_);rfl)
  | ((with_reducible refine lit_new 54 (.tmp 7) (.tmp 25) OC 72 szObj hcs hc1 _ ?_ ?_ ?_ ?_)
     ·first | exact hz72 | rfl
     ·rfl
     ·rfl
     intro W4 n4 b34))
 have hO4:Blk W4 W3.heap.size 54 (oTC (.slice none 0 0)):=by rw [hOC.out];exact n4
 clear n4 hbd hcs hc1
 go_loopw [8] (fun vi wr => ∃ (k:Nat) (acc:List EntL) (ve:Value),vi = .int .i64 k∧k≤x.refs.length∧k≤5∧acc.length≤k∧Hid (∀ e∈acc,EntS e)∧Blk wr W3.heap.size 54 (oTC ve)∧OwnEnts wr W3.heap.size ve acc∧Below W3.heap.size W3 wr) (fun vi _=>x.refs.length-(intOf vi).toNat)
 case atStart=>exact ⟨0,[],_,rfl,by omega,by omega,by simp,Lib.hid (fun x hx=>by simp at hx),hO4,World.ownsRow_nil _ _ _ _,b34⟩
 case round=>
  obtain ⟨k,acc,ve,rfl,hk,hk5,hal,hall,hO,hown,hbel⟩:=hrel
  have r6:=fR _ hbel
  by_cases hlt:k<x.refs.length
  ·have hki:(k:Int)<(x.refs.length:Int):=by omega
   by_cases hk6:k<5
   ·have hki5:(k:Int)<5:=by omega
    obtain ⟨ga,oa,c,rfl,fB⟩:=fBk k hlt
    have hcb:(c.toNat:Int)<256:=by have:=c.toNat_lt;omega
    have hcw:IntKind.i64.wrap (c.toNat:Int)=(c.toNat:Int):=IntWalk.i64_in _ (by omega)
    have hpk:=hpk c
    clear fBk
    go_wp2
    refine wp_region_go0 15 (by kernel_rfl) (by kernel_rfl) (by kernel_rfl) (by kernel_rfl) ?_
    simp only [exSp]
    iterate 15 apply Exists.intro
    repeat
     first
      | ((with_reducible apply lx0_ex)
         ·(go_simp;done)
         apply Exists.intro
         apply And.intro
         ·apply Eq.refl
         apply And.intro
         ·intro W hW hD
          have hW2:=hbel.trans (hW.mono hbel.size)
          have q0:=fL W hW2
          have q1:=fR W hW2
          have q2:=fB W hW2
          go_simp
          rfl
         simp only [Act.put,List.setIfInBounds_toArray,List.set_cons_zero,List.set_cons_succ])
      | ((with_reducible apply lx0_pass)
         ·(first | rfl | (go_simp;done))
         ·apply Eq.refl
         simp only [Act.put,List.setIfInBounds_toArray,List.set_cons_zero,List.set_cons_succ])
      | ((with_reducible refine lx0_new (fun v _ _=>PickV v) rfl ?_ (stab_pure PickV) ?_ ?_)
         ·(go_simp;done)
         ·intro W hW hD
          have hW2:=hbel.trans (hW.mono hbel.size)
          unfold doesAt Oper.wp execOp
          go_simp
          (with_reducible refine (hpk W hW2).mono ?_)
          rintro e w' ⟨⟨y,b,rfl,hy⟩,hb⟩
          exact ⟨hb,fun _ _ _ _=>⟨y,b,rfl,hy⟩⟩
         intro v
         simp only [Act.put,List.setIfInBounds_toArray,List.set_cons_zero,List.set_cons_succ])
      | (first | (with_reducible apply lx_move') | (with_reducible apply lx_assign')
         ·apply Eq.refl
         apply Exists.intro
         apply And.intro
         ·(go_simp;rfl)
         simp only [Act.put,List.setIfInBounds_toArray,List.set_cons_zero,List.set_cons_succ])
      | ((with_reducible apply lx_extr')
         ·apply Eq.refl
         apply Exists.intro
         apply And.intro
         ·(go_simp;rfl)
         refine ⟨fun W hW hD=>?_,?_⟩
         ·obtain ⟨F,y,b,rfl,hy⟩:=hD.at 0 rfl (by kernel_rfl)
          exact ⟨_,rfl,by simp⟩
         simp only [Act.put,List.setIfInBounds_toArray,List.set_cons_zero,List.set_cons_succ])
      | ((with_reducible apply lx_al 42 (u8s noId) zeroIdV)
         ·apply Eq.refl
         intro v
         simp only [Act.put,List.setIfInBounds_toArray,List.set_cons_zero,List.set_cons_succ])
      | ((with_reducible apply lx_st' 12 42 (u8s noId) hsI (by kernel_rfl))
         ·exact rfl
         ·apply Eq.refl
         apply Exists.intro
         apply Exists.intro
         apply And.intro
         ·(go_simp;rfl)
         apply And.intro
         ·(go_simp;rfl)
         refine ⟨?_,fun W hW hD=>?_,?_⟩
         ·first | exact List.Mem.head _ | exact List.Mem.tail _ (List.Mem.head _) | exact List.Mem.tail _ (List.Mem.tail _ (List.Mem.head _)) | exact List.Mem.tail _ (List.Mem.tail _ (List.Mem.tail _ (List.Mem.head _)))
         ·obtain ⟨F,y,b,rfl,hy⟩:=hD.at 1 rfl (by kernel_rfl)
          exact ⟨_,rfl,by rw [u8s_size,u8s_size,hy,noId_len],u8s_one y⟩)
    refine lx0_nil ?_ fun w7 hW7 hD7=>?_
    ·exact (by simp [stsOf])
    obtain ⟨_,y7,b,rfl,hy7⟩:=hD7 _ (.tail _ (.tail _ (.head _)))
    obtain ⟨_,g,cs,rfl,hcs,hg1,_,hg2⟩:=hD7 _ (.head _)
    obtain rfl:u8s y7=cs:=by injection hcs
    clear hcs hD7
    simp only [extr2_0,extr2_1]
    have b7:=hbel.trans (hW7.mono hbel.size)
    have own7:=own_below hown hW7
    have hO7:=hO.below hW7 hO.lt
    clear hpk fB hcw
    cases b
    ·go_wp2
     go_roundw
     case rel=>exact ⟨k+1,acc,ve,by go_num,by omega,by omega,by omega,hall,hO7,own7,b7⟩
     case measure=>simp [intOf];omega
    ·obtain ⟨K,hK⟩ : ∃ K,kindS (es.map (·.st)) y7=K:=⟨_,rfl⟩
     have hKb:=kindS_bounds (s:=es.map (·.st)) y7
     have hkc:=hkc y7 hy7
     simp only [hK] at hKb hkc
     have hOV2:(oTC ve)[2]?=some ve:=rfl
     have hOVs:(2:Nat)<(oTC ve).size:=by show 2<(objC oT ve _).toArray.size;rw [List.size_toArray];simp [objC]
     have hOVp : ∀ v,(oTC ve).setIfInBounds 2 v=oTC v:=fun v=>rfl
     have hpre:=preOk2 (i:=10) (j:=12) own7 hO7 (by decide)
     have hrB:=rows2 (i:=10) (j:=12) (p:=fun w=>World.ownsRow w W3.heap.size 134 34 ve acc.length (rowsOf entC acc)) (q:=fun w=>Blk w W3.heap.size 54 (oTC ve)) (v:=ve) (fun k hk=>(World.ownsRow.lt own7 k hk).1) (Nat.le_refl W3.heap.size)
     have sz7:=b7.size
     have hno1:=own_blk_ne own7 hg2 (by decide)
     have hno2:W3.heap.size≠g:=fun e=>Blk.ne_ hO7 (e▸hg2) (by decide) rfl
     have hgI:=fun W (hF:Far (rowsOfP [(10,ve.ownBlock,fun w=>World.ownsRow w W3.heap.size 134 34 ve acc.length (rowsOf entC acc)),(12,some W3.heap.size,fun w=>Blk w W3.heap.size 54 (oTC ve))]) w7 W)=>run_ldvI_at (range_blk (hF.blk hg2 (by simp [rowsOfP];exact ⟨hno1,fun e=>hno2 e.symm⟩))) hy7
     have hkl:acc.length+1≤9223372036854775807:=by omega
     have hby:(acc.length+1)*56≤140737488355328:=by omega
     obtain ⟨A3,c3,rfl⟩:=own_form' hown
     obtain ⟨OV,hOV⟩ : ∃ OV,oTC (.slice A3 acc.length c3)=OV:=⟨_,rfl⟩
     rw [hOV] at hpre hrB hgI hOV2 hOVs hOVp hO7
     have hnm:=fun W=>name_calls11 k (by omega) W
     clear hOV hK hno1 hno2
     go_wp2
     refine wp_region_goP 13 [(10,(Value.slice A3 acc.length c3).ownBlock,fun w=>World.ownsRow w W3.heap.size 134 34 (.slice A3 acc.length c3) acc.length (rowsOf entC acc)),(12,some W3.heap.size,fun w=>Blk w W3.heap.size 54 OV)] hpre (by kernel_rfl) (by kernel_rfl) (by kernel_rfl) (by kernel_rfl) ?_
     simp only [exSp]
     iterate 13 apply Exists.intro
     repeat
      first
       | ((with_reducible apply lx_ex)
          ·(go_simp;done)
          apply Exists.intro
          apply And.intro
          ·apply Eq.refl
          apply And.intro
          ·intro W hF hD
           first
            | (have hf:=far_drew hF
               have hW2:=b7.trans (hf.below sz7 hrB)
               have q0:=fL W hW2
               have q1:W.cell? ⟨W3.heap.size,2,none⟩=some (.slice A3 acc.length c3):=by rw [(hD.was 1 rfl (by kernel_rfl)).cell];exact hOV2
               have q2:=hgI W hf
               have q3:=hkc W hW2
               go_simp
               first
                | rfl
                | (with_reducible exact q3))
            | (have hf:=far_drew hF
               have hW2:=b7.trans (hf.below sz7 hrB)
               have q0:=fL W hW2
               have q2:=hgI W hf
               have q3:=hkc W hW2
               go_simp
               first
                | rfl
                | (with_reducible exact q3))
          simp only [Act.put,List.setIfInBounds_toArray,List.set_cons_zero,List.set_cons_succ])
       | ((with_reducible apply lx_pass)
          ·(first | rfl | (go_simp;done))
          ·apply Eq.refl
          simp only [Act.put,List.setIfInBounds_toArray,List.set_cons_zero,List.set_cons_succ])
       | ((with_reducible refine lx_new (fun _ v _ _=>NameV v) rfl ?_ (fun _=>stab_pure NameV) ?_ ?_)
          ·(go_simp;done)
          ·intro W hF hD
           unfold doesAt Oper.wp execOp
           go_simp
           (with_reducible refine (hnm W).mono ?_)
           rintro e w' ⟨⟨cc,rfl⟩,hb⟩
           exact ⟨hb,fun _ _ _ _=>⟨cc,rfl⟩⟩
          intro v
          simp only [Act.put,List.setIfInBounds_toArray,List.set_cons_zero,List.set_cons_succ])
       | (first | (with_reducible apply lx_move') | (with_reducible apply lx_assign')
          ·apply Eq.refl
          apply Exists.intro
          apply And.intro
          ·(go_simp;rfl)
          simp only [Act.put,List.setIfInBounds_toArray,List.set_cons_zero,List.set_cons_succ])
       | ((with_reducible apply lx_build3 (fun cs => ∃ cc:UInt8,cs=(entC ⟨[cc],K,y7⟩).toArray))
          ·apply Eq.refl
          iterate 3 apply Exists.intro
          iterate 3
           apply And.intro
           ·(go_simp;rfl)
          refine ⟨fun W hF hD=>?_,?_⟩
          ·obtain ⟨F,cc,rfl⟩:=hD.at 0 rfl (by kernel_rfl)
           exact ⟨_,built_ent3 [cc] K y7 hy7,cc,rfl⟩
          intro v
          simp only [Act.put,List.setIfInBounds_toArray,List.set_cons_zero,List.set_cons_succ])
       | ((with_reducible apply lx_slice1 Tryz.entTy (fun cs => ∃ cc:UInt8,cs=(entC ⟨[cc],K,y7⟩).toArray) (by omega))
          ·apply Eq.refl
          apply Exists.intro
          apply And.intro
          ·(go_simp;rfl)
          refine ⟨fun W hF hD=>?_,?_⟩
          ·obtain ⟨F,cs,rfl,cc,rfl⟩:=hD.at 0 rfl (by kernel_rfl)
           exact ⟨_,rfl,by rw [List.size_toArray,entC_lenS hy7],cc,rfl⟩
          intro v
          simp only [Act.put,List.setIfInBounds_toArray,List.set_cons_zero,List.set_cons_succ])
       | ((with_reducible apply lx_append1 Tryz.entTy W3.heap.size (.slice A3 acc.length c3) acc.length (rowsOf entC acc) (fun xs => ∃ cc:UInt8,xs=rowsOf entC acc++entC ⟨[cc],K,y7⟩) hkl hby)
          ·exact sz7
          ·first | exact List.Mem.head _ | exact List.Mem.tail _ (List.Mem.head _) | exact List.Mem.tail _ (List.Mem.tail _ (List.Mem.head _)) | exact List.Mem.tail _ (List.Mem.tail _ (List.Mem.tail _ (List.Mem.head _)))
          ·apply Eq.refl
          apply Exists.intro
          apply Exists.intro
          apply And.intro
          ·(go_simp;rfl)
          apply And.intro
          ·(go_simp;rfl)
          refine ⟨rfl,fun W hF hD=>?_,?_⟩
          ·obtain ⟨F,g5,cs,rfl,_,hk5,cc,rfl⟩:=hD.at 0 rfl (by kernel_rfl)
           exact ⟨g5,_,rfl,hk5,by rw [List.size_toArray,entC_lenS hy7],by rw [List.toList_toArray];exact entC_one _,cc,by rw [List.toList_toArray]⟩
          intro v
          simp only [Act.put,List.setIfInBounds_toArray,List.set_cons_zero,List.set_cons_succ])
       | ((with_reducible apply lx_put W3.heap.size 2 OV 54)
          ·exact (fun _=>by kernel_rfl)
          ·exact hOVs
          ·first | exact List.Mem.head _ | exact List.Mem.tail _ (List.Mem.head _) | exact List.Mem.tail _ (List.Mem.tail _ (List.Mem.head _)) | exact List.Mem.tail _ (List.Mem.tail _ (List.Mem.tail _ (List.Mem.head _)))
          ·apply Eq.refl
          apply Exists.intro
          apply Exists.intro
          apply And.intro
          ·(go_simp;rfl)
          apply And.intro
          ·(go_simp;rfl)
          refine ⟨rfl,fun W hF hD=>?_,?_⟩
          ·obtain ⟨F,xs,_,hv,_⟩:=hD.at 0 rfl (by kernel_rfl)
           obtain ⟨A6,c6,rfl⟩:=own_form' hv
           exact ⟨_,_,_,rfl⟩)
     refine lxP_nil ?_ fun w9 hF9 hD9=>?_
     ·exact List.nodup_nil
     have f9:=hF9
     obtain ⟨_,hg9,hb9⟩:=hD9 _ (.head _)
     obtain ⟨_,xs,⟨cc,rfl⟩,hv9,_⟩:=hD9 _ (.tail _ (.head _))
     rw [hOVp] at hb9
     have b9:=b7.trans (f9.below sz7 hrB)
     go_wp2
     go_roundw
     case rel=>exact ⟨k+1,acc++[⟨[cc],K,y7⟩],_,by go_num,by omega,by omega,by simp;omega,Lib.hid (fun e he=>by
      rcases List.mem_append.1 he with he | he
      ·exact hall.out e he
      ·rw [List.mem_singleton.1 he];exact ⟨hy7,rfl,hKb.1,hKb.2⟩),hb9,by unfold OwnEnts;rw [List.length_append,rowsOf_append,rowsOf_one];exact hv9,b9⟩
     case measure=>simp [intOf];omega
   ·have hki5 : ¬ (k:Int)<5:=by omega
    clear fBk hpk hkc
    obtain ⟨A3,c3,rfl⟩:=own_form' hown
    have hz9:=z3.below hbel z3.lt
    have hokO:ObjOk ⟨2,[],acc,noId,[],0,[],noId,0,[]⟩:=⟨noId_len,noId_len,fun e he=>(hall.out e he).ok,by simp,by simp,by simp,by simp,by simp,by simp,by simp,by simp,by simp⟩
    have hOo:ObjB wr W3.heap.size ⟨2,[],acc,noId,[],0,[],noId,0,[]⟩ (.slice A3 acc.length c3) (.slice none 0 0):=⟨hO,noId_len,noId_len⟩
    have ld:=run_ldvO hOo hokO
    have hcs:(objC ⟨2,[],acc,noId,[],0,[],noId,0,[]⟩ (.slice A3 acc.length c3) (.slice none 0 0)).toArray.size=72:=by rw [List.size_toArray];exact objC_len hokO _ _
    have hc1:=objC_all ⟨2,[],acc,noId,[],0,[],noId,0,[]⟩ A3 none acc.length c3 0 0
    have hfin:Hid (∀ w',OwnEnts w' W3.heap.size (.slice A3 acc.length c3) acc→MkR w (.returned (.agg (objC ⟨2,[],acc,noId,[],0,[],noId,0,[]⟩ (.slice A3 acc.length c3) (.slice none 0 0)).toArray)) w'):=Lib.hid fun w' ho=>⟨_,A3,none,c3,0,rfl,⟨by show acc.length≤_;omega,fun e he=>by have:=(hall.out e he).name;omega,by simp,by simp,by simp,by simp⟩,hokO,own_low' ho b3.size,World.ownsRow_nil _ _ _ _⟩
    have b9:=bthen b3 b3.size hbel
    generalize (objC ⟨2,[],acc,noId,[],0,[],noId,0,[]⟩ (.slice A3 acc.length c3) (.slice none 0 0)).toArray=OR at *
    go_wp2_with (first
     | (refine wpList_store_row rfl 54 (.tmp 6) (.tmp 62) rfl W2.heap.size OR rfl rfl _ _ hz9 (hsz _ hcs) (hz72.trans hcs.symm) hc1 ?_))
    refine bodyPost_ret (results_cell_row rfl _ _ W2.heap.size _ _ _ _ rfl (setRow_heap _ _ _ _ _ _ hz9) Tryz.underlying54 rfl (hsz _ hcs)) rfl ⟨hfin.out _ (own_row hown hlt2 OR),below_setRow b9 hle2 _⟩
  ·have hki : ¬ (k:Int)<(x.refs.length:Int):=by omega
   clear fBk hpk hkc
   obtain ⟨A3,c3,rfl⟩:=own_form' hown
   have hz9:=z3.below hbel z3.lt
   have hokO:ObjOk ⟨2,[],acc,noId,[],0,[],noId,0,[]⟩:=⟨noId_len,noId_len,fun e he=>(hall.out e he).ok,by simp,by simp,by simp,by simp,by simp,by simp,by simp,by simp,by simp⟩
   have hOo:ObjB wr W3.heap.size ⟨2,[],acc,noId,[],0,[],noId,0,[]⟩ (.slice A3 acc.length c3) (.slice none 0 0):=⟨hO,noId_len,noId_len⟩
   have ld:=run_ldvO hOo hokO
   have hcs:(objC ⟨2,[],acc,noId,[],0,[],noId,0,[]⟩ (.slice A3 acc.length c3) (.slice none 0 0)).toArray.size=72:=by rw [List.size_toArray];exact objC_len hokO _ _
   have hc1:=objC_all ⟨2,[],acc,noId,[],0,[],noId,0,[]⟩ A3 none acc.length c3 0 0
   have hfin:Hid (∀ w',OwnEnts w' W3.heap.size (.slice A3 acc.length c3) acc→MkR w (.returned (.agg (objC ⟨2,[],acc,noId,[],0,[],noId,0,[]⟩ (.slice A3 acc.length c3) (.slice none 0 0)).toArray)) w'):=Lib.hid fun w' ho=>⟨_,A3,none,c3,0,rfl,⟨by show acc.length≤_;omega,fun e he=>by have:=(hall.out e he).name;omega,by simp,by simp,by simp,by simp⟩,hokO,own_low' ho b3.size,World.ownsRow_nil _ _ _ _⟩
   have b9:=bthen b3 b3.size hbel
   generalize (objC ⟨2,[],acc,noId,[],0,[],noId,0,[]⟩ (.slice A3 acc.length c3) (.slice none 0 0)).toArray=OR at *
   go_wp2_with (first
    | (refine wpList_store_row rfl 54 (.tmp 6) (.tmp 62) rfl W2.heap.size OR rfl rfl _ _ hz9 (hsz _ hcs) (hz72.trans hcs.symm) hc1 ?_))
   refine bodyPost_ret (results_cell_row rfl _ _ W2.heap.size _ _ _ _ rfl (setRow_heap _ _ _ _ _ _ hz9) Tryz.underlying54 rfl (hsz _ hcs)) rfl ⟨hfin.out _ (own_row hown hlt2 OR),below_setRow b9 hle2 _⟩
end Go.Proofs.YtlojebhcemfodaaGreatDoor
namespace Go.Proofs.YtlojebhcemfodaaGreatDoor
open Go.RowKit
theorem make1_calls {w:World} {vm:Value} {es:List DiL} (h:DocSt w vm es) (ids:List Txt) (hok : ∀ x∈ids,x.length=32) (hil:ids.length≤1000) (vi:Value) (hi:Ids w vi ids) (x:SdL) (hx:SdOk w x) (hr:x.refs.length≤10) (ht:x.text.length≤300) :
 Calls Tryz.prog 47 #[.agg #[vm],vi, .agg (sdC x).toArray] w fun e w'=>MkR w e w'∧Below w.heap.size w w':=by
 have h4:(x.kind.toNat:Int)%4=0∨(x.kind.toNat:Int)%4=1∨(x.kind.toNat:Int)%4=2∨(x.kind.toNat:Int)%4=3:=by omega
 rcases h4 with h4 | h4 | h4 | h4
 ·exact make_blob h ids hok hil vi hi x hx hr ht h4
 ·exact make_tree h ids hok hil vi hi x hx hr ht h4
 ·exact make_commit h ids hok hil vi hi x hx hr ht h4
 ·exact make_tag h ids hok hil vi hi x hx hr ht h4
def ldvSd (p:Addr):Sem Value:=loadVar 98 p
theorem ldvSd_eq (p:Addr):loadVar 98 p=ldvSd p:=rfl
theorem run_ldvSd {w:World} {g o:Nat} {e:SdL} (h:w.rangeAt g o (sdC e)):(ldvSd ⟨g,o,none⟩).run Tryz.prog w = .ok (.agg (sdC e).toArray) w:=run_loadVar_mid w g o 98 (sdC e) _ h Tryz.underlying98 rfl szSeed
attribute [local go_sem ↓] ldvI_eq ldvS_eq stvI_eq stvS_eq ldvSd_eq
/-- What make1 tells, amid a region. -/
def MkV (B:Nat) (v:Value) (F:Foot) (w:World):Prop := ∃ o A1 A2 k1 k2,v = .agg (objC o (.slice A1 o.ents.length k1) (.slice A2 o.pars.length k2)).toArray∧Small o∧ObjOk o∧ownR B 134 34 o.ents.length (rowsOf entC o.ents) (.slice A1 o.ents.length k1) F w∧ownR B 42 32 o.pars.length (rowsOf idC o.pars) (.slice A2 o.pars.length k2) F w
theorem MkV_stab (B:Nat) (v:Value):Stab (MkV B v):=fun F F' w w' hf ha ⟨o,A1,A2,k1,k2,e,h1,h2,h3,h4⟩=>⟨o,A1,A2,k1,k2,e,h1,h2,ownR_stab _ _ _ _ _ _ F F' w w' hf ha h3,ownR_stab _ _ _ _ _ _ F F' w w' hf ha h4⟩
def EncV (v:Value):Prop := ∃ t b,v = .tuple #[.string (B t), .bool b]∧t.length≤4096
theorem encD_V (o:ObjL):EncV (encD o):=by
 cases h:encO o with
 | none=>exact ⟨[],false,encD_none h,by simp⟩
 | some t=>
   refine ⟨t,true,encD_some h,?_⟩
   unfold encO at h
   split at h
   ·rename_i hc
    injection h with h
    rw [←h];exact hc.2
   ·cases h
theorem DocSt.one {w:World} {vm:Value} {es:List DiL} (h:DocSt w vm es):vm.oneCell'=true:=by
 obtain ⟨A,c,rfl⟩:=own_form' h.own
 rfl
theorem grow_id (w:World) (a b:Array Value) (T:TypeId) (c:Array Value) (S:TypeId):Blk (((w.alloc (.cells a T)).alloc (.cells b S)).setRow w.heap.size c) (w.heap.size+1) S b:=by
 unfold Blk
 rw [setRow_other _ _ _ _ (by omega)]
 have:=Blk.new (w.alloc (.cells a T)) S b
 rwa [size_alloc'] at this
/-- What Grow tells: some store, some ids. -/
def GrowR (w:World) (n:Nat) (e:Ending) (w':World):Prop := ∃ vm es vi ids,e = .returned (.tuple #[.agg #[vm],vi])∧DocSt w' vm es∧es.length≤n∧OwnIds w' w.heap.size vi ids∧ids.length≤n∧(∀ x∈ids,x.length=32)∧Apart vi vm es
set_option maxRecDepth 100000 in
set_option maxHeartbeats 16000000 in
theorem grow_calls (l:List SdL) (hl:l.length≤100) (hsm : ∀ x∈l,x.refs.length≤10∧x.text.length≤300) (va:Value) (w:World) (h:Seeds w va l) :
 Calls Tryz.prog 24 #[va] w fun e w'=>GrowR w l.length e w'∧Below w.heap.size w w':=by
 have hzI:=zeroIdV
 have hZ32:(u8s noId).size=32:=by rw [u8s_size,noId_len]
 have hbS:Tryz.prog.built 28 []=some #[.slice none 0 0]:=by kernel_rfl
 have hrb:=fun W=>run_build (P:=Tryz.prog) W _ _ _ hbS
 have hS0:(#[Value.slice none 0 0]:Array Value).size=1:=rfl
 have hS1:(#[Value.slice none 0 0]:Array Value).all (·.oneCell')=true:=by kernel_rfl
 obtain ⟨W1,hW1⟩ : ∃ W1,w.alloc (.cells #[.slice none 0 0] 28)=W1:=⟨_,rfl⟩
 have r1:Blk W1 w.heap.size 28 #[.slice none 0 0]:=by rw [←hW1];exact Blk.new _ _ _
 have b1:Below w.heap.size w W1:=by rw [←hW1];exact (Below.refl _ _).alloc (Nat.le_refl _) _
 have hlt0:=r1.lt
 have hat0:=h.at_
 have heach:=h.each
 obtain ⟨A,cap,rfl,hcap1,hcap2,hat⟩:=hat0
 clear h
 go_enter Tryz.func24,Tryz.ntmps24
 go_wp2_with (first
  | ((with_reducible refine lit_new 28 (.tmp 4) (.tmp 12) #[.slice none 0 0] 1 szDSt hS0 hS1 _ ?_ ?_ ?_ ?_)
     ·exact hS0
     ·rfl
     ·rfl
     intro W2 m2 b12))
 have hlt1:=m2.lt
 have hD2:DocSt W2 (.slice none 0 0) []:=⟨World.ownsRow_nil _ _ _ _,fun e he=>by simp at he,StoOk.nil⟩
 clear hrb hS0 hS1
 go_loopw [5,6] (fun v5 v6 wr => ∃ (k:Nat) (vm:Value) (es:List DiL) (ids:List Txt),v6 = .int .i64 k∧k≤l.length∧es.length≤k∧ids.length≤k∧Hid (∀ x∈ids,x.length=32)∧Blk wr W1.heap.size 28 #[vm]∧DocSt wr vm es∧OwnIds wr W2.heap.size v5 ids∧Apart v5 vm es∧Below W1.heap.size W1 wr∧W2.heap.size≤wr.heap.size) (fun _ v6 _=>l.length-(intOf v6).toNat)
 case atStart=>exact ⟨0,_,[],[],rfl,by omega,by simp,by simp,Lib.hid (fun x hx=>by simp at hx),m2,hD2,World.ownsRow_nil _ _ _ _,fun k hk=>by simp [Value.ownBlock] at hk,b12,Nat.le_refl _⟩
 case round=>
  obtain ⟨k,vm,es,ids,rfl,hk,hel,hil,hids,hM,hD,hown,hap,hbel,hsz2⟩:=hrel
  by_cases hlt:k<l.length
  ·have hki:(k:Int)<(l.length:Int):=by omega
   obtain ⟨ga,oa,rfl,hga,hca⟩:=hat (by omega)
   obtain ⟨x,hx⟩ : ∃ x,l[k]?=some x:=⟨_,List.getElem?_eq_getElem hlt⟩
   have hxm:=List.mem_of_getElem? hx
   obtain ⟨hx1,hx2⟩:=hsm x hxm
   have hxo:=heach x hxm
   have hbr:Below w.heap.size w wr:=bthen b1 b1.size hbel
   have fS:=fun W (hW:Below wr.heap.size wr W)=>run_ldvSd (rangeAt_below (hca k x hx) hga (bthen hbr hbr.size hW))
   have fM:=fun W (hW:Below wr.heap.size wr W)=>run_ldvS (hM.below hW hM.lt)
   have hiW:=fun W (hW:Below wr.heap.size wr W)=>SliceAt.of_own (fun e h=>idC_len (hids.out e h)) (own_below hown hW)
   have hmk:=fun W (hW:Below wr.heap.size wr W)=>make1_calls (hD.below hW) ids hids.out (by omega) _ (hiW W hW) x (hxo.below (bthen hbr hbr.size hW)) hx1 hx2
   have hlth:(k:Nat)<l.length:=hlt
   clear hx hca hat heach hsm hxm hxo hiW
   generalize (sdC x).toArray=SC at *
   go_wp2
   refine wp_region_go0 13 (by kernel_rfl) (by kernel_rfl) (by kernel_rfl) (by kernel_rfl) ?_
   simp only [exSp]
   iterate 13 apply Exists.intro
   repeat
    first
     | ((with_reducible apply lx0_ex)
        ·(go_simp;done)
        apply Exists.intro
        apply And.intro
        ·apply Eq.refl
        apply And.intro
        ·intro W hW hD
         have q0:=fM W hW
         have q1:=fS W hW
         go_simp
         rfl
        simp only [Act.put,List.setIfInBounds_toArray,List.set_cons_zero,List.set_cons_succ])
     | ((with_reducible apply lx0_pass)
        ·(first | rfl | (go_simp;done))
        ·apply Eq.refl
        simp only [Act.put,List.setIfInBounds_toArray,List.set_cons_zero,List.set_cons_succ])
     | ((with_reducible refine lx0_new (MkV wr.heap.size) rfl ?_ (MkV_stab _) ?_ ?_)
        ·(go_simp;done)
        ·intro W hW hD
         unfold doesAt Oper.wp execOp
         go_simp
         (with_reducible refine (hmk W hW).mono ?_)
         rintro e w' ⟨⟨o,A1,A2,k1,k2,rfl,h1,h2,h3,h4⟩,hb⟩
         exact ⟨hb,fun F f1 f2 f3=>⟨o,A1,A2,k1,k2,rfl,h1,h2,ownR_new hW.size h3 F f1 f2 f3,ownR_new hW.size h4 F f1 f2 f3⟩⟩
        intro v
        simp only [Act.put,List.setIfInBounds_toArray,List.set_cons_zero,List.set_cons_succ])
     | ((with_reducible refine lx0_new (fun v _ _=>EncV v) rfl ?_ (stab_pure EncV) ?_ ?_)
        ·(go_simp;done)
        ·intro W hW hD
         obtain ⟨F,o,A1,A2,k1,k2,rfl,h1,h2,h3,h4⟩:=hD.at 0 rfl (by kernel_rfl)
         have hc:=refEncode_calls o h1 A1 A2 k1 k2 W ⟨h2,SliceAt.of_own (fun e h=>entC_len (h2.ents e h)) h3.1,SliceAt.of_own (fun e h=>idC_len (h2.pars e h)) h4.1⟩
         unfold doesAt Oper.wp execOp
         go_simp
         (with_reducible refine hc.mono ?_)
         rintro e w' ⟨rfl,hb⟩
         exact ⟨hb,fun _ _ _ _=>encD_V o⟩
        intro v
        simp only [Act.put,List.setIfInBounds_toArray,List.set_cons_zero,List.set_cons_succ])
     | (first | (with_reducible apply lx_move') | (with_reducible apply lx_assign')
        ·apply Eq.refl
        apply Exists.intro
        apply And.intro
        ·(go_simp;rfl)
        simp only [Act.put,List.setIfInBounds_toArray,List.set_cons_zero,List.set_cons_succ])
     | ((with_reducible apply lx_extr')
        ·apply Eq.refl
        apply Exists.intro
        apply And.intro
        ·(go_simp;rfl)
        refine ⟨fun W hW hD=>?_,?_⟩
        ·obtain ⟨F,t,b,rfl,ht⟩:=hD.at 0 rfl (by kernel_rfl)
         exact ⟨_,rfl,by simp⟩
        simp only [Act.put,List.setIfInBounds_toArray,List.set_cons_zero,List.set_cons_succ])
   refine lx0_nil ?_ fun w6 hW6 hD6=>?_
   ·exact List.nodup_nil
   obtain ⟨_,t,b,rfl,htl⟩:=hD6 _ (.head _)
   simp only [extr2_0,extr2_1]
   have b6:=hbel.trans (hW6.mono hbel.size)
   have M6:=hM.below hW6 hM.lt
   have D6:=hD.below hW6
   have own6:=own_below hown hW6
   have sz6:W2.heap.size≤w6.heap.size:=Nat.le_trans hsz2 hW6.size
   clear hD6 hmk fS
   cases b
   ·go_wp2
    go_roundw
    case rel=>exact ⟨k+1,vm,es,ids,by go_num,by omega,by omega,by omega,hids,M6,D6,own6,hap,b6,sz6⟩
    case measure=>simp [intOf];omega
   ·have lM:=run_ldvS M6
    have hwi:=Lib.hid (docWith_calls D6 (by omega) t (by omega))
    have hpl:=putS_len (es.map (·.st)) t
    rw [List.length_map] at hpl
    have hpi:(putI t).length=32:=by
     unfold putI
     split
     ·rfl
     ·exact shaOf_length _
    obtain ⟨pn,hpn⟩ : ∃ pn,putI t=pn:=⟨_,rfl⟩
    obtain ⟨bf,hbf⟩ : ∃ bf,(decO t).isSome=bf:=⟨_,rfl⟩
    obtain ⟨PL,hPL⟩ : ∃ PL,putS (es.map (·.st)) t=PL:=⟨_,rfl⟩
    unfold WithR at hwi
    rw [hpn] at hpi hwi
    rw [hbf,hPL] at hwi
    rw [hPL] at hpl
    have hp32:(u8s pn).size=32:=by rw [u8s_size,hpi]
    have hpo:=u8s_one pn
    have hszI:(Tryz.prog.info? 42).map (·.size)=some (u8s pn).size:=by rw [hp32];exact sz32
    clear hpn hbf hPL
    go_upto_region 9 with (first
     | ((with_reducible refine hwi.out.mono ?_);rintro e w7 ⟨⟨vm7,es7,rfl,D7,hmap,hold, -⟩,b67⟩)
     | (refine wpList_store_row rfl 28 (.tmp 9) (.tmp 35) rfl w7.heap.size #[vm7] rfl rfl _ #[.slice none 0 0] ((Blk.new _ _ _).alloc _) szDSt rfl (by simp [D7.one]) ?_)
     | (refine wpList_store_row rfl 42 (.tmp 10) (.tmp 36) rfl (w7.heap.size+1) (u8s pn) rfl rfl _ (u8s noId) (grow_id _ _ _ _ _ _) hszI (by rw [hp32,hZ32]) hpo ?_))
    obtain ⟨W8,hW8⟩ : ∃ W8,(((w7.alloc (.cells #[.slice none 0 0] 28)).alloc (.cells (u8s noId) 42)).setRow w7.heap.size #[vm7]).setRow (w7.heap.size+1) (u8s pn)=W8:=⟨_,rfl⟩
    have b78:Below w7.heap.size w7 W8:=by
     rw [←hW8]
     exact below_setRow (below_setRow (((Below.refl _ _).alloc (Nat.le_refl _) _).alloc (by rw [size_alloc'];omega) _) (Nat.le_refl _) _) (by omega) _
    have g9:Blk W8 w7.heap.size 28 #[vm7]:=by
     rw [←hW8]
     unfold Blk
     rw [setRow_other _ _ _ _ (by omega)]
     exact setRow_heap _ _ _ _ _ _ ((Blk.new _ _ _).alloc _)
    have g10:Blk W8 (w7.heap.size+1) 42 (u8s pn):=by
     rw [←hW8]
     exact setRow_heap _ _ _ _ _ _ (grow_id _ _ _ _ _ _)
    rw [hW8]
    have b68:Below w6.heap.size w6 W8:=bthen b67 b67.size b78
    have b8:=b6.trans (b68.mono b6.size)
    have M8:=M6.below b68 M6.lt
    have D8:=D7.below b78
    have O8:=D6.below b68
    have own8:=own_below own6 b68
    have sz8:W2.heap.size≤W8.heap.size:=Nat.le_trans sz6 b68.size
    have hel7:es7.length≤es.length+1:=by rw [←hmap,List.length_map] at hpl;exact hpl
    have hap8:=hap.with_ own6 own8 D8 hold
    clear hwi hW8 hmap hold
    cases bf
    ·go_wp2
     go_roundw
     case rel=>exact ⟨k+1,vm,es,ids,by go_num,by omega,by omega,by omega,hids,M8,O8,own8,hap,b8,sz8⟩
     case measure=>simp [intOf];omega
    ·have l9:=run_ldvS g9
     have hno:=D8.blk_ne M8 (by decide) (by decide) (by decide)
     have D9:=D8.row hno #[vm7]
     have own9:=own_row own8 hlt1 #[vm7]
     have hne10:w7.heap.size+1≠W1.heap.size:=by have:=M6.lt;have:=b67.size;omega
     have g109:Blk (W8.setRow W1.heap.size #[vm7]) (w7.heap.size+1) 42 (u8s pn):=keep_row g10 hne10 _
     have l10:=run_ldvI_at (range_blk g109) hpi
     have M9:Blk (W8.setRow W1.heap.size #[vm7]) W1.heap.size 28 #[vm7]:=setRow_heap _ _ _ _ _ _ M8
     have b9:=below_setRow b8 (Nat.le_refl _) #[vm7]
     have sz9:W2.heap.size≤(W8.setRow W1.heap.size #[vm7]).heap.size:=by simpa using sz8
     have hid32:(u8s pn).size=32:=hp32
     have hidl:(u8s pn).size=1*32:=hp32
     have hid1 : ∀ u∈(u8s pn).toList,u.oneCell'=true:=idC_one pn
     have hids2:Hid (∀ z∈ids++[pn],z.length=32):=Lib.hid fun z hz=>by
      rcases List.mem_append.1 hz with hz | hz
      ·exact hids.out z hz
      ·rw [List.mem_singleton.1 hz];exact hpi
     have hrow:Hid (rowsOf idC (ids++[pn])=rowsOf idC ids++(u8s pn).toList):=Lib.hid (by rw [rowsOf_append,rowsOf_one];rfl)
     have hkl:ids.length+1≤9223372036854775807:=by omega
     have hm2:(ids.length+1)*32≤140737488355328:=by omega
     have hone7:(#[vm7]:Array Value).all (·.oneCell')=true:=by simp [D7.one]
     have hdM:=own_blk_ne own9 M9 (by decide)
     have hszS1:(Tryz.prog.info? 28).map (·.size)=some (#[vm7]:Array Value).size:=szDSt
     clear hpi g10 g109 g9 hp32
     generalize u8s pn=XC at *
     go_wp2_with (first
      | (refine wpList_store_row rfl 28 (.tmp 4) (.tmp 39) rfl W1.heap.size #[vm7] rfl rfl _ _ M8 hszS1 rfl hone7 ?_)
      | ((with_reducible refine lit_slice1 (.tmp 41) Tryz.idsTy XC hid32 (by omega) ?_ ?_);rfl)
      | (at_builtin
         (with_reducible refine lit_append_new (.tmp 40) (.tmp 42) 1 _ Tryz.idsTy own9 XC hidl hid1 hkl hm2 sz9 ?_ ?_ ?_);rfl;rfl
         intro v10 w10 hv10 hb10 hg10 hn10
         have b10:=b9.trans (hb10.mono (Nat.le_of_lt hlt1))
         have M10:=Blk.grown M9 hg10 hdM
         have D10:=D9.grown hg10 (fun k hk=>hap8 k hk)
         have hap10:=(Apart.newer hap8 D9 hn10)
         have hap10b:Apart v10 vm7 es7:=hap10
         have sz10:W2.heap.size≤w10.heap.size:=Nat.le_trans sz9 hg10.size
         clear hg10 hn10 hap10))
     go_roundw
     case rel=>exact ⟨k+1,vm7,es7,ids++[pn],by go_num,by omega,by omega,by simp;omega,hids2,M10,D10,by unfold OwnIds;rw [List.length_append,hrow.out];exact hv10,hap10b,b10,sz10⟩
     case measure=>simp [intOf];omega
  ·have hki : ¬ (k:Int)<(l.length:Int):=by omega
   have lM:=run_ldvS hM
   have rr:=r1.below hbel hlt0
   have hno:=hD.blk_ne rr (by decide) (by decide) (by decide)
   have hbr:Below w.heap.size w wr:=bthen b1 b1.size hbel
   have hszS1:(Tryz.prog.info? 28).map (·.size)=some (#[vm]:Array Value).size:=szDSt
   have hone7:(#[vm]:Array Value).all (·.oneCell')=true:=by simp [hD.one]
   clear hat heach hsm
   go_wp2_with (first
    | (refine wpList_store_row rfl 28 (.tmp 2) (.tmp 44) rfl w.heap.size #[vm] rfl rfl _ _ rr hszS1 rfl hone7 ?_))
   refine bodyPost_ret (results_row_tmp rfl _ _ w.heap.size _ _ _ _ rfl (setRow_heap _ _ _ _ _ _ rr) Tryz.underlying28 rfl hszS1) rfl ⟨⟨vm,es,_,ids,rfl,hD.row hno _,by omega,own_down (own_row hown (Nat.lt_trans hlt0 hlt1) _) (Nat.le_of_lt (Nat.lt_trans hlt0 hlt1)),by omega,hids.out,by exact hap⟩,below_setRow hbr (Nat.le_refl _) _⟩
end Go.Proofs.YtlojebhcemfodaaGreatDoor
namespace Go.Proofs.YtlojebhcemfodaaGreatDoor
open Go.RowKit
theorem StIs.putI {x:StL} (h:StIs x):putI x.text=x.id:=by
 obtain ⟨h1,o,ho⟩:=h
 unfold Go.Proofs.YtlojebhcemfodaaGreatDoor.putI
 rw [ho];exact h1.symm
theorem StIs.putC {x:StL} (h:StIs x):putC x.text=0:=by
 obtain ⟨h1,o,ho⟩:=h
 unfold Go.Proofs.YtlojebhcemfodaaGreatDoor.putC
 rw [ho]
theorem StIs.putS {x:StL} (h:StIs x) (s:List StL):putS s x.text=if hasK StL.id s x.id then s else insK StL.id s x:=by
 obtain ⟨h1,o,ho⟩:=h
 unfold Go.Proofs.YtlojebhcemfodaaGreatDoor.putS
 rw [ho]
 simp only [←h1]
theorem sorted_split {s:List StL} {x:StL} {k:Nat} (h:SortedK StL.id s) (hx:s[k]?=some x):(∀ y∈s.take k,Op.bytesLess y.id x.id=true) ∧ ∀ y∈s.drop (k+1),Op.bytesLess x.id y.id=true:=by
 have hlt:=(List.getElem?_eq_some_iff.1 hx).1
 have e:s=s.take k++x::s.drop (k+1):=by
  rw [←(List.getElem?_eq_some_iff.1 hx).2,←List.drop_eq_getElem_cons hlt,List.take_append_drop]
 unfold SortedK at h
 rw [e,List.pairwise_append] at h
 exact ⟨fun y hy=>h.2.2 y hy x (by simp),fun y hy=>(List.pairwise_cons.1 h.2.1).1 y hy⟩
theorem takeWhile_full {α:Type} {p:α→Bool} : ∀ {l:List α},(∀ y∈l,p y=true)→l.takeWhile p=l
 | [],_=>rfl
 | y::l,h=>by rw [List.takeWhile_cons,if_pos (h y (by simp)),takeWhile_full fun z hz=>h z (by simp [hz])]
/-- Items are put one behind the other, from the first one; from the last one. -/
theorem putS_rise {s:List StL} (h:StoOk s) {k:Nat} {x:StL} (hx:s[k]?=some x):putS (s.take k) x.text=s.take (k+1):=by
 have hl:=(sorted_split h.sorted hx).1
 rw [(h.each x (List.mem_of_getElem? hx)).putS,if_neg,insK,show posK StL.id (s.take k) (StL.id x)=(s.take k).length by unfold posK;rw [takeWhile_full hl],List.take_length,List.drop_length,List.append_nil,List.take_add_one,hx]
 ·rfl
 ·unfold hasK
  rw [Bool.not_eq_true,List.any_eq_false]
  intro y hy
  rw [less_ne (hl y hy)]
  simp
theorem StoOk.take {s:List StL} (h:StoOk s) (k:Nat):StoOk (s.take k):=⟨fun x hx=>h.each x (List.mem_of_mem_take hx),h.sorted.sublist (List.take_sublist _ _),by rw [List.length_take];have:=h.few;omega⟩
end Go.Proofs.YtlojebhcemfodaaGreatDoor
namespace Go.Proofs.YtlojebhcemfodaaGreatDoor
open Go.RowKit
attribute [local go_sem ↓] ldvI_eq ldvS_eq
def txC (t:Txt):List Value:=[.string (B t)]
/-- Texts that are put, one behind the other. -/
def putL11 (s:List StL) (l:List Txt):List StL:=l.foldl putS s
theorem putL11_more {s:List StL} {l:List Txt} {k:Nat} {t:Txt} (h:l[k]?=some t):putL11 s (l.take (k+1))=putS (putL11 s (l.take k)) t:=by
 unfold putL11
 rw [List.take_add_one,h,List.foldl_append]
 rfl
/-- What a store uses is what another one does, or lies from B on. -/
def UseOr (B:Nat) (vm:Value) (es:List DiL) (vm':Value) (es':List DiL):Prop := ∀ k,DocUse vm' es' k→DocUse vm es k∨B≤k
theorem UseOr.with_ {B:Nat} {vm vm':Value} {es es':List DiL} (h : ∀ e∈es',OldOr B es e) (hv:vm'=vm ∨ ∀ k,vm'.ownBlock=some k→B≤k):UseOr B vm es vm' es':=by
 intro k hk
 rcases hk with hk | ⟨e,he,hk⟩
 ·rcases hv with rfl | hv
  ·exact .inl (.inl hk)
  ·exact .inr (hv k hk)
 ·rcases h e he with h1 | ⟨h1,h2⟩
  ·exact .inl (.inr ⟨e,h1,hk⟩)
  ·rcases hk with hk | hk
   ·exact .inr (h1 k hk)
   ·exact .inr (h2 k hk)
theorem UseOr.trans {B B':Nat} {vm vm' vm2:Value} {es es' es2:List DiL} (h:UseOr B vm es vm' es') (h':UseOr B' vm' es' vm2 es2) (hB:B≤B'):UseOr B vm es vm2 es2:=fun k hk=>by
 rcases h' k hk with h1 | h1
 ·exact h k h1
 ·exact .inr (Nat.le_trans hB h1)
/-- What All tells. -/
def AllR (B:Nat) (vm:Value) (es:List DiL) (L:List StL) (e:Ending) (w':World):Prop := ∃ vm' es',e = .returned (.agg #[vm'])∧DocSt w' vm' es'∧es'.map (·.st)=L∧UseOr B vm es vm' es'
set_option maxRecDepth 100000 in
set_option maxHeartbeats 8000000 in
theorem docAll_calls {w:World} {vm:Value} {es:List DiL} (h:DocSt w vm es) (l:List Txt) (hlt : ∀ t∈l,t.length≤5000) (hn:es.length+l.length<490000) (v:Value) (hv:SliceAt w 1 txC v l) :
 Calls Tryz.prog 27 #[.agg #[vm],v] w fun e w'=>AllR w.heap.size vm es (putL11 (es.map (·.st)) l) e w'∧Below w.heap.size w w':=by
 obtain ⟨W1,hW1⟩ : ∃ W1,w.alloc (.cells #[vm] 28)=W1:=⟨_,rfl⟩
 have s1:Blk W1 w.heap.size 28 #[vm]:=by rw [←hW1];exact Blk.new _ _ _
 have b1:Below w.heap.size w W1:=by rw [←hW1];exact (Below.refl _ _).alloc (Nat.le_refl _) _
 obtain ⟨W2,hW2⟩ : ∃ W2,W1.alloc (.cells #[.slice none 0 0] 28)=W2:=⟨_,rfl⟩
 have r2:Blk W2 W1.heap.size 28 #[.slice none 0 0]:=by rw [←hW2];exact Blk.new _ _ _
 have bb2:Below W1.heap.size W1 W2:=by rw [←hW2];exact (Below.refl _ _).alloc (Nat.le_refl _) _
 have b2:=bthen b1 b1.size bb2
 have s2:=s1.below bb2 s1.lt
 have hle1:w.heap.size≤W1.heap.size:=b1.size
 have hlt1:w.heap.size<W1.heap.size:=s1.lt
 have hD2:=h.below b2
 obtain ⟨L,hL⟩ : ∃ L,putL11 (es.map (·.st)) l=L:=⟨_,rfl⟩
 rw [hL]
 obtain ⟨S0,hS0⟩ : ∃ S0,es.map (·.st)=S0:=⟨_,rfl⟩
 rw [hS0] at hL
 have hel:es.length=S0.length:=by rw [←hS0,List.length_map]
 rw [hel] at hn
 obtain ⟨B1,hB1⟩ : ∃ B1,W1.heap.size=B1:=⟨_,rfl⟩
 rw [hB1] at r2 hle1 hlt1
 have hszS : ∀ vm:Value,(Tryz.prog.info? 28).map (·.size)=some (#[vm]:Array Value).size:=fun vm=>szDSt
 obtain ⟨A,cap,rfl,hcap1,hcap2,hat⟩:=hv
 have hu0:Hid (UseOr w.heap.size vm es vm es):=Lib.hid fun k hk => .inl hk
 obtain ⟨vm0,hvm0⟩ : ∃ v,v=vm:=⟨_,rfl⟩
 obtain ⟨es0,hes0⟩ : ∃ l,l=es:=⟨_,rfl⟩
 rw [show AllR w.heap.size vm es L=AllR w.heap.size vm0 es0 L by rw [hvm0,hes0]]
 rw [show UseOr w.heap.size vm es vm es=UseOr w.heap.size vm0 es0 vm es by rw [hvm0,hes0]] at hu0
 clear hvm0 hes0
 replace hL:=Lib.hid hL
 have hS0':Hid (es.map (·.st)=putL11 S0 (l.take 0)):=Lib.hid (by rw [hS0];rfl)
 clear hel s1 b1 h bb2
 go_enter Tryz.func27,Tryz.ntmps27
 go_wp2_with (fail)
 try rw [hB1]
 go_loopg [5] l.length (fun f vi wr => ∃ (k:Nat) (vm:Value) (es:List DiL),vi = .int .i64 k∧k+f=l.length∧Blk wr w.heap.size 28 #[vm]∧Blk wr B1 28 #[.slice none 0 0]∧DocSt wr vm es∧Hid (es.map (·.st)=putL11 S0 (l.take k))∧es.length≤S0.length+k∧Hid (UseOr w.heap.size vm0 es0 vm es)∧Below w.heap.size w wr)
 case atStart=>exact ⟨0,vm,es,rfl,by omega,s2,r2,hD2,hS0',by rw [←hS0,List.length_map];omega,hu0,b2⟩
 case round=>
  clear s2 r2 hD2 hS0' b2 hS0 hW1 hW2 hu0
  obtain ⟨k,vm,es,rfl,hkf,hs,hr,hD,hm,hlen,hu,hbel⟩:=hrel
  have hbs:=hbel.size
  cases gk with
  | zero=>
    have hki : ¬ (k:Int)<(l.length:Int):=by omega
    have hke:l.take k=l:=List.take_of_length_le (by omega)
    have hm2:Hid (es.map (·.st)=L):=Lib.hid (by rw [hm.out,hke,hL.out])
    have lS:=run_ldvS hs
    have hnoR:=hD.blk_ne hr (by decide) (by decide) (by decide)
    have hone:(#[vm]:Array Value).all (·.oneCell')=true:=by simp [hD.one]
    clear hat hm hke
    go_wp2_with (first
     | (refine wpList_store_row rfl 28 (.tmp 4) (.tmp 22) rfl B1 #[vm] rfl rfl _ _ hr (hszS _) rfl hone ?_))
    refine bodyPost_ret (results_cell_row rfl _ _ B1 _ _ _ _ rfl (setRow_heap _ _ _ _ _ _ hr) Tryz.underlying28 rfl (hszS _)) rfl ⟨⟨vm,es,rfl,hD.row hnoR _,hm2.out,hu.out⟩,below_setRow hbel hle1 _⟩
  | succ f=>
    have hki:(k:Int)<(l.length:Int):=by omega
    have hkl:k<l.length:=by omega
    obtain ⟨ga,oa,rfl,hga,hca⟩:=hat (by omega)
    obtain ⟨t,ht⟩ : ∃ t,l[k]?=some t:=⟨_,List.getElem?_eq_getElem hkl⟩
    have ht5:=hlt t (List.mem_of_getElem? ht)
    have hct:wr.drew.cell? ⟨ga,oa+k,none⟩=some (.string (B t)):=by
     have:=rangeAt_below (hca k t ht) hga (hbel.drew) 0 _ rfl
     rwa [Nat.add_zero,Nat.mul_one] at this
    have hbd:Below wr.heap.size wr wr.drew:=(Below.refl _ _).drew
    have hsd:=hs.below hbd hs.lt
    have hrd:=hr.below hbd hr.lt
    have lS:=run_ldvS hsd
    have hwi:=Lib.hid (docWith_calls (hD.below hbd) (by omega) t ht5)
    have hmore:Hid (putL11 S0 (l.take (k+1))=putS (es.map (·.st)) t):=Lib.hid (by rw [putL11_more ht,hm.out])
    obtain ⟨pi,hpi⟩ : ∃ pi,putI t=pi:=⟨_,rfl⟩
    obtain ⟨bf,hbf⟩ : ∃ bf,(decO t).isSome=bf:=⟨_,rfl⟩
    have hpl:=putS_len (es.map (·.st)) t
    rw [List.length_map] at hpl
    obtain ⟨PL,hPL⟩ : ∃ PL,putS (es.map (·.st)) t=PL:=⟨_,rfl⟩
    unfold WithR at hwi
    rw [hpi,hbf,hPL] at hwi
    rw [hPL] at hmore hpl
    clear hat hca ht hpi hbf hPL hm hs hr hD
    go_upto_region 4 with (fail)
    go_region_with (first
     | (go_at_call 48;go_must (refine hwi.out.mono ?_);rintro e w7 ⟨⟨vm7,es7,rfl,D7,hmap,hold,hvold⟩,b67⟩
        have hu7:=Lib.hid (hu.out.trans (UseOr.with_ hold hvold) hbs)
        clear hold hvold
        obtain ⟨A7,c7,rfl⟩:=own_form' D7.own
        have hs7:=hsd.below b67 hsd.lt
        have q7:=hs7.cell 0
        have f7:=hs7.frozen 0))
    all_goals
     have b07:=bthen hbel hbs (bthen hbd hbd.size b67)
     have hr7:=hrd.below b67 hrd.lt
     have hnoS:=D7.blk_ne hs7 (by decide) (by decide) (by decide)
     have hs8:=hs7.set_ 0 (.slice A7 es7.length c7)
     have hr8:Blk (w7.setCell ⟨w.heap.size,0,none⟩ (.slice A7 es7.length c7)) B1 28 #[.slice none 0 0]:=(Below.heap_setCell _ _ _ _ (fun e=>by have:B1=w.heap.size:=e;omega)).trans hr7
     have D8:DocSt (w7.setCell ⟨w.heap.size,0,none⟩ (.slice A7 es7.length c7)) (.slice A7 es7.length c7) es7:=D7.same fun k hk=>Below.heap_setCell _ _ _ _ fun e=>hnoS (by have e2:k=w.heap.size:=e;rw [←e2];exact hk)
     have b08:Below w.heap.size w (w7.setCell ⟨w.heap.size,0,none⟩ (.slice A7 es7.length c7)):=below_setCells [.slice A7 es7.length c7] 0 w w7 b07 (Nat.le_refl _)
     have hm8:=Lib.hid (hmap.trans hmore.out.symm)
     have hl8:es7.length≤S0.length+(k+1):=by rw [←hmap,List.length_map] at hpl;omega
     clear hmap hmore hpl hu
     go_wp2_with (fail)
     go_roundg f
     case rel=>exact ⟨k+1,_,es7,by go_num,by omega,hs8,hr8,D8,hm8,hl8,hu7,b08⟩
     case measure=>omega
end Go.Proofs.YtlojebhcemfodaaGreatDoor
namespace Go.Proofs.YtlojebhcemfodaaGreatDoor
open Go.RowKit
def knTree : Txt:=[2,0]
def knA : Txt:=[153,190,94,251,136,202,32,19,189,142,78,176,53,253,66,213,36,84,104,254,154,250,112,216,186,156,28,65,154,72,196,232]
def knOld : Txt:=[3,35]++knA++[0,9,0]
def knB : Txt:=[229,55,53,241,166,141,183,27,128,163,185,184,144,142,67,6,32,134,214,232,240,32,105,86,98,145,120,77,154,115,197,227]
def knYoung : Txt:=[3,67]++knA++[1]++knB++[5,0]
def knC : Txt:=[119,171,47,108,15,145,145,101,26,5,196,87,239,97,118,126,110,199,103,16,127,245,234,75,141,88,214,253,243,196,181,144]
set_option maxRecDepth 100000 in
theorem knA_is : shaOf knTree=knA:=by decide +kernel
set_option maxRecDepth 100000 in
theorem knB_is : shaOf knOld=knB:=by decide +kernel
set_option maxRecDepth 100000 in
theorem knC_is : shaOf knYoung=knC:=by decide +kernel
def oTree : ObjL:=⟨2,[],[],noId,[],0,[],noId,0,[]⟩
def oOld : ObjL:=⟨3,[],[],knA,[],9,[],noId,0,[]⟩
def oYoung : ObjL:=⟨3,[],[],knA,[knB],5,[],noId,0,[]⟩
theorem enc_oTree : encO oTree=some knTree:=by kernel_rfl
theorem enc_oOld : encO oOld=some knOld:=by kernel_rfl
theorem enc_oYoung : encO oYoung=some knYoung:=by kernel_rfl
theorem dec_knTree : decO knTree=some oTree:=by kernel_rfl
theorem dec_knOld : decO knOld=some oOld:=by kernel_rfl
theorem dec_knYoung : decO knYoung=some oYoung:=by kernel_rfl
theorem is_knTree : StIs ⟨knA,knTree⟩:=⟨knA_is.symm,_,dec_knTree⟩
theorem is_knOld : StIs ⟨knB,knOld⟩:=⟨knB_is.symm,_,dec_knOld⟩
theorem is_knYoung : StIs ⟨knC,knYoung⟩:=⟨knC_is.symm,_,dec_knYoung⟩
def knS1 : List StL:=[⟨knC,knYoung⟩,⟨knA,knTree⟩]
def knS2 : List StL:=[⟨knC,knYoung⟩,⟨knA,knTree⟩,⟨knB,knOld⟩]
theorem kn_put_a : putS [] knTree=[⟨knA,knTree⟩]:=(is_knTree.putS []).trans (by kernel_rfl)
theorem kn_put_b : putS [⟨knA,knTree⟩] knOld=[⟨knA,knTree⟩,⟨knB,knOld⟩]:=(is_knOld.putS _).trans (by kernel_rfl)
theorem kn_put1 : putL11 [] [knTree,knYoung]=knS1:=by
 unfold putL11
 rw [List.foldl_cons,List.foldl_cons,List.foldl_nil,kn_put_a]
 exact (is_knYoung.putS _).trans (by kernel_rfl)
theorem kn_put2 : putL11 [] [knTree,knOld,knYoung]=knS2:=by
 unfold putL11
 rw [List.foldl_cons,List.foldl_cons,List.foldl_cons,List.foldl_nil,kn_put_a,kn_put_b]
 exact (is_knYoung.putS _).trans (by kernel_rfl)
theorem kn_walk : walkS knS2 [] [knC]=[knC,knB]:=by kernel_rfl
theorem kn_next1 : nextS knS1 [] knC=[knA,knB]:=by kernel_rfl
theorem kn_next2 : nextS knS1 [] knA=[]:=by kernel_rfl
theorem kn_next3 : nextS knS1 [] knB=[]:=by kernel_rfl
theorem kn_is1 : isS knS1 knC=true:=by kernel_rfl
theorem kn_is2 : isS knS1 knA=true:=by kernel_rfl
theorem kn_is3 : isS knS1 knB=false:=by kernel_rfl
theorem kn_rch (x:Txt):Rch knS1 [] [knC] x↔x=knC∨x=knA∨x=knB:=by
 constructor
 ·intro h
  refine h (fun x=>x=knC∨x=knA∨x=knB) (fun y hy => .inl (List.mem_singleton.1 hy)) fun y z hy hz=>?_
  rcases hy with rfl | rfl | rfl
  ·rw [kn_next1] at hz
   rcases List.mem_cons.1 hz with h | h
   ·exact .inr (.inl h)
   ·exact .inr (.inr (List.mem_singleton.1 h))
  ·rw [kn_next2] at hz;cases hz
  ·rw [kn_next3] at hz;cases hz
 ·have h0:Rch knS1 [] [knC] knC := .base (List.mem_singleton.2 rfl)
  rintro (rfl | rfl | rfl)
  ·exact h0
  ·exact h0.step (by rw [kn_next1];exact List.mem_cons_self)
  ·exact h0.step (by rw [kn_next1];exact List.mem_cons_of_mem _ (List.mem_singleton.2 rfl))
theorem kn_there {a:List Txt} (h:RchIs knS1 [] [knC] true a):a=[knC,knA]:=by
 refine rise_one h.rise (List.pairwise_cons.2 ⟨fun y hy=>?_,List.pairwise_singleton _ _⟩) fun x=>?_
 ·rw [List.mem_singleton.1 hy];kernel_rfl
 ·rw [h.mem,kn_rch]
  constructor
  ·rintro ⟨rfl | rfl | rfl,h2⟩
   ·exact List.mem_cons_self
   ·exact List.mem_cons_of_mem _ (List.mem_singleton.2 rfl)
   ·rw [kn_is3] at h2;cases h2
  ·intro hx
   rcases List.mem_cons.1 hx with rfl | hx
   ·exact ⟨.inl rfl,kn_is1⟩
   ·obtain rfl:=List.mem_singleton.1 hx
    exact ⟨.inr (.inl rfl),kn_is2⟩
theorem kn_gone {b:List Txt} (h:RchIs knS1 [] [knC] false b):b=[knB]:=by
 refine rise_one h.rise (List.pairwise_singleton _ _) fun x=>?_
 rw [h.mem,kn_rch,List.mem_singleton]
 constructor
 ·rintro ⟨rfl | rfl | rfl,h2⟩
  ·rw [kn_is1] at h2;cases h2
  ·rw [kn_is2] at h2;cases h2
  ·rfl
 ·rintro rfl
  exact ⟨.inr (.inr rfl),kn_is3⟩
end Go.Proofs.YtlojebhcemfodaaGreatDoor
namespace Go.Proofs.YtlojebhcemfodaaGreatDoor
open Go.RowKit
attribute [local go_sem ↓] ldvI_eq
instance : Inhabited DiL:=⟨⟨⟨[],[]⟩,zeroO, .slice none 0 0, .slice none 0 0⟩⟩
def ndC (e:DiL):List Value:=(u8s e.st.id).toList++objC e.o e.ve e.vp
theorem ndC_len {w:World} {e:DiL} (h:DitOk w e):(ndC e).length=104:=by
 unfold ndC
 rw [List.length_append,u8s_lenS,h.id,objC_len h.val.ok]
theorem ndC_one {w:World} {e:DiL} (h:DitOk w e) : ∀ u∈ndC e,u.oneCell'=true:=by
 obtain ⟨A1,A2,k1,k2,e1,e2⟩:=h.forms
 intro u hu
 unfold ndC at hu
 rw [e1,e2] at hu
 rcases List.mem_append.1 hu with hu | hu
 ·exact u8v_one e.st.id u (by simpa [u8s] using hu)
 ·exact Array.all_eq_true_iff_forall_mem.1 (objC_all e.o A1 A2 e.o.ents.length k1 e.o.pars.length k2) u (by simpa using hu)
def zNd : Value := .agg ((u8s noId).toList++objC zeroO (.slice none 0 0) (.slice none 0 0)).toArray
theorem Tryz.ndTy : SliceTy Tryz.prog 86 91 zNd 104 216:=⟨Tryz.underlying86,info_parts (by kernel_rfl),by kernel_rfl,by omega⟩
theorem szNd : (Tryz.prog.info? 91).map (·.size)=some 104:=by kernel_rfl
section
variable {w w':World} {g o:Nat} {e:DiL}
theorem nd_id (h:w.rangeAt g o (ndC e)):w.rangeAt g o (u8s e.st.id).toList:=fun j u hu=>h j u (by
 unfold ndC
 rw [List.getElem?_append_left (List.getElem?_eq_some_iff.1 hu).1]
 exact hu)
theorem nd_obj (h:w.rangeAt g o (ndC e)) (hid:e.st.id.length=32):w.rangeAt g (o+32) (objC e.o e.ve e.vp):=fun j u hu=>by
 have:=h (32+j) u (by
  unfold ndC
  rw [List.getElem?_append_right (by rw [u8s_lenS,hid];omega),u8s_lenS,hid,Nat.add_sub_cancel_left]
  exact hu)
 rwa [←Nat.add_assoc] at this
theorem nd_time (h:w.rangeAt g o (ndC e)) (hid:e.st.id.length=32) (ht:e.o.tree.length=32):w.cell? ⟨g,o+32+36,none⟩=some (.int .u32 e.o.time):=nd_obj h hid 36 _ (objC_at ht _ _).2
theorem nd_pars (h:w.rangeAt g o (ndC e)) (hid:e.st.id.length=32) (ht:e.o.tree.length=32):w.cell? ⟨g,o+32+35,none⟩=some e.vp:=nd_obj h hid 35 _ (objC_at ht _ _).1
theorem DitOk.same {e:DiL} (h:DitOk w e) (h1 : ∀ k,e.ve.ownBlock=some k→w'.heap[k]?=w.heap[k]?) (h2 : ∀ k,e.vp.ownBlock=some k→w'.heap[k]?=w.heap[k]?):DitOk w' e:=⟨h.dec,h.id,h.ok,own_same h.oe h1,own_same h.op h2⟩
theorem DitOk.far {S:List (Option Nat)} {e:DiL} (h:DitOk w e) (hf:Far S w w') (h1 : ∀ k,e.ve.ownBlock=some k→some k ∉ S) (h2 : ∀ k,e.vp.ownBlock=some k→some k ∉ S):DitOk w' e:=⟨h.dec,h.id,h.ok,hf.own h.oe h1,hf.own h.op h2⟩
end
/-- A slice value reads as a queue's nodes. -/
abbrev OwnNds (w:World) (B:Nat) (v:Value) (l:List DiL):Prop:=w.ownsRow B 91 104 v l.length (rowsOf ndC l)
structure QAt (w:World) (B:Nat) (v:Value) (Q:List DiL):Prop where
 own:OwnNds w B v Q
 each : ∀ e∈Q,DitOk w e
section
variable {w w':World} {B:Nat} {v:Value} {Q:List DiL}
theorem QAt.len (h:QAt w B v Q) : ∀ e∈Q,(ndC e).length=104:=fun e he=>ndC_len (h.each e he)
theorem QAt.at_ (h:QAt w B v Q):SliceAt w 104 ndC v Q:=SliceAt.of_own h.len h.own
theorem QAt.below (h:QAt w B v Q) (hb:Below w.heap.size w w'):QAt w' B v Q:=⟨own_below h.own hb,fun e he=>(h.each e he).below hb⟩
/-- What the queue's slice uses is used by no node. -/
theorem QAt.apart (h:QAt w B v Q) {e:DiL} (he:DitOk w e):(∀ k,e.ve.ownBlock=some k→some k ∉ [v.ownBlock]) ∧ ∀ k,e.vp.ownBlock=some k→some k ∉ [v.ownBlock]:=
 ⟨fun k hk hm=>own_ne he.oe h.own (by decide) k hk (List.mem_singleton.1 hm).symm,fun k hk hm=>own_ne he.op h.own (by decide) k hk (List.mem_singleton.1 hm).symm⟩
end
/-- Is a node told ahead? -/
def ltN (a b:DiL):Bool:=aheadL a.o.time b.o.time a.st.id b.st.id
theorem ltN_ord : Ord ltN:=ahead_ord (fun e:DiL=>e.o.time) (fun e=>e.st.id)
set_option maxRecDepth 100000 in
set_option maxHeartbeats 1000000 in
theorem queueLen_calls (A:Option Addr) (n c:Nat) (w:World):Calls Tryz.prog 40 #[.slice A n c] w fun e w'=>e = .returned (.int .i64 n)∧w'=w:=by
 go_enter Tryz.func40,Tryz.ntmps40
 go_wp2
 go_ret
 exact ⟨rfl,rfl⟩
set_option maxRecDepth 100000 in
set_option maxHeartbeats 4000000 in
theorem queueLess_calls {w:World} {B:Nat} {v:Value} {Q:List DiL} (h:QAt w B v Q) {i j:Nat} {x y:DiL} (hx:Q[i]?=some x) (hy:Q[j]?=some y) :
 Calls Tryz.prog 150 #[v, .int .i64 i, .int .i64 j] w fun e w'=>e = .returned (.bool (ltN x y))∧Below w.heap.size w w':=by
 have hxm:=h.each x (List.mem_of_getElem? hx)
 have hym:=h.each y (List.mem_of_getElem? hy)
 have hil:=(List.getElem?_eq_some_iff.1 hx).1
 have hjl:=(List.getElem?_eq_some_iff.1 hy).1
 obtain ⟨A,cap,rfl,hcap1,hcap2,hat⟩:=h.at_
 obtain ⟨g,o,rfl,hg,hc⟩:=hat (by omega)
 have hii:(i:Int)<(Q.length:Int):=by omega
 have hji:(j:Int)<(Q.length:Int):=by omega
 have rx:=fun W (hW:Below w.heap.size w W)=>rangeAt_below (hc i x hx) hg hW
 have ry:=fun W (hW:Below w.heap.size w W)=>rangeAt_below (hc j y hy) hg hW
 have tx:=fun W (hW:Below w.heap.size w W)=>nd_time (rx W hW) hxm.id hxm.ok.tree
 have ty:=fun W (hW:Below w.heap.size w W)=>nd_time (ry W hW) hym.id hym.ok.tree
 have lx:=fun W (hW:Below w.heap.size w W)=>run_ldvI_at (nd_id (rx W hW)) hxm.id
 have ly:=fun W (hW:Below w.heap.size w W)=>run_ldvI_at (nd_id (ry W hW)) hym.id
 have hls:=fun W=>less_calls x.st.id y.st.id hxm.id hym.id W
 obtain ⟨r,hr⟩ : ∃ r,ltN x y=r:=⟨_,rfl⟩
 rw [hr]
 unfold ltN aheadL at hr
 replace hr:=Lib.hid hr
 generalize x.o.time=X at *
 generalize y.o.time=Y at *
 generalize Op.bytesLess x.st.id y.st.id=lb at *
 clear h hxm hym hat hc rx ry hx hy
 go_enter Tryz.func150,Tryz.ntmps150
 go_upto_region 1 with (fail)
 refine wp_region_class (C:=fun W=>Below w.heap.size w W) (by kernel_rfl) (by kernel_rfl) (Below.refl _ _).drew ?_
 repeat
  first
   | ((with_reducible refine wpQuiet_ex ?_ ?_)
      ·(go_simp;done)
      apply Exists.intro
      refine ⟨fun W hW=>?_,?_⟩
      ·first
        | (have q0:=tx W hW
           have q1:=ty W hW
           have q2:=lx W hW
           have q3:=ly W hW
           go_simp
           rfl)
      simp only [Act.put,List.setIfInBounds_toArray,List.set_cons_zero,List.set_cons_succ])
   | ((with_reducible refine wpQuiet_pass ?_ ?_)
      ·(first | rfl | (go_simp;done))
      simp only [Act.put,List.setIfInBounds_toArray,List.set_cons_zero,List.set_cons_succ])
 with_reducible refine wpQuiet_nil ?_
 intro w5 hW5
 by_cases hXY:X=Y
 ·subst hXY
  have hr2:Hid (lb=r):=Lib.hid (by have:=hr.out;rwa [if_pos rfl] at this)
  have hne:((X:Int) != (X:Int))=false:=by simp
  clear hr
  go_upto_region 3 with (fail)
  refine wp_region_class (C:=fun W=>Below w.heap.size w W) (by kernel_rfl) (by kernel_rfl) hW5.drew ?_
  repeat
   first
    | ((with_reducible refine wpQuiet_ex ?_ ?_)
       ·(go_simp;done)
       apply Exists.intro
       refine ⟨fun W hW=>?_,?_⟩
       ·first
         | (have q2:=lx W hW
            have q3:=ly W hW
            have p1:=bel_keepG hW (hls W)
            go_simp
            first
             | rfl
             | (with_reducible exact p1))
       simp only [Act.put,List.setIfInBounds_toArray,List.set_cons_zero,List.set_cons_succ])
    | ((with_reducible refine wpQuiet_pass ?_ ?_)
       ·(first | rfl | (go_simp;done))
       simp only [Act.put,List.setIfInBounds_toArray,List.set_cons_zero,List.set_cons_succ])
  with_reducible refine wpQuiet_nil ?_
  intro w6 hW6
  go_wp2
  go_ret
  obtain rfl:lb=r:=hr2.out
  exact ⟨rfl,hW6⟩
 ·have hr2:Hid (decide (Y<X)=r):=Lib.hid (by have:=hr.out;rwa [if_neg hXY] at this)
  have hne:((X:Int) != (Y:Int))=true:=by simp;omega
  clear hr
  go_upto_region 2 with (fail)
  refine wp_region_class (C:=fun W=>Below w.heap.size w W) (by kernel_rfl) (by kernel_rfl) hW5.drew ?_
  repeat
   first
    | ((with_reducible refine wpQuiet_ex ?_ ?_)
       ·(go_simp;done)
       apply Exists.intro
       refine ⟨fun W hW=>?_,?_⟩
       ·first
         | (have q0:=tx W hW
            have q1:=ty W hW
            have q2:=lx W hW
            have q3:=ly W hW
            go_simp
            rfl)
       simp only [Act.put,List.setIfInBounds_toArray,List.set_cons_zero,List.set_cons_succ])
    | ((with_reducible refine wpQuiet_pass ?_ ?_)
       ·(first | rfl | (go_simp;done))
       simp only [Act.put,List.setIfInBounds_toArray,List.set_cons_zero,List.set_cons_succ])
  with_reducible refine wpQuiet_nil ?_
  intro w6 hW6
  go_wp2
  go_ret
  obtain rfl:decide (Y<X)=r:=hr2.out
  exact ⟨rfl,hW6⟩
end Go.Proofs.YtlojebhcemfodaaGreatDoor
namespace Go.Proofs.YtlojebhcemfodaaGreatDoor
open Go.RowKit
def ldvN (p:Addr):Sem Value:=loadVar 91 p
theorem ldvN_eq (p:Addr):loadVar 91 p=ldvN p:=rfl
def stvN (p:Addr) (v:Value):Sem Unit:=storeVar 91 p v
theorem stvN_eq (p:Addr) (v:Value):storeVar 91 p v=stvN p v:=rfl
theorem run_ldvN_at {w:World} {g o:Nat} {e:DiL} (h:w.rangeAt g o (ndC e)) (hl:(ndC e).length=104):(ldvN ⟨g,o,none⟩).run Tryz.prog w = .ok (.agg (ndC e).toArray) w:=run_loadVar_mid w g o 91 (ndC e) _ h Tryz.underlying91 rfl (by rw [hl];exact szNd)
theorem run_ldvN {w:World} {g:Nat} {cs:Array Value} (h:Blk w g 91 cs) (hl:cs.size=104):(ldvN ⟨g,0,none⟩).run Tryz.prog w = .ok (.agg cs) w:=run_loadVar_row w g _ _ _ _ _ h Tryz.underlying91 rfl (by rw [hl];exact szNd)
section
attribute [local go_sem ↓] ldvN_eq stvN_eq
set_option maxRecDepth 100000 in
set_option maxHeartbeats 4000000 in
theorem queueSwap_calls {w:World} {B:Nat} {v:Value} {Q:List DiL} (h:QAt w B v Q) {i j:Nat} (hi:i<Q.length) (hj:j<Q.length) :
 Calls Tryz.prog 151 #[v, .int .i64 i, .int .i64 j] w fun e w'=>e = .returned (.tuple #[])∧QAt w' B v (swapQ Q i j)∧Far [v.ownBlock] w w':=by
 have hlen:=h.len
 rcases Row.of_own hlen h.own with ⟨_,h0⟩ | ⟨g,cap,rfl,hBg,hrow⟩
 ·subst h0;simp at hi
 have hx:=atQ_get hi
 have hy:=atQ_get hj
 have hxm:=h.each _ (List.mem_of_getElem? hx)
 have hym:=h.each _ (List.mem_of_getElem? hy)
 obtain ⟨x,hxe⟩ : ∃ x,atQ Q i=x:=⟨_,rfl⟩
 obtain ⟨y,hye⟩ : ∃ y,atQ Q j=y:=⟨_,rfl⟩
 have hsw:swapQ Q i j=(Q.set i y).set j x:=by unfold swapQ;rw [hxe,hye]
 rw [hxe] at hx hxm
 rw [hye] at hy hym
 have hxl:=ndC_len hxm
 have hyl:=ndC_len hym
 have hd:=hrow.drew
 have lx:=run_ldvN_at (hd.at_ i _ hx) hxl
 have ly:=run_ldvN_at (hd.at_ j _ hy) hyl
 have hcap:=hrow.le
 have r1:=hd.set hlen hi hyl
 have hmem1 : ∀ e∈Q.set i y,DitOk w e:=fun e he=>by
  rcases List.mem_or_eq_of_mem_set he with h1 | h1
  ·exact h.each e h1
  ·rw [h1];exact hym
 have r2:=r1.set (fun e he=>ndC_len (hmem1 e he)) (i:=j) (by rw [List.length_set];exact hj) hxl
 have hmem2 : ∀ e∈(Q.set i y).set j x,DitOk w e:=fun e he=>by
  rcases List.mem_or_eq_of_mem_set he with h1 | h1
  ·exact hmem1 e h1
  ·rw [h1];exact hxm
 have hs1:=run_storeVar_mid (P:=Tryz.prog) w.drew g (i*104) 91 (ndC y).toArray (hd.there (by rw [List.size_toArray,hyl];omega)) (by rw [List.size_toArray,hyl];exact szNd) (all_oneCell_toArray (ndC_one hym))
 have hs2:=run_storeVar_mid (P:=Tryz.prog) (w.drew.setCells g (i*104) (ndC y)) g (j*104) 91 (ndC x).toArray (r1.there (by rw [List.size_toArray,hxl];omega)) (by rw [List.size_toArray,hxl];exact szNd) (all_oneCell_toArray (ndC_one hxm))
 rw [List.toList_toArray] at hs1 hs2
 have hf:Far [some g] w ((w.drew.setCells g (i*104) (ndC y)).setCells g (j*104) (ndC x)):=Far.cells (.inl (List.mem_singleton.2 rfl)) _ _ _ (Far.cells (.inl (List.mem_singleton.2 rfl)) _ _ _ (Far.refl _ w).drew)
 have hfin:QAt ((w.drew.setCells g (i*104) (ndC y)).setCells g (j*104) (ndC x)) B (.slice (some ⟨g,0,none⟩) Q.length cap) (swapQ Q i j):=by
  have ho:=r2.own (fun e he=>ndC_len (hmem2 e he)) hBg
  rw [List.length_set,List.length_set,←hsw] at ho
  refine ⟨?_,fun e he=>?_⟩
  ·unfold OwnNds
   rw [swapQ_len]
   exact ho
  ·rw [hsw] at he
   obtain ⟨a1,a2⟩:=h.apart (hmem2 e he)
   exact (hmem2 e he).far hf a1 a2
 have hii:(i:Int)<(Q.length:Int):=by omega
 have hji:(j:Int)<(Q.length:Int):=by omega
 have hs1':(stvN ⟨g,i*104,none⟩ (.agg (ndC y).toArray)).run Tryz.prog w.drew = .ok () (w.drew.setCells g (i*104) (ndC y)):=hs1
 obtain ⟨W1,hW1⟩ : ∃ W1,w.drew.setCells g (i*104) (ndC y)=W1:=⟨_,rfl⟩
 rw [hW1] at hs1' hs2 hf hfin
 have hs2':(stvN ⟨g,j*104,none⟩ (.agg (ndC x).toArray)).run Tryz.prog W1 = .ok () (W1.setCells g (j*104) (ndC x)):=hs2
 obtain ⟨W2,hW2⟩ : ∃ W2,W1.setCells g (j*104) (ndC x)=W2:=⟨_,rfl⟩
 rw [hW2] at hs2' hf hfin
 obtain ⟨X,hX⟩ : ∃ X,(ndC x).toArray=X:=⟨_,rfl⟩
 obtain ⟨Y,hY⟩ : ∃ Y,(ndC y).toArray=Y:=⟨_,rfl⟩
 rw [hX] at lx hs2'
 rw [hY] at ly hs1'
 have Hf:=Lib.hid hf
 have Hfin:=Lib.hid hfin
 clear hs1 hs2 hW1 hW2 hX hY r1 r2 hmem1 hmem2 hrow hd hx hy hxm hym hxl hyl hxe hye hsw h hlen hf hfin
 go_enter Tryz.func151,Tryz.ntmps151
 go_wp2_with (fail)
 go_region
 all_goals
  go_wp2
  go_end0
  exact ⟨rfl,Hfin.out,Hf.out⟩
end
/-- A slice that was grown, told whether it lies where it did. -/
def appN (N:Nat) (ve:Value) (B:Nat) (e:TypeId) (size n:Nat) (Ψ:List Value→Prop) (v:Value) (F:Foot) (w:World):Prop:=appR B e size n Ψ v F w∧(v.ownBlock=ve.ownBlock ∨ ∀ k,v.ownBlock=some k→N≤k)
theorem appN_stab (N:Nat) (ve:Value) (B:Nat) (e:TypeId) (size n:Nat) (Ψ:List Value→Prop) (v:Value):Stab (appN N ve B e size n Ψ v):=fun F F' w w' hf ha ⟨h1,h2⟩=>⟨appR_stab B e size n Ψ v F F' w w' hf ha h1,h2⟩
section
variable {P:Program} {ops:Array Oper} {w0:World} {rows:List (Option Nat)} {pres:Pres} {sps:List Sp} {E:Act→Facts→Prop} {i:Nat} {rest:List Oper} {s:Sp} {ss:List Sp} {a:Act} {D:Facts}
theorem lx_append1N {d:Option Tmp} {rt:TypeId} {pos:String} {af:Array Edge} {sl x:Operand} {t e:TypeId} {z:Value} {size bytes:Nat} (hT:SliceTy P t e z size bytes) (N:Nat) (hN:N≤w0.heap.size) (B:Nat) (ve:Value) (n:Nat) (xs:List Value) (Ψ:List Value→Prop) (h63:n+1≤9223372036854775807) (hby:(n+1)*bytes≤140737488355328)
 (hB:B≤w0.heap.size) (hp:(i,ve.ownBlock,fun w=>World.ownsRow w B e size ve n xs)∈pres) (hs:s = .wr fun _=>appN N ve B e size (n+1) Ψ)
 (h : ∃ v1 v2,a.eval sl=v1∧a.eval x=v2∧v1=ve∧(∀ w,Far rows w0 w→Have ops pres i D w → ∃ g cs,v2 = .slice (some ⟨g,0,none⟩) 1 1∧Blk w g e cs∧cs.size=size∧(∀ u∈cs.toList,u.oneCell'=true)∧Ψ (xs++cs.toList)) ∧ ∀ v,LxL P ops w0 rows pres sps E (i+1) rest ss (a.put d v) ((i,appN N ve B e size (n+1) Ψ v)::D)) :
 LxL P ops w0 rows pres sps E i ({ dst:=d,op := .call { callee := .builtin .append,args := #[sl,x],argTypes := #[t,t] },type:=rt,pos:=pos,after:=af,guard:=none }::rest) (s::ss) a D:=by
 obtain ⟨_,_,rfl,rfl,hv,hc,h⟩:=h
 refine lx_wr ve.ownBlock _ (fun _=>appN N ve B e size (n+1) Ψ) hs hp (by simp [Region.wanted]) (fun _=>appN_stab N ve B e size (n+1) Ψ) (fun w hw hh hown=>?_) h
 obtain ⟨g,cs,hx,hk,hcs,h1,hps⟩:=hc w hw hh
 obtain ⟨it,i1,i2,i3,i4⟩:=hT.hi
 have hbase:B≤w.heap.size:=Nat.le_trans hB hw.size
 obtain ⟨v',w',hrun,hown',hg,_,hat⟩:=run_append_own_at (P:=P) w B t rt e it z size bytes hT.ht i1 i2 i3 i4 hT.hzs hT.hsz ve n xs hown ⟨g,0,none⟩ 1 1 cs.toList (by simp [hcs]) (news_of_blk hk) h1 (by simp only [maxLen];omega) hby hbase
 refine does_val (v:=v') (w':=w') ?_ ⟨hg,fun F _ hF2 hF3=>⟨⟨_,hps,hown',fun k hk=>?_⟩,?_⟩⟩
 ·unfold execOp
  simp only [resolve,invoke,builtin,Sem.run_bind,Sem.run_pure,Result.andThen_ok,List.map_toArray,List.map_cons,List.map_nil,hv,hx,hrun]
 ·rcases hat with hat | hat
  ·rw [hat] at hk;exact hF2 k hk.symm
  ·rw [hat] at hk
   injection hk with hk
   subst hk
   exact hF3 _ (Nat.le_refl _) (World.ownsRow.lt hown' _ hat).2
 ·rcases hat with hat | hat
  ·exact .inl hat
  ·refine .inr fun k hk=>?_
   rw [hat] at hk
   injection hk with hk
   subst hk
   exact Nat.le_trans hN hw.size
end
/-- The walker: block g holds a store, a queue, and what is seen. -/
structure WqAt (w:World) (B g:Nat) (vs vq vn:Value) (Q:List DiL):Prop where
 blk:Blk w g 88 #[vs,vq,vn]
 q:QAt w B vq Q
section
variable {w w':World} {B g:Nat} {vs vq vn:Value} {Q:List DiL}
theorem WqAt.c1 (h:WqAt w B g vs vq vn Q):w.cell? ⟨g,1,none⟩=some vq:=by rw [h.blk.cell];rfl
theorem WqAt.below (h:WqAt w B g vs vq vn Q) (hb:Below w.heap.size w w'):WqAt w' B g vs vq vn Q:=⟨h.blk.below hb h.blk.lt,h.q.below hb⟩
theorem run_assertN (v:Value) (W:World):(Instr.typeAssert (.iface 91 v) 20 91 false).run Tryz.prog W = .ok v W:=by kernel_rfl
/-- What no node uses: the walker's block, the queue's row. -/
theorem WqAt.apart (h:WqAt w B g vs vq vn Q) {e:DiL} (he:DitOk w e):(∀ k,e.ve.ownBlock=some k→some k ∉ [some g,vq.ownBlock]) ∧ ∀ k,e.vp.ownBlock=some k→some k ∉ [some g,vq.ownBlock]:=by
 obtain ⟨a1,a2⟩:=h.q.apart he
 refine ⟨fun k hk hm=>?_,fun k hk hm=>?_⟩
 ·rcases List.mem_cons.1 hm with h1 | h1
  ·exact own_blk_ne he.oe h.blk (by decide) (h1.symm.trans hk.symm)
  ·exact a1 k hk h1
 ·rcases List.mem_cons.1 hm with h1 | h1
  ·exact own_blk_ne he.op h.blk (by decide) (h1.symm.trans hk.symm)
  ·exact a2 k hk h1
end
set_option maxRecDepth 100000 in
set_option maxHeartbeats 4000000 in
theorem queuePush_calls {w:World} {B g:Nat} {vs vq vn:Value} {Q:List DiL} (h:WqAt w B g vs vq vn Q) (hB:B≤w.heap.size) (hbig:Q.length≤600000) {e0:DiL} (he:DitOk w e0) :
 Calls Tryz.prog 154 #[.pointer (some ⟨g,1,none⟩), .iface 91 (.agg (ndC e0).toArray)] w fun e w'=>e = .returned (.tuple #[]) ∧ ∃ vq',WqAt w' B g vs vq' vn (Q++[e0])∧Far [some g,vq.ownBlock] w w'∧Newer w vq vq':=by
 obtain ⟨A,cq,rfl⟩:=own_form' h.q.own
 have hpre:=preOk2 (i:=7) (j:=9) h.q.own h.blk (by decide)
 have hl0:=ndC_len he
 have h1:=ndC_one he
 obtain ⟨XC,hXC⟩ : ∃ XC,(ndC e0).toArray=XC:=⟨_,rfl⟩
 have hxl:XC.size=104:=by rw [←hXC,List.size_toArray,hl0]
 have hxone : ∀ u∈XC.toList,u.oneCell'=true:=by rw [←hXC,List.toList_toArray];exact h1
 have hAk:Q.length+1≤9223372036854775807:=by omega
 have hAb:(Q.length+1)*216≤140737488355328:=by omega
 have hta:=run_assertN (.agg XC)
 have hlo:1<(#[vs, .slice A Q.length cq,vn]:Array Value).size:=by simp
 have H:=Lib.hid h
 have He:=Lib.hid he
 have HXC:=Lib.hid hXC
 have hBd:B≤w.drew.heap.size:=hB
 have hNd:w.heap.size≤w.drew.heap.size:=Nat.le_refl _
 rw [hXC]
 clear h he hXC h1 hl0
 go_enter Tryz.func154,Tryz.ntmps154
 go_wp2_with (fail)
 refine wp_region_goP 10 [(7,(Value.slice A Q.length cq).ownBlock,fun w=>World.ownsRow w B 91 104 (.slice A Q.length cq) Q.length (rowsOf ndC Q)),(9,some g,fun w=>Blk w g 88 #[vs, .slice A Q.length cq,vn])] hpre (by kernel_rfl) (by kernel_rfl) (by kernel_rfl) (by kernel_rfl) ?_
 simp only [exSp]
 iterate 10 apply Exists.intro
 repeat
  first
   | ((with_reducible apply lx_ex)
      ·(go_simp;done)
      apply Exists.intro
      apply And.intro
      ·apply Eq.refl
      apply And.intro
      ·intro W hF hD
       first
        | (have q2:W.cell? ⟨g,1,none⟩=some (.slice A Q.length cq):=by rw [(hD.was 1 rfl (by kernel_rfl)).cell];rfl
           have q3:=hta W
           go_simp
           rfl)
        | (have q3:=hta W
           go_simp
           rfl)
      simp only [Act.put,List.setIfInBounds_toArray,List.set_cons_zero,List.set_cons_succ])
   | ((with_reducible apply lx_pass)
      ·(first | rfl | (go_simp;done))
      ·apply Eq.refl
      simp only [Act.put,List.setIfInBounds_toArray,List.set_cons_zero,List.set_cons_succ])
   | (first | (with_reducible apply lx_move') | (with_reducible apply lx_assign')
      ·apply Eq.refl
      apply Exists.intro
      apply And.intro
      ·(go_simp;rfl)
      simp only [Act.put,List.setIfInBounds_toArray,List.set_cons_zero,List.set_cons_succ])
   | ((with_reducible apply lx_slice1 Tryz.ndTy (fun cs=>cs=XC) (by omega))
      ·apply Eq.refl
      apply Exists.intro
      apply And.intro
      ·(go_simp;rfl)
      refine ⟨fun W hF hD=>?_,?_⟩
      ·exact ⟨XC,rfl,hxl,rfl⟩
      intro v
      simp only [Act.put,List.setIfInBounds_toArray,List.set_cons_zero,List.set_cons_succ])
   | ((with_reducible apply lx_append1N Tryz.ndTy w.heap.size hNd B (.slice A Q.length cq) Q.length (rowsOf ndC Q) (fun xs=>xs=rowsOf ndC Q++XC.toList) hAk hAb)
      ·exact hBd
      ·first | exact List.Mem.head _ | exact List.Mem.tail _ (List.Mem.head _) | exact List.Mem.tail _ (List.Mem.tail _ (List.Mem.head _)) | exact List.Mem.tail _ (List.Mem.tail _ (List.Mem.tail _ (List.Mem.head _)))
      ·apply Eq.refl
      apply Exists.intro
      apply Exists.intro
      apply And.intro
      ·(go_simp;rfl)
      apply And.intro
      ·(go_simp;rfl)
      refine ⟨rfl,fun W hF hD=>?_,?_⟩
      ·obtain ⟨F,g5,cs,rfl,_,hk5,rfl⟩:=hD.at 0 rfl (by kernel_rfl)
       exact ⟨g5,_,rfl,hk5,hxl,hxone,rfl⟩
      intro v
      simp only [Act.put,List.setIfInBounds_toArray,List.set_cons_zero,List.set_cons_succ])
   | ((with_reducible apply lx_put g 1 #[vs, .slice A Q.length cq,vn] 88)
      ·exact (fun _=>by kernel_rfl)
      ·exact hlo
      ·first | exact List.Mem.head _ | exact List.Mem.tail _ (List.Mem.head _) | exact List.Mem.tail _ (List.Mem.tail _ (List.Mem.head _)) | exact List.Mem.tail _ (List.Mem.tail _ (List.Mem.tail _ (List.Mem.head _)))
      ·apply Eq.refl
      apply Exists.intro
      apply Exists.intro
      apply And.intro
      ·(go_simp;rfl)
      apply And.intro
      ·(go_simp;rfl)
      refine ⟨rfl,fun W hF hD=>?_,?_⟩
      ·obtain ⟨F,⟨xs,_,hv,_⟩,_⟩:=hD.at 0 rfl (by kernel_rfl)
       obtain ⟨A6,c6,rfl⟩:=own_form' hv
       exact ⟨_,_,_,rfl⟩)
 refine lxP_nil ?_ fun w5 hF5 hD5=>?_
 ·exact List.nodup_nil
 have hf:Far [some g,(Value.slice A Q.length cq).ownBlock] w w5:=(hF5.mono fun k hk=>by
  simp only [rowsOfP,List.map_cons,List.map_nil,List.mem_cons,List.not_mem_nil,or_false] at hk ⊢
  exact hk.symm)
 obtain ⟨_,hg5,hb5⟩:=hD5 _ (.head _)
 obtain ⟨_,⟨xs,hxs,hv5,hk5⟩,hnw⟩:=hD5 _ (.tail _ (.head _))
 have hlen:(Q++[e0]).length=Q.length+1:=by rw [List.length_append];rfl
 have hrow:rowsOf ndC (Q++[e0])=rowsOf ndC Q++XC.toList:=by rw [rowsOf_append,rowsOf_one,←HXC.out,List.toList_toArray]
 have hq:QAt w5 B v (Q++[e0]):=by
  refine ⟨?_,fun e he=>?_⟩
  ·unfold OwnNds
   rw [hlen,hrow,←hxs]
   exact hv5
  ·have he:DitOk w e:=by
    rcases List.mem_append.1 he with h1 | h1
    ·exact H.out.q.each e h1
    ·rw [List.mem_singleton.1 h1];exact He.out
   obtain ⟨a1,a2⟩:=H.out.apart he
   exact he.far hf a1 a2
 have hfin:WqAt w5 B g vs v vn (Q++[e0]):=⟨hb5,hq⟩
 clear hD5 hF5 hb5 hq hv5 hpre
 go_wp2
 go_end0
 exact ⟨rfl,v,hfin,hf,hnw⟩
attribute [local go_sem ↓] ldvN_eq
set_option maxRecDepth 100000 in
set_option maxHeartbeats 4000000 in
theorem queuePop_calls {w:World} {B g:Nat} {vs vq vn:Value} {Q:List DiL} {e0:DiL} (h:WqAt w B g vs vq vn (Q++[e0])) :
 Calls Tryz.prog 153 #[.pointer (some ⟨g,1,none⟩)] w fun e w'=>e = .returned (.iface 91 (.agg (ndC e0).toArray)) ∧ ∃ vq',WqAt w' B g vs vq' vn Q∧vq'.ownBlock=vq.ownBlock∧Far [some g] w w':=by
 have hlen:=h.q.len
 rcases Row.of_own hlen h.q.own with ⟨_,h0⟩ | ⟨gr,cap,rfl,hBg,hrow⟩
 ·simp at h0
 have hle:(Q++[e0]).length=Q.length+1:=by rw [List.length_append];rfl
 rw [hle] at h ⊢
 have hx:(Q++[e0])[Q.length]?=some e0:=by simp
 have hel:=hlen e0 (by simp)
 have heone:=ndC_one (h.q.each e0 (by simp))
 have hri:=fun W (hW:Below w.heap.size w W)=>run_ldvN_at (rangeAt_below (hrow.at_ Q.length e0 hx) hrow.lt hW) hel
 have hri0:=hri w (Below.refl _ _)
 have hcap:=hrow.le
 rw [hle] at hcap
 have htop:=hrow.top63
 obtain ⟨XC,hXC⟩ : ∃ XC,(ndC e0).toArray=XC:=⟨_,rfl⟩
 have hxl:XC.size=104:=by rw [←hXC,List.size_toArray,hel]
 have hxone:XC.all (·.oneCell')=true:=by rw [←hXC];exact all_oneCell_toArray heone
 rw [hXC] at hri hri0 ⊢
 have hszx:(Tryz.prog.info? 91).map (·.size)=some XC.size:=by rw [hxl];exact szNd
 have hq1:(Q.length:Int)<((Q.length+1:Nat):Int):=by omega
 have hq2:IntKind.i64.wrap (((Q.length+1:Nat):Int)-1)=(Q.length:Int):=by rw [IntWalk.i64_in _ (by omega)];omega
 have hc1 : ∀ W,Below w.heap.size w W→W.cell? ⟨g,1,none⟩=some (.slice (some ⟨gr,0,none⟩) (Q.length+1) cap):=fun W hW=>(h.below hW).c1
 have hc10:=hc1 w (Below.refl _ _)
 have hcut:=(hrow.cut Q.length).own (fun y hy=>hlen y (List.mem_of_mem_take hy)) hBg
 rw [List.take_left] at hcut
 have H:=Lib.hid h
 have hbk:=h.blk
 have hgl:=h.blk.lt
 have hgne:w.heap.size≠g:=by omega
 have hne:gr≠g:=fun e=>own_blk_ne h.q.own h.blk (by decide) (by rw [e];rfl)
 clear hrow hlen hx hel heone hXC h hle
 go_enter Tryz.func153,Tryz.ntmps153
 go_wp2_with (first
  | ((with_reducible refine lit_new 91 (.tmp 4) (.tmp 15) XC 104 szNd hxl hxone _ ?_ ?_ ?_ ?_)
     ·first | exact hxl | kernel_rfl
     ·rfl
     ·rfl
     intro W3 hb3 hbl3
     have d1:=hc1 W3 hbl3
     have fz:=(hbk.below hbl3 hgl).frozen 1
     have ld4:=run_ldvN (hb3.far (p:=⟨g,1,none⟩) hgne (.slice (some ⟨gr,0,none⟩) Q.length cap)) hxl))
 have hf:Far [some g] w (W3.setCell ⟨g,1,none⟩ (.slice (some ⟨gr,0,none⟩) Q.length cap)):=(Far.of_below hbl3).set_ (p:=⟨g,1,none⟩) (.inl (List.mem_singleton.2 rfl)) _
 have hfin:WqAt (W3.setCell ⟨g,1,none⟩ (.slice (some ⟨gr,0,none⟩) Q.length cap)) B g vs (.slice (some ⟨gr,0,none⟩) Q.length cap) vn Q:=by
  refine ⟨(hbk.below hbl3 hgl).set_ 1 _,⟨?_,fun e he=>?_⟩⟩
  ·have:=hf.own hcut (fun k hk hm=>by
    rw [List.mem_singleton] at hm
    injection hm with hm
    injection hk with hk
    exact hne (hk.trans hm))
   exact this
  ·have he':=H.out.q.each e (List.mem_append_left _ he)
   obtain ⟨a1,a2⟩:=H.out.apart he'
   exact he'.far hf (fun k hk hm=>a1 k hk (List.mem_cons.2 (.inl (List.mem_singleton.1 hm)))) (fun k hk hm=>a2 k hk (List.mem_cons.2 (.inl (List.mem_singleton.1 hm))))
 clear hc1 hri hri0 hcut hbk H d1 fz ld4
 go_ret
 exact ⟨rfl,_,hfin,rfl,hf⟩
end Go.Proofs.YtlojebhcemfodaaGreatDoor
namespace Go.Proofs.YtlojebhcemfodaaGreatDoor
open Go.RowKit
theorem method_row {name:String} {f:FuncId} {b:Bool} (h:(Tryz.prog.info? 130).map (fun i=>(i.methods.find? (·.name==name)).map fun m=>(m.path.size,m.func))=some (some (0,some (f,b)))) : ∃ i m,Tryz.prog.info? 130=some i∧i.methods.find? (·.name==name)=some m∧m.path = #[]∧m.func=some (f,b):=by
 obtain ⟨i,h1,h2⟩:=Option.map_eq_some_iff.1 h
 obtain ⟨m,h3,h4⟩:=Option.map_eq_some_iff.1 h2
 injection h4 with h5 h6
 exact ⟨i,m,h1,h3,Array.eq_empty_of_size_eq_zero h5,h6⟩
theorem method_val {name:String} {f:FuncId} (h0:(Tryz.prog.info? 130).map (fun i=>(i.methods.find? (·.name==name)).map fun m=>(m.path.size,m.func))=some (some (0,some (f,false)))) (n:Nat) {g:Nat} {v:Value} {w:World} (h:w.cell? ⟨g,1,none⟩=some v):(method (n+1) 130 (.pointer (some ⟨g,1,none⟩)) name).run Tryz.prog w = .ok (f,v) w:=by
 obtain ⟨i,m,h1,h2,h3,h4⟩:=method_row h0
 have hd:(Go.loadVar 86 ⟨g,1,none⟩).run Tryz.prog w = .ok v w:=by go_simp
 unfold method
 have hu:Tryz.prog.underlying 130=some (.pointer 86):=by kernel_rfl
 have hs : ∀ s1 s2:String,(Builtin.ssaWrapNilChk_ #[130] 130 #[.pointer (some ⟨g,1,none⟩),strVal s1,strVal s2]).run Tryz.prog w = .ok (.pointer (some ⟨g,1,none⟩)) w:=fun _ _=>rfl
 simp [typeInfo,h1,h2,h3,h4,follow,receiverAt,run_underlying hu,Place.get,asAddr,hs,hd]
section
variable (n:Nat) {g:Nat} {v:Value} {w:World} (h:w.cell? ⟨g,1,none⟩=some v)
include h
theorem method_len : (method (n+1) 130 (.pointer (some ⟨g,1,none⟩)) "Len").run Tryz.prog w = .ok (40,v) w:=method_val (by kernel_rfl) n h
theorem method_less : (method (n+1) 130 (.pointer (some ⟨g,1,none⟩)) "Less").run Tryz.prog w = .ok (150,v) w:=method_val (by kernel_rfl) n h
theorem method_swap : (method (n+1) 130 (.pointer (some ⟨g,1,none⟩)) "Swap").run Tryz.prog w = .ok (151,v) w:=method_val (by kernel_rfl) n h
end
theorem method_push (n:Nat) (a:Addr) (w:World):(method (n+1) 130 (.pointer (some a)) "Push").run Tryz.prog w = .ok (154, .pointer (some a)) w:=by kernel_rfl
theorem method_pop (n:Nat) (a:Addr) (w:World):(method (n+1) 130 (.pointer (some a)) "Pop").run Tryz.prog w = .ok (153, .pointer (some a)) w:=by kernel_rfl
section
variable {w w':World} {B g:Nat} {vs vq vn:Value} {Q:List DiL}
/-- Two nodes change places. -/
theorem WqAt.swap (h:WqAt w B g vs vq vn Q) {Q':List DiL} (hq:QAt w' B vq Q') (hf:Far [vq.ownBlock] w w'):WqAt w' B g vs vq vn Q':=
 ⟨hf.blk h.blk fun hm=>own_blk_ne h.q.own h.blk (by decide) (List.mem_singleton.1 hm),hq⟩
theorem QAt.mem (h:QAt w B vq Q) {i:Nat} (hi:i<Q.length):DitOk w (atQ Q i):=h.each _ (List.mem_of_getElem? (atQ_get hi))
end
set_option maxRecDepth 100000 in
set_option maxHeartbeats 4000000 in
theorem heapUp_calls {w:World} {B g:Nat} {vs vq vn:Value} {Q:List DiL} (h:WqAt w B g vs vq vn Q) (hbig:Q.length≤700000) (j:Nat) (hj:j<Q.length) (f:Nat) (hf:j<f) :
 Calls Tryz.prog 89 #[.iface 130 (.pointer (some ⟨g,1,none⟩)), .int .i64 j] w fun e w'=>e = .returned (.tuple #[])∧WqAt w' B g vs vq vn (upQ ltN f Q j)∧Far [vq.ownBlock] w w':=by
 obtain ⟨R,hR⟩ : ∃ R,upQ ltN f Q j=R:=⟨_,rfl⟩
 rw [hR]
 replace hR:=Lib.hid hR
 obtain ⟨N,hN⟩ : ∃ N,Q.length=N:=⟨_,rfl⟩
 rw [hN] at hbig hj
 go_enter Tryz.func89,Tryz.ntmps89
 go_wp2_with (fail)
 go_loopg [1] f (fun f vj wr => ∃ (j:Nat) (Q:List DiL),vj = .int .i64 j∧j<f∧j<N∧Hid (Q.length=N)∧WqAt wr B g vs vq vn Q∧Hid (upQ ltN f Q j=R)∧Far [vq.ownBlock] w wr)
 case atStart=>exact ⟨j,Q,rfl,hf,hj,Lib.hid hN,h,hR,Far.refl _ _⟩
 case round=>
  clear h hR hN hj hf
  obtain ⟨j,Q,rfl,hf,hj,hN,h,hR,hfar⟩:=hrel
  cases gk with
  | zero=>omega
  | succ f=>
    have hN':=hN.out
    by_cases h0:j=0
    ·subst h0
     have hRQ:Q=R:=by rw [←hR.out];unfold upQ;rw [if_pos (.inl rfl)]
     go_wp2_with (fail)
     go_end0
     exact ⟨rfl,hRQ▸h,hfar⟩
    ·have hw1:IntKind.i64.wrap ((j:Int)-1)=(j:Int)-1:=IntWalk.i64_in _ (by omega)
     have hw2:(((j:Int)-1).tdiv 2)=(par j:Int):=by rw [show (j:Int)-1=((j-1:Nat):Int) by omega];rfl
     have hpl:=par_lt (show 0<j by omega)
     have hpj:((par j:Int)==(j:Int))=false:=by simp;omega
     have ml:=fun n=>method_less n h.c1
     have hl:=Lib.hid (queueLess_calls h.q (atQ_get (show j<Q.length by omega)) (atQ_get (show par j<Q.length by omega)))
     have hst:par j≠j:=by omega
     have hno:ltN (atQ Q j) (atQ Q (par j))=false→Q=R:=fun e=>by rw [←hR.out];unfold upQ;rw [if_pos (.inr e)]
     have hyes:ltN (atQ Q j) (atQ Q (par j))=true→Hid (upQ ltN f (swapQ Q (par j) j) (par j)=R):=fun e=>Lib.hid (by
      have:=hR.out
      unfold upQ at this
      rwa [if_neg (fun h=>h.elim hst fun h=>by rw [e] at h;cases h)] at this)
     have hlen:Hid ((swapQ Q (par j) j).length=N):=Lib.hid (by rw [swapQ_len];exact hN')
     have hsw:=fun W (hW:Below wr.heap.size wr W)=>Lib.hid (queueSwap_calls (h.below hW).q (show par j<Q.length by omega) (show j<Q.length by omega))
     generalize ltN (atQ Q j) (atQ Q (par j))=b at *
     generalize par j=pj at *
     clear hN' hR hst
     cases b with
     | false=>
       have hRQ:=hno rfl
       clear hyes hno hsw
       go_wp2_with (first
        | ((with_reducible refine hl.out.mono ?_);rintro e w2 ⟨rfl,hb2⟩))
       go_end0
       exact ⟨rfl,hRQ▸h.below hb2,hfar.more hb2⟩
     | true=>
       have hR2:=hyes rfl
       clear hyes hno
       go_wp2_with (first
        | ((with_reducible refine hl.out.mono ?_);rintro e w2 ⟨rfl,hb2⟩
           have h2:=h.below hb2
           have ms:=fun n=>method_swap n h2.c1
           have hs2:=hsw w2 hb2)
        | ((with_reducible refine hs2.out.mono ?_);rintro e w3 ⟨rfl,hq3,hf3⟩))
       have h3:=h2.swap hq3 hf3
       have hfar3:=(hfar.more hb2).trans hf3
       clear hl hsw hs2 ml ms h2 hq3 h
       go_roundg f
       case rel=>exact ⟨pj,_,rfl,by omega,by omega,hlen,h3,hR2,hfar3⟩
       case measure=>omega
set_option maxRecDepth 100000 in
set_option maxHeartbeats 8000000 in
theorem heapDown_calls {w:World} {B g:Nat} {vs vq vn:Value} {Q:List DiL} (h:WqAt w B g vs vq vn Q) (hbig:Q.length≤700000) (n:Nat) (hn:n≤Q.length) (f:Nat) (hf:n≤f) :
 Calls Tryz.prog 90 #[.iface 130 (.pointer (some ⟨g,1,none⟩)), .int .i64 0, .int .i64 n] w fun e w'=>(∃ b,e = .returned (.bool b))∧WqAt w' B g vs vq vn (downQ ltN f Q 0 n)∧Far [vq.ownBlock] w w':=by
 obtain ⟨R,hR⟩ : ∃ R,downQ ltN f Q 0 n=R:=⟨_,rfl⟩
 rw [hR]
 replace hR:=Lib.hid hR
 obtain ⟨N,hN⟩ : ∃ N,Q.length=N:=⟨_,rfl⟩
 rw [hN] at hbig hn
 go_enter Tryz.func90,Tryz.ntmps90
 go_wp2_with (fail)
 go_loopg [7] f (fun f vi wr => ∃ (i:Nat) (Q:List DiL),vi = .int .i64 i∧n≤i+f∧i≤N∧Hid (Q.length=N)∧WqAt wr B g vs vq vn Q∧Hid (downQ ltN f Q i n=R)∧Far [vq.ownBlock] w wr)
 case atStart=>exact ⟨0,Q,rfl,by omega,by omega,Lib.hid hN,h,hR,Far.refl _ _⟩
 case round=>
  clear h hR hN hf
  obtain ⟨i,Q,rfl,hf,hi,hN,h,hR,hfar⟩:=hrel
  have hN':=hN.out
  obtain ⟨J1,hJ1⟩ : ∃ J1,2*i+1=J1:=⟨_,rfl⟩
  have hw1:IntKind.i64.wrap (2*(i:Int))=2*(i:Int):=IntWalk.i64_in _ (by omega)
  have hw2:IntKind.i64.wrap (2*(i:Int)+1)=(J1:Int):=by rw [IntWalk.i64_in _ (by omega)];omega
  by_cases hnJ:n≤J1
  ·have hRQ:Q=R:=by
    rw [←hR.out]
    cases gk with
    | zero=>rfl
    | succ f=>unfold downQ;rw [if_pos (.inl (by omega))]
   have hni:(n:Int)≤(J1:Int):=by omega
   clear hJ1
   go_wp2_with (fail)
   go_ret
   exact ⟨⟨_,rfl⟩,hRQ▸h,hfar⟩
  ·cases gk with
   | zero=>omega
   | succ f=>
     have hni : ¬ (n:Int)≤(J1:Int):=by omega
     have hnn : ¬ (J1:Int)<0:=by omega
     obtain ⟨J2,hJ2⟩ : ∃ J2,J1+1=J2:=⟨_,rfl⟩
     have hw3:IntKind.i64.wrap ((J1:Int)+1)=(J2:Int):=by rw [IntWalk.i64_in _ (by omega)];omega
     have hlen : ∀ k,Hid ((swapQ Q i k).length=N):=fun k=>Lib.hid (by rw [swapQ_len];exact hN')
     have hno:ltN (atQ Q (minC ltN Q i n)) (atQ Q i)=false→Q=R:=fun e=>by rw [←hR.out];unfold downQ;rw [if_pos (.inr e)]
     have hyes:ltN (atQ Q (minC ltN Q i n)) (atQ Q i)=true→Hid (downQ ltN f (swapQ Q i (minC ltN Q i n)) (minC ltN Q i n) n=R):=fun e=>Lib.hid (by
      have:=hR.out
      unfold downQ at this
      rwa [if_neg (fun h=>h.elim (fun h=>by omega) fun h=>by rw [e] at h;cases h)] at this)
     have hmin:minC ltN Q i n=if J2<n∧ltN (atQ Q J2) (atQ Q J1)=true then J2 else J1:=by unfold minC;rw [hJ1,hJ2]
     have hles:=fun (a b:Nat) (ha:a<n) (hb:b<n) W (hW:Below wr.heap.size wr W)=>Lib.hid (queueLess_calls (h.below hW).q (atQ_get (show a<Q.length by omega)) (atQ_get (show b<Q.length by omega)))
     have hsw:=fun (a b:Nat) (ha:a<n) (hb:b<n) W (hW:Below wr.heap.size wr W)=>Lib.hid (queueSwap_calls (h.below hW).q (show a<Q.length by omega) (show b<Q.length by omega))
     have mls:=fun W (hW:Below wr.heap.size wr W) (k:Nat)=>method_less k (h.below hW).c1
     have mss:=fun W (hW:Below wr.heap.size wr W) (k:Nat)=>method_swap k (h.below hW).c1
     have ml:=mls wr (Below.refl _ _)
     have hgt:i<J1∧i<J2∧J1<n:=by omega
     clear hJ1 hN' hR
     by_cases h2n:J2<n
     ·have h2i:(J2:Int)<(n:Int):=by omega
      have hl1:=hles J2 J1 h2n (by omega) wr (Below.refl _ _)
      cases hb1:ltN (atQ Q J2) (atQ Q J1) with
      | true=>
        rw [hb1] at hl1 hmin
        rw [if_pos ⟨h2n,rfl⟩] at hmin
        rw [hmin] at hno hyes
        have hmn:=h2n
        clear hmin hb1
        have hl2:=fun W (hW:Below wr.heap.size wr W)=>hles J2 i hmn (by omega) W hW
        have hsw2:=fun W (hW:Below wr.heap.size wr W)=>hsw i J2 (by omega) hmn W hW
        clear hles hsw
        generalize ltN (atQ Q J2) (atQ Q i)=b at *
        cases b with
        | false=>
          have hRQ:=hno rfl
          clear hyes hno hsw2
          go_wp2_with (first
           | ((with_reducible refine hl1.out.mono ?_);rintro e w2 ⟨rfl,hb2⟩
              have hl2':=hl2 w2 hb2
              have ml2:=mls w2 hb2)
           | ((with_reducible refine hl2'.out.mono ?_);rintro e w3 ⟨rfl,hb3⟩
              have b3:=bthen hb2 hb2.size hb3))
          go_ret
          exact ⟨⟨_,rfl⟩,hRQ▸h.below b3,hfar.more b3⟩
        | true=>
          have hR2:=hyes rfl
          clear hyes hno
          go_wp2_with (first
           | ((with_reducible refine hl1.out.mono ?_);rintro e w2 ⟨rfl,hb2⟩
              have hl2':=hl2 w2 hb2
              have ml2:=mls w2 hb2)
           | ((with_reducible refine hl2'.out.mono ?_);rintro e w3 ⟨rfl,hb3⟩
              have b3:=bthen hb2 hb2.size hb3
              have h3:=h.below b3
              have ms3:=mss w3 b3
              have hs3:=hsw2 w3 b3)
           | ((with_reducible refine hs3.out.mono ?_);rintro e w4 ⟨rfl,hq4,hf4⟩))
          have h4:=h3.swap hq4 hf4
          have hfar4:=(hfar.more b3).trans hf4
          have hlen4:=hlen J2
          clear hl2 hsw2 hs3 hl2' ml mls mss ms3 h3 hq4 h hlen
          go_roundg f
          case rel=>exact ⟨J2,_,rfl,by omega,by omega,hlen4,h4,hR2,hfar4⟩
          case measure=>omega
      | false=>
        rw [hb1] at hl1 hmin
        rw [if_neg (fun h=>by cases h.2)] at hmin
        rw [hmin] at hno hyes
        have hmn:=hgt.2.2
        clear hmin hb1
        have hl2:=fun W (hW:Below wr.heap.size wr W)=>hles J1 i hmn (by omega) W hW
        have hsw2:=fun W (hW:Below wr.heap.size wr W)=>hsw i J1 (by omega) hmn W hW
        clear hles hsw
        generalize ltN (atQ Q J1) (atQ Q i)=b at *
        cases b with
        | false=>
          have hRQ:=hno rfl
          clear hyes hno hsw2
          go_wp2_with (first
           | ((with_reducible refine hl1.out.mono ?_);rintro e w2 ⟨rfl,hb2⟩
              have hl2':=hl2 w2 hb2
              have ml2:=mls w2 hb2)
           | ((with_reducible refine hl2'.out.mono ?_);rintro e w3 ⟨rfl,hb3⟩
              have b3:=bthen hb2 hb2.size hb3))
          go_ret
          exact ⟨⟨_,rfl⟩,hRQ▸h.below b3,hfar.more b3⟩
        | true=>
          have hR2:=hyes rfl
          clear hyes hno
          go_wp2_with (first
           | ((with_reducible refine hl1.out.mono ?_);rintro e w2 ⟨rfl,hb2⟩
              have hl2':=hl2 w2 hb2
              have ml2:=mls w2 hb2)
           | ((with_reducible refine hl2'.out.mono ?_);rintro e w3 ⟨rfl,hb3⟩
              have b3:=bthen hb2 hb2.size hb3
              have h3:=h.below b3
              have ms3:=mss w3 b3
              have hs3:=hsw2 w3 b3)
           | ((with_reducible refine hs3.out.mono ?_);rintro e w4 ⟨rfl,hq4,hf4⟩))
          have h4:=h3.swap hq4 hf4
          have hfar4:=(hfar.more b3).trans hf4
          have hlen4:=hlen J1
          clear hl2 hsw2 hs3 hl2' ml mls mss ms3 h3 hq4 h hlen
          go_roundg f
          case rel=>exact ⟨J1,_,rfl,by omega,by omega,hlen4,h4,hR2,hfar4⟩
          case measure=>omega
     ·have h2i : ¬ (J2:Int)<(n:Int):=by omega
      rw [if_neg (fun h=>h2n h.1)] at hmin
      rw [hmin] at hno hyes
      have hmn:=hgt.2.2
      clear hmin
      have hl2:=fun W (hW:Below wr.heap.size wr W)=>hles J1 i hmn (by omega) W hW
      have hsw2:=fun W (hW:Below wr.heap.size wr W)=>hsw i J1 (by omega) hmn W hW
      clear hles hsw
      generalize ltN (atQ Q J1) (atQ Q i)=b at *
      cases b with
      | false=>
        have hRQ:=hno rfl
        clear hyes hno hsw2
        have hl2':=hl2 wr (Below.refl _ _)
        go_wp2_with (first
         | ((with_reducible refine hl2'.out.mono ?_);rintro e w3 ⟨rfl,hb3⟩
            have b3:=hb3))
        go_ret
        exact ⟨⟨_,rfl⟩,hRQ▸h.below b3,hfar.more b3⟩
      | true=>
        have hR2:=hyes rfl
        clear hyes hno
        have hl2':=hl2 wr (Below.refl _ _)
        go_wp2_with (first
         | ((with_reducible refine hl2'.out.mono ?_);rintro e w3 ⟨rfl,hb3⟩
            have b3:=hb3
            have h3:=h.below b3
            have ms3:=mss w3 b3
            have hs3:=hsw2 w3 b3)
         | ((with_reducible refine hs3.out.mono ?_);rintro e w4 ⟨rfl,hq4,hf4⟩))
        have h4:=h3.swap hq4 hf4
        have hfar4:=(hfar.more b3).trans hf4
        have hlen4:=hlen J1
        clear hl2 hsw2 hs3 hl2' ml mls mss ms3 h3 hq4 h hlen
        go_roundg f
        case rel=>exact ⟨J1,_,rfl,by omega,by omega,hlen4,h4,hR2,hfar4⟩
        case measure=>omega
set_option maxRecDepth 100000 in
set_option maxHeartbeats 4000000 in
theorem heapPush_calls {w:World} {B g:Nat} {vs vq vn:Value} {Q:List DiL} (h:WqAt w B g vs vq vn Q) (hB:B≤w.heap.size) (hbig:Q.length≤600000) {e0:DiL} (he:DitOk w e0) :
 Calls Tryz.prog 65 #[.iface 130 (.pointer (some ⟨g,1,none⟩)), .iface 91 (.agg (ndC e0).toArray)] w fun e w'=>e = .returned (.tuple #[]) ∧ ∃ vq',WqAt w' B g vs vq' vn (upQ ltN (Q.length+1) (Q++[e0]) Q.length)∧Far [some g,vq.ownBlock] w w'∧Newer w vq vq':=by
 have hp:=Lib.hid (queuePush_calls h hB hbig he)
 have hlen:(Q++[e0]).length=Q.length+1:=by rw [List.length_append];rfl
 have hgl:=h.blk.lt
 have hol : ∀ k,vq.ownBlock=some k→k<w.heap.size:=fun k hk=>(World.ownsRow.lt h.q.own k hk).2
 have mp:=fun n=>method_push n ⟨g,1,none⟩ w
 obtain ⟨M,hM⟩ : ∃ M,Q.length=M:=⟨_,rfl⟩
 rw [hM] at hbig hlen ⊢
 have hw1:IntKind.i64.wrap (((M+1:Nat):Int)-1)=(M:Int):=by rw [IntWalk.i64_in _ (by omega)];omega
 obtain ⟨Q1,hQ1⟩ : ∃ Q1,Q++[e0]=Q1:=⟨_,rfl⟩
 rw [hQ1] at hp hlen ⊢
 clear he hQ1 hM
 go_enter Tryz.func65,Tryz.ntmps65
 go_wp2_with (first
  | ((with_reducible refine hp.out.mono ?_);rintro e w2 ⟨rfl,vq2,h2,hf2,hn2⟩
     have ml:=fun n=>method_len n h2.c1
     obtain ⟨A2,c2,rfl⟩:=own_form' h2.q.own
     have hln:=Lib.hid (queueLen_calls A2 (M+1) c2 w2)
     rw [hlen] at h2 ml hn2
     have hup:=Lib.hid (heapUp_calls h2 (by omega) M (by omega) (M+1) (by omega)))
  | ((with_reducible refine hln.out.mono ?_);rintro e w3 ⟨rfl,rfl⟩)
  | ((with_reducible refine hup.out.mono ?_);rintro e w4 ⟨rfl,h4,hf4⟩))
 go_end0
 exact ⟨rfl,_,h4,hf2.then_ hf4 (fun k hk=>by
  rw [List.mem_singleton] at hk
  rcases hn2 with h1 | h1
  ·exact .inl (by rw [hk,h1];simp)
  ·exact .inr (h1 k hk.symm)),hn2⟩
set_option maxRecDepth 100000 in
set_option maxHeartbeats 4000000 in
theorem heapPop_calls {w:World} {B g:Nat} {vs vq vn:Value} {Q:List DiL} (h:WqAt w B g vs vq vn Q) (hbig:Q.length≤700000) {n:Nat} (hn:Q.length=n+1) (hq:HeapQ ltN Q Q.length) :
 Calls Tryz.prog 66 #[.iface 130 (.pointer (some ⟨g,1,none⟩))] w fun e w'=>(∃ v,e = .returned v) ∧ ∃ vq' Q',WqAt w' B g vs vq' vn Q'∧HeapQ ltN Q' Q'.length∧(Q'++[atQ Q 0]).Perm Q∧vq'.ownBlock=vq.ownBlock∧Far [some g,vq.ownBlock] w w':=by
 obtain ⟨p1,p2,p3,p4⟩:=heap_pop ltN_ord hn hq
 have hsl:(swapQ Q 0 n).length=n+1:=by rw [swapQ_len,hn]
 have hsplit:downQ ltN (n+1) (swapQ Q 0 n) 0 n=(downQ ltN (n+1) (swapQ Q 0 n) 0 n).take n++[atQ Q 0]:=by
  have h1:(downQ ltN (n+1) (swapQ Q 0 n) 0 n).length=n+1:=p4
  have h2:=atQ_get (Q:=downQ ltN (n+1) (swapQ Q 0 n) 0 n) (i:=n) (by omega)
  have h3:=List.take_of_length_le (l:=downQ ltN (n+1) (swapQ Q 0 n) 0 n) (i:=n+1) (by omega)
  rw [List.take_add_one,h2,p2] at h3
  exact h3.symm
 obtain ⟨D,hD⟩ : ∃ D,(downQ ltN (n+1) (swapQ Q 0 n) 0 n).take n=D:=⟨_,rfl⟩
 have hDl:D.length=n:=by rw [←hD,List.length_take,p4];omega
 rw [hD] at hsplit
 have hheap:HeapQ ltN D D.length:=by
  rw [hDl]
  intro c h0 h1
  have:=p1 c h0 h1
  have hc : ∀ k,k<n→atQ (downQ ltN (n+1) (swapQ Q 0 n) 0 n) k=atQ D k:=fun k hk=>by
   rw [hsplit]
   unfold atQ
   simp only [List.getD_eq_getElem?_getD]
   rw [List.getElem?_append_left (by omega)]
  have hpc:=par_lt h0
  rwa [hc c h1,hc (par c) (by omega)] at this
 rw [hsplit] at p3
 have hw1:IntKind.i64.wrap (((n+1:Nat):Int)-1)=(n:Int):=by rw [IntWalk.i64_in _ (by omega)];omega
 have ml:=fun k=>method_len k h.c1
 have ms:=fun k=>method_swap k h.c1
 have hsw0:=queueSwap_calls h.q (show 0<Q.length by omega) (show n<Q.length by omega)
 rw [show ((0:Nat):Int)=0 from rfl] at hsw0
 have hsw:=Lib.hid hsw0
 clear hsw0
 have hdn:=fun W (h2:WqAt W B g vs vq vn (swapQ Q 0 n))=>Lib.hid (heapDown_calls h2 (by omega) n (by omega) (n+1) (by omega))
 obtain ⟨r0,hr0⟩ : ∃ r,atQ Q 0=r:=⟨_,rfl⟩
 rw [hr0] at hsplit p3 ⊢
 simp only [hsplit] at hdn
 have hpp:=fun W vq' (h4:WqAt W B g vs vq' vn (D++[r0]))=>Lib.hid (queuePop_calls h4)
 have hgm : ∀ W,method_pop 0 ⟨g,1,none⟩ W=method_pop 0 ⟨g,1,none⟩ W:=fun _=>rfl
 clear hgm p1 p2 p4 hsplit hD hr0 hsl
 obtain ⟨A1,c1,hA1⟩:=own_form' h.q.own
 rw [hn] at hA1
 have hln:=Lib.hid (queueLen_calls A1 (n+1) c1 w)
 go_enter Tryz.func66,Tryz.ntmps66
 subst hA1
 go_wp2_with (first
  | ((with_reducible refine hln.out.mono ?_);rintro e w2 ⟨rfl,rfl⟩)
  | ((with_reducible refine hsw.out.mono ?_);rintro e w3 ⟨rfl,hq3,hf3⟩
     have h3:=h.swap hq3 hf3
     have hdn3:=hdn _ h3)
  | ((with_reducible refine hdn3.out.mono ?_);rintro e w4 ⟨⟨b,rfl⟩,h4,hf4⟩
     have hpp4:=hpp _ _ h4
     have mp:=fun k=>method_pop k ⟨g,1,none⟩ w4)
  | ((with_reducible refine hpp4.out.mono ?_);rintro e w5 ⟨rfl,vq5,h5,hv5,hf5⟩))
 go_ret
 refine ⟨⟨_,rfl⟩,vq5,D,h5,hheap,p3,hv5,?_⟩
 have hf34:=hf3.trans hf4
 exact (hf34.mono fun k hk=>List.mem_cons_of_mem _ hk).then_ hf5 fun k hk => .inl (by rw [List.mem_singleton] at hk;rw [hk];exact List.mem_cons_self)
end Go.Proofs.YtlojebhcemfodaaGreatDoor
namespace Go.Proofs.YtlojebhcemfodaaGreatDoor
open Go.RowKit
theorem ltN_irr (e:DiL):ltN e e=false:=by
 unfold ltN aheadL
 rw [if_pos rfl]
 exact less_irrefl _
section
variable {S:List StL} {Q:List DiL} {seen out:List Txt}
/-- The heap's root is the best one. -/
theorem root_best (hq:HeapQ ltN Q Q.length) (hp:(Q.map fun e=>e.st.id).Perm (leftW seen out)) (ho : ∀ e∈Q,objS S e.st.id=some e.o) (h0:0<Q.length):bestT S seen out=some (atQ Q 0).st.id:=by
 have ht : ∀ e∈Q,timeS S e.st.id=e.o.time:=fun e he=>by unfold timeS;rw [ho e he]
 have hm0:atQ Q 0∈Q:=List.mem_of_getElem? (atQ_get h0)
 refine best_one (hp.mem_iff.1 (List.mem_map.2 ⟨_,hm0,rfl⟩)) fun m hm=>?_
 obtain ⟨e,he,rfl⟩:=List.mem_map.1 (hp.mem_iff.2 hm)
 obtain ⟨c,hc,rfl⟩:=List.getElem_of_mem he
 have h1:=heap_root ltN_ord hq (ltN_irr _) (c+1) c (by omega) hc
 have e1:atQ Q c=Q[c]:=by unfold atQ;rw [List.getD_eq_getElem?_getD,List.getElem?_eq_getElem hc];rfl
 rw [e1] at h1
 unfold aheadS
 rw [ht _ he,ht _ hm0]
 exact h1
theorem left_told (n:Txt):leftW seen (out++[n])=(leftW seen out).filter fun x => !decide (x=n):=by
 unfold leftW
 rw [List.filter_filter]
 congr 1
 funext x
 unfold inL
 rw [List.any_append]
 simp only [List.any_cons,List.any_nil,Bool.or_false]
 by_cases h:n=x
 ·simp [h]
 ·have h' : ¬ x=n:=fun e=>h e.symm
  simp [h,h']
theorem perm_told {L M:List Txt} {n:Txt} (h:(M++[n]).Perm L) (hn:L.Nodup):M.Perm (L.filter fun x => !decide (x=n)):=by
 have h1:=h.filter fun x => !decide (x=n)
 have h2:=(h.nodup_iff).2 hn
 have h3:n ∉ M:=fun hm=>by
  have:=(List.nodup_append.1 h2).2.2 n hm n (List.mem_singleton.2 rfl)
  exact this rfl
 have h4:(M++[n]).filter (fun x => !decide (x=n))=M:=by
  rw [List.filter_append,List.filter_eq_self.2 fun x hx=>by simp;intro e;exact h3 (e▸hx)]
  simp
 rw [h4] at h1
 exact h1
theorem left_seen {n:Txt} (h:n ∉ out):leftW (seen++[n]) out=leftW seen out++[n]:=by
 unfold leftW
 rw [List.filter_append]
 congr 1
 cases hi:inL out n with
 | true=>exact absurd (inL_iff.1 hi) h
 | false=>simp [hi]
end
/-- The walker, and what is seen and told. -/
structure WalkAt (S:List StL) (w:World) (B g:Nat) (vs vq vn:Value) (Q:List DiL) (seen out:List Txt):Prop where
 q:WqAt w B g vs vq vn Q
 sn:OwnIds w B vn (sortU seen)
 ok : ∀ x∈seen,x.length=32
 heap:HeapQ ltN Q Q.length
 perm:(Q.map fun e=>e.st.id).Perm (leftW seen out)
 obj : ∀ e∈Q,objS S e.st.id=some e.o
 wi:WalkI S seen out
section
variable {S:List StL} {w w':World} {B g:Nat} {vs vq vn:Value} {Q:List DiL} {seen out:List Txt}
theorem WalkAt.below (h:WalkAt S w B g vs vq vn Q seen out) (hb:Below w.heap.size w w'):WalkAt S w' B g vs vq vn Q seen out:=⟨h.q.below hb,own_below h.sn hb,h.ok,h.heap,h.perm,h.obj,h.wi⟩
theorem WalkAt.len (h:WalkAt S w B g vs vq vn Q seen out):Q.length≤S.length:=by
 have h1:=h.perm.length_eq
 rw [List.length_map] at h1
 have h2:(leftW seen out).length≤seen.length:=List.length_filter_le _ _
 have:=h.wi.len.1
 omega
theorem WqAt.setRow (h:WqAt w B g vs vq vn Q) {k:Nat} {T:TypeId} {c0:Array Value} (hk:Blk w k T c0) (h1:k≠g) (h2:vq.ownBlock≠some k) (h3:134≠T) (h4:42≠T) (cs:Array Value):WqAt (w.setRow k cs) B g vs vq vn Q:=
 ⟨keep_row h.blk (fun e=>h1 e.symm) cs,own_same h.q.own fun j hj=>setRow_other _ _ _ _ fun e=>h2 (e▸hj),fun e he=>(h.q.each e he).same (fun j hj=>setRow_other _ _ _ _ fun e'=>own_blk_ne (h.q.each e he).oe hk h3 (by rw [hj,e'])) fun j hj=>setRow_other _ _ _ _ fun e'=>own_blk_ne (h.q.each e he).op hk h4 (by rw [hj,e'])⟩
end
theorem built_node {w:World} (e:DiL) (he:DitOk w e):Tryz.prog.built 91 [(0, .agg (u8s e.st.id)),(1, .agg (objC e.o e.ve e.vp).toArray)]=some (ndC e).toArray:=by
 obtain ⟨⟨id,tx⟩,⟨kind,data,ents,tree,pars,time,text,target,of_,name⟩,ve,vp⟩:=e
 have h1:id.length=32:=he.id
 have h2:tree.length=32:=he.ok.tree
 have h3:target.length=32:=he.ok.target
 clear he
 obtain ⟨f1,rfl⟩:=len32 h1
 obtain ⟨f2,rfl⟩:=len32 h2
 obtain ⟨f3,rfl⟩:=len32 h3
 clear h1 h2 h3
 show Tryz.prog.built 91 [(0, .agg (u8s (List.ofFn f1))),(1, .agg (objC ⟨kind,data,ents,List.ofFn f2,pars,time,text,List.ofFn f3,of_,name⟩ ve vp).toArray)]=some (((u8s (List.ofFn f1)).toList++objC ⟨kind,data,ents,List.ofFn f2,pars,time,text,List.ofFn f3,of_,name⟩ ve vp).toArray)
 kernel_rfl
section
attribute [local go_sem ↓] ldvN_eq
set_option maxRecDepth 100000 in
set_option maxHeartbeats 4000000 in
theorem walkNext_calls {w:World} {B g:Nat} {vs vq vn:Value} {Q:List DiL} (h:WqAt w B g vs vq vn Q) (hbig:Q.length≤700000) (h0:0<Q.length) (hq:HeapQ ltN Q Q.length) :
 Calls Tryz.prog 41 #[.pointer (some ⟨g,0,none⟩)] w fun e w'=>e = .returned (.agg (ndC (atQ Q 0)).toArray) ∧ ∃ vq' Q',WqAt w' B g vs vq' vn Q'∧HeapQ ltN Q' Q'.length∧(Q'++[atQ Q 0]).Perm Q∧vq'.ownBlock=vq.ownBlock∧Far [some g,vq.ownBlock] w w':=by
 obtain ⟨n,hn⟩ : ∃ n,Q.length=n+1:=⟨Q.length-1,by omega⟩
 obtain ⟨W1,hW1⟩ : ∃ W1,w.alloc (.cells Tryz.zeroCells91 91)=W1:=⟨_,rfl⟩
 have z1:Blk W1 w.heap.size 91 Tryz.zeroCells91:=by rw [←hW1];exact Blk.new _ _ _
 have hzs:(Tryz.zeroCells91).size=104:=by kernel_rfl
 have b1:Below w.heap.size w W1:=by rw [←hW1];exact (Below.refl _ _).alloc (Nat.le_refl _) _
 have h1:=h.below b1
 have c1:=h1.c1
 have hx:=atQ_get h0
 have hxm:=h.q.each _ (List.mem_of_getElem? hx)
 have hxl:=ndC_len hxm
 have hxo:=ndC_one hxm
 have hat:=h1.q.at_
 have hol : ∀ k,vq.ownBlock=some k→k<w.heap.size:=fun k hk=>(World.ownsRow.lt h.q.own k hk).2
 have hgl:=h.blk.lt
 have hpo:=fun W (hW:Below W1.heap.size W1 W)=>Lib.hid (heapPop_calls (h1.below hW) hbig hn hq)
 obtain ⟨r,hr⟩ : ∃ r,atQ Q 0=r:=⟨_,rfl⟩
 rw [hr] at hx hxl hxo ⊢
 simp only [hr] at hpo
 obtain ⟨X,hX⟩ : ∃ X,(ndC r).toArray=X:=⟨_,rfl⟩
 have hX104:X.size=104:=by rw [←hX,List.size_toArray,hxl]
 have hX1:X.all (·.oneCell')=true:=by rw [←hX];exact all_oneCell_toArray hxo
 obtain ⟨A,cap,rfl,hcap1,hcap2,hatc⟩:=hat
 obtain ⟨gr,o,rfl,hgr,hc⟩:=hatc h0
 have lx:=run_ldvN_at (hc 0 _ hx) hxl
 rw [Nat.zero_mul,Nat.add_zero] at lx
 rw [hX] at lx ⊢
 have hszX:(Tryz.prog.info? 91).map (·.size)=some X.size:=by rw [hX104];exact szNd
 have hzX:(Tryz.zeroCells91).size=X.size:=hzs.trans hX104.symm
 have h0i:(0:Int)<(Q.length:Int):=by omega
 have hlt1:w.heap.size<W1.heap.size:=z1.lt
 have hnot : ∀ k,w.heap.size≤k→some k ∉ [some g,(Value.slice (some ⟨gr,o,none⟩) Q.length cap).ownBlock]:=fun k hk hm=>by
  rcases List.mem_cons.1 hm with h | h
  ·injection h with h;omega
  ·have:=hol _ (List.mem_singleton.1 h).symm;omega
 have hnot1:=hnot W1.heap.size b1.size
 have hnot0:=hnot w.heap.size (Nat.le_refl _)
 clear hatc hc hx hxm hxl hxo hX hr h1 hnot hn
 go_enter Tryz.func41,Tryz.ntmps41
 go_wp2_with (first
  | ((with_reducible refine lit_new 91 (.tmp 3) (.tmp 9) X 104 szNd hX104 hX1 _ ?_ ?_ ?_ ?_)
     ·first | exact hX104 | kernel_rfl
     ·rfl
     ·rfl
     intro W2 hb2 hbl2
     have hpo2:=hpo W2 hbl2)
  | ((with_reducible refine hpo2.out.mono ?_);rintro e w3 ⟨⟨v,rfl⟩,vq3,Q3,h3,hh3,hp3,hv3,hf3⟩
     have hg3:some W1.heap.size ∉ [some g,(Value.slice (some ⟨gr,o,none⟩) Q.length cap).ownBlock]:=fun hm=>hnot1 hm
     have hz3:some w.heap.size ∉ [some g,(Value.slice (some ⟨gr,o,none⟩) Q.length cap).ownBlock]:=fun hm=>hnot0 hm
     have hb3:=hf3.blk hb2 hg3
     have ld3:=run_ldvN hb3 hX104
     have z3:=hf3.blk (z1.below hbl2 z1.lt) hz3)
  | (refine wpList_store_row rfl 91 (.tmp 2) (.tmp 15) rfl w.heap.size X rfl rfl _ _ z3 hszX hzX hX1 ?_))
 have hfar:Far [some g,(Value.slice (some ⟨gr,o,none⟩) Q.length cap).ownBlock] w (w3.setRow w.heap.size X):=((Far.of_below (bthen b1 b1.size hbl2)).trans hf3).row (.inr (Nat.le_refl _)) X
 have hfin:=h3.setRow z3 (by omega) (fun e=>by rw [hv3] at e;have:=hol _ e;omega) (by decide) (by decide) X
 refine bodyPost_ret (results_cell_row rfl _ _ w.heap.size _ _ _ _ rfl (setRow_heap _ _ _ _ _ _ z3) Tryz.underlying91 rfl hszX) rfl ⟨rfl,vq3,Q3,hfin,hh3,hp3,hv3,hfar⟩
end
end Go.Proofs.YtlojebhcemfodaaGreatDoor
