/- Texts of this claim, laid together: MkC, MkE, Grow, StoQ, DocA, Items, DocT, PutW, RsK, DlaM. -/
import Derived.Test.YtodebknbchaccaaGreatDoorMj
import Derived.Deep.CutBlock
import Derived.Deep.RegionWith
namespace Go.Proofs.YtodebknbchaccaaGreatDoor
open Go.RowKit
section
attribute [local go_sem ↓] ldvI_eq ldvS_eq stvI_eq ldvO_eq
set_option maxRecDepth 100000 in
set_option maxHeartbeats 8000000 in
theorem make_commit {w:World} {vm:Value} {es:List DiL} (h:DocSt w vm es) (ids:List Txt) (hok : ∀ x∈ids,x.length=32) (hil:ids.length≤1000) (vi:Value) (hi:Ids w vi ids) (x:SdL) (hx:SdOk w x) (hr:x.refs.length≤10) (ht:x.text.length≤300) (hk:(x.kind.toNat:Int)%4=2) :
 Calls Tryz.prog 58 #[.agg #[vm],vi, .agg (sdC x).toArray] w fun e w'=>MkR w e w'∧Below w.heap.size w w':=by
 have hzo:=zeroObj
 have hz72:=zAu
 have hzone:zObj.all (·.oneCell')=true:=zAz zeroO none none 0 0 0 0
 have hsz : ∀ cs:Array Value,cs.size=72→(Tryz.prog.info? 74).map (·.size)=some cs.size:=fun cs h=>by rw [h];exact szObj
 obtain ⟨W1,hW1⟩ : ∃ W1,w.alloc (.cells #[vm] 34)=W1:=⟨_,rfl⟩
 have s1:Blk W1 w.heap.size 34 #[vm]:=by rw [←hW1];exact Blk.new _ _ _
 have b1:Below w.heap.size w W1:=by rw [←hW1];exact (Below.refl _ _).alloc (Nat.le_refl _) _
 obtain ⟨W2,hW2⟩ : ∃ W2,W1.alloc (.cells (sdC x).toArray 137)=W2:=⟨_,rfl⟩
 have d2:Blk W2 W1.heap.size 137 (sdC x).toArray:=by rw [←hW2];exact Blk.new _ _ _
 have bb2:Below W1.heap.size W1 W2:=by rw [←hW2];exact (Below.refl _ _).alloc (Nat.le_refl _) _
 obtain ⟨W3,hW3⟩ : ∃ W3,W2.alloc (.cells zObj 74)=W3:=⟨_,rfl⟩
 have z3:Blk W3 W2.heap.size 74 zObj:=by rw [←hW3];exact Blk.new _ _ _
 have bb3:Below W2.heap.size W2 W3:=by rw [←hW3];exact (Below.refl _ _).alloc (Nat.le_refl _) _
 have b2:=bthen b1 b1.size bb2
 have b3:=bthen b2 b2.size bb3
 have s3:=(s1.below bb2 s1.lt).below bb3 (s1.below bb2 s1.lt).lt
 have d3:=d2.below bb3 d2.lt
 have hle2:w.heap.size≤W2.heap.size:=b2.size
 have hlt0:=s1.lt
 have hlt1:=d2.lt
 have hlt2:=z3.lt
 have fL:=fun W (hW:Below W3.heap.size W3 W)=>zAF (s3.below hW s3.lt)
 have fK : ∀ W,Below W3.heap.size W3 W→W.cell? ⟨W1.heap.size,0,none⟩=some (.int .u8 x.kind.toNat):=fun W hW=>(d3.below hW d3.lt).cell 0
 have fR : ∀ W,Below W3.heap.size W3 W→W.cell? ⟨W1.heap.size,1,none⟩=some x.vr:=fun W hW=>(d3.below hW d3.lt).cell 1
 have fT : ∀ W,Below W3.heap.size W3 W→W.cell? ⟨W1.heap.size,2,none⟩=some (.int .u16 x.time):=fun W hW=>(d3.below hW d3.lt).cell 2
 have fX : ∀ W,Below W3.heap.size W3 W→W.cell? ⟨W1.heap.size,3,none⟩=some (.string (B x.text)):=fun W hW=>(d3.below hW d3.lt).cell 3
 have k3:=fK W3 (Below.refl _ _)
 have hkb:(x.kind.toNat:Int)<256:=by have:=x.kind.toNat_lt;omega
 have hsI:(Tryz.prog.info? 28).map (·.size)=some (u8s noId).size:=by rw [zAh,zAc];exact sz32
 have hrb:=fun W=>run_build (P:=Tryz.prog) W _ _ _ zBL
 have hzI:=zeroIdV
 have hZ32:(u8s noId).size=32:=by rw [zAh,zAc]
 obtain ⟨A,cap,hvr,hcap1,hcap2,hat⟩:=hx.refs
 rw [hvr] at fR
 have htm:=hx.time
 have htw:IntKind.i64.wrap (x.time:Int)=(x.time:Int):=IntWalk.i64_in _ (by omega)
 have htu:IntKind.u32.wrap (x.time:Int)=(x.time:Int):=by
  unfold IntKind.wrap
  simp [IntKind.bits,IntKind.signed]
  omega
 have t3:=fT W3 (Below.refl _ _)
 have l3:=fL W3 (Below.refl _ _)
 have hp2:=Lib.hid (zCD (h.below b3) ids hok hil vi (hi.below b3) x.time (by omega) 2)
 have hfz : ∀ w',MkR w (.returned (.agg zObj)) w':=fun w'=>MkR.bare zeroO rfl rfl zeroO_small zeroO_ok
 have hpk:=fun (c:UInt8) W (hW:Below W3.heap.size W3 W)=>(zCD (h.below (bthen b3 b3.size hW)) ids hok hil vi (hi.below (bthen b3 b3.size hW)) c.toNat (by have:=c.toNat_lt;omega) 3)
 have fBk : ∀ k,k<x.refs.length → ∃ (ga oa:Nat) (c:UInt8),A=some ⟨ga,oa,none⟩ ∧ ∀ W,Below W3.heap.size W3 W→W.cell? ⟨ga,oa+k,none⟩=some (.int .u8 c.toNat):=fun k hk=>by
  obtain ⟨ga,oa,rfl,hga,hca⟩:=hat (by omega)
  refine ⟨ga,oa,x.refs[k],rfl,fun W hW=>?_⟩
  have:=zAb (hca k _ (List.getElem?_eq_getElem hk)) hga (bthen b3 b3.size hW) 0 _ rfl
  simpa [byC,u8v] using this
 have htx:=hx.text
 clear h hi hx fK hok hat hvr
 generalize (sdC x).toArray=SC at *
 obtain ⟨ZO,hZO⟩ : ∃ ZO,zObj=ZO:=⟨_,rfl⟩
 rw [hZO] at hzo hz72 hzone hW3 z3 hrb hfz
 go_enter Tryz.func58,Tryz.ntmps58
 go_upto_region 13 with (first
  | ((with_reducible refine hp2.out.mono ?_);rintro e w4 ⟨⟨y,b,rfl,hy⟩,hb4⟩
     have b4:=bthen b3 b3.size hb4
     have z4:=z3.below hb4 z3.lt
     have hy32:(u8s y).size=32:=by rw [zAh,hy]
     have hyo:=u8s_one y)
  | ((with_reducible refine lit_new 28 (.tmp 11) (.tmp 72) (u8s y) 32 sz32 hy32 hyo _ ?_ ?_ ?_ ?_)
     ·first | exact hZ32 | rfl
     ·rfl
     ·rfl
     intro W5 n5 hbl5
     have b5:=bthen b4 b4.size hbl5
     have b35:=bthen hb4 hb4.size hbl5
     have z5:=z4.below hbl5 z4.lt
     have ln5:=zAi (zAj n5) hy))
 cases b
 ·clear hpk fBk fL fR
  go_wp2_with (first
   | (refine wpList_store_row rfl 74 (.tmp 6) (.tmp 76) rfl W2.heap.size ZO rfl rfl _ _ z5 (hsz _ hz72) rfl hzone ?_))
  refine bodyPost_ret (results_cell_row rfl _ _ W2.heap.size _ _ _ _ rfl (setRow_heap _ _ _ _ _ _ z5) Tryz.underlying74 rfl (hsz _ hz72)) rfl ⟨hfz _,zAa b5 hle2 _⟩
 ·have hbd:=built_commit y hy x.time x.text
  have hcs:(objC ⟨3,[],[],y,[],x.time,x.text,noId,0,[]⟩ (.slice none 0 0) (.slice none 0 0)).toArray.size=72:=by
   rw [List.size_toArray]
   unfold objC
   simp [zAh,zAc,hy]
  have hc1:=zAz ⟨3,[],[],y,[],x.time,x.text,noId,0,[]⟩ none none 0 0 0 0
  have t5:=fT _ b35
  have x5:=fX _ b35
  obtain ⟨OC,hOC⟩ : ∃ OC,(objC ⟨3,[],[],y,[],x.time,x.text,noId,0,[]⟩ (.slice none 0 0) (.slice none 0 0)).toArray=OC:=⟨_,rfl⟩
  rw [hOC] at hbd hcs hc1
  have hOC:=Lib.hid hOC
  go_wp2_with (first
   | ((with_reducible refine zCJ hbd ?_ ?_ ?_ ?_ ?_);rfl;rfl;rfl;rfl)
   | ((with_reducible refine lit_new 74 (.tmp 13) (.tmp 83) OC 72 szObj hcs hc1 _ ?_ ?_ ?_ ?_)
      ·first | exact hz72 | rfl
      ·rfl
      ·rfl
      intro W6 n6 hbl6
      have b36:=bthen b35 b35.size hbl6))
  have hgs:W3.heap.size≤W5.heap.size:=b35.size
  have hO6:ObjB W6 W5.heap.size ⟨3,[],[],y,[],x.time,x.text,noId,0,[]⟩ (.slice none 0 0) (.slice none 0 0):=⟨by rw [hOC.out];exact n6,hy,zAc⟩
  clear n6 hbd hcs hc1 t5 x5 ln5 n5 hp2 l3 t3 z5 z4 hrb hfz fT fX
  go_loopw [14] (fun vi wr => ∃ (k:Nat) (acc:List Txt) (vp:Value),vi = .int .i64 k∧k≤x.refs.length∧k≤4∧acc.length≤k∧Hid (∀ x∈acc,x.length=32)∧ObjB wr W5.heap.size ⟨3,[],[],y,acc,x.time,x.text,noId,0,[]⟩ (.slice none 0 0) vp∧OwnIds wr W3.heap.size vp acc∧Below W3.heap.size W3 wr) (fun vi _=>x.refs.length-(intOf vi).toNat)
  case atStart=>exact ⟨0,[],_,rfl,by omega,by omega,by simp,Lib.hid (fun x hx=>by simp at hx),hO6,World.ownsRow_nil _ _ _ _,b36⟩
  case round=>
   obtain ⟨k,acc,vp,rfl,hk,hk4,hal,hall,hO,hown,hbel⟩:=hrel
   have r6:=fR _ hbel
   by_cases hlt:k<x.refs.length
   ·have hki:(k:Int)<(x.refs.length:Int):=by omega
    by_cases hk5:k<4
    ·have hki4:(k:Int)<4:=by omega
     obtain ⟨ga,oa,c,rfl,fB⟩:=fBk k hlt
     have hcb:(c.toNat:Int)<256:=by have:=c.toNat_lt;omega
     have hcw:IntKind.i64.wrap (c.toNat:Int)=(c.toNat:Int):=IntWalk.i64_in _ (by omega)
     have hpk:=hpk c
     clear fBk
     go_wp2
     refine zAw 15 (by kernel_rfl) (by kernel_rfl) (by kernel_rfl) (by kernel_rfl) ?_
     simp only [exSp]
     iterate 15 apply Exists.intro
     repeat
      first
       | ((with_reducible apply lx0_ex)
          ·(go_simp;done)
          apply Exists.intro
          apply And.intro
          ·apply Eq.refl
          apply And.intro
          ·intro W hW hD
           have hW2:=hbel.trans (hW.mono hbel.size)
           have q0:=fL W hW2
           have q1:=fR W hW2
           have q2:=fB W hW2
           go_simp
           rfl
          simp only [Act.put,zA,zB,zC])
       | ((with_reducible apply zAZ)
          ·(first | rfl | (go_simp;done))
          ·apply Eq.refl
          simp only [Act.put,zA,zB,zC])
       | ((with_reducible refine lx0_new (fun v _ _=>PickV v) rfl ?_ (zBf PickV) ?_ ?_)
          ·(go_simp;done)
          ·intro W hW hD
           have hW2:=hbel.trans (hW.mono hbel.size)
           unfold doesAt Oper.wp execOp
           go_simp
           (with_reducible refine (hpk W hW2).mono ?_)
           rintro e w' ⟨⟨y,b,rfl,hy⟩,hb⟩
           exact ⟨hb,fun _ _ _ _=>⟨y,b,rfl,hy⟩⟩
          intro v
          simp only [Act.put,zA,zB,zC])
       | (first | (with_reducible apply zBi) | (with_reducible apply zAO)
          ·apply Eq.refl
          apply Exists.intro
          apply And.intro
          ·(go_simp;rfl)
          simp only [Act.put,zA,zB,zC])
       | ((with_reducible apply zCn)
          ·apply Eq.refl
          apply Exists.intro
          apply And.intro
          ·(go_simp;rfl)
          refine ⟨fun W hW hD=>?_,?_⟩
          ·obtain ⟨F,y,b,rfl,hy⟩:=hD.at 0 rfl (by kernel_rfl)
           exact ⟨_,rfl,by simp⟩
          simp only [Act.put,zA,zB,zC])
       | ((with_reducible apply lx_al 28 (u8s noId) zeroIdV)
          ·apply Eq.refl
          intro v
          simp only [Act.put,zA,zB,zC])
       | ((with_reducible apply lx_st' 12 28 (u8s noId) hsI (by kernel_rfl))
          ·exact rfl
          ·apply Eq.refl
          apply Exists.intro
          apply Exists.intro
          apply And.intro
          ·(go_simp;rfl)
          apply And.intro
          ·(go_simp;rfl)
          refine ⟨?_,fun W hW hD=>?_,?_⟩
          ·first | exact List.Mem.head _ | exact List.Mem.tail _ (List.Mem.head _) | exact List.Mem.tail _ (List.Mem.tail _ (List.Mem.head _)) | exact List.Mem.tail _ (List.Mem.tail _ (List.Mem.tail _ (List.Mem.head _)))
          ·obtain ⟨F,y,b,rfl,hy⟩:=hD.at 1 rfl (by kernel_rfl)
           exact ⟨_,rfl,by rw [zAh,zAh,hy,zAc],u8s_one y⟩)
     refine lx0_nil ?_ fun w7 hW7 hD7=>?_
     ·exact (by simp [stsOf])
     obtain ⟨_,y7,b,rfl,hy7⟩:=hD7 _ (.tail _ (.tail _ (.head _)))
     obtain ⟨_,g,cs,rfl,hcs,hg1,_,hg2⟩:=hD7 _ (.head _)
     obtain rfl:u8s y7=cs:=by injection hcs
     clear hcs hD7
     simp only [extr2_0,extr2_1]
     have b7:=hbel.trans (hW7.mono hbel.size)
     have own7:=zAf hown hW7
     have hO7:=hO.below hW7
     have hgI:=zAi (zAj hg2) hy7
     clear hpk fB hcw
     cases b
     ·go_wp2
      go_roundw
      case rel=>exact ⟨k+1,acc,vp,by go_num,by omega,by omega,by omega,hall,hO7,own7,b7⟩
      case measure=>simp [intOf];omega
     ·obtain ⟨A3,c3,rfl⟩:=zAm hown
      have hpc:w7.cell? ⟨W5.heap.size,35,none⟩=some (.slice A3 acc.length c3):=hO7.pars
      by_cases ha:acc.length=k
      ·have hai:((acc.length:Int)==(k:Int))=true:=by simp;omega
       clear ha
       have hid32:(idC y7).toArray.size=32:=by rw [List.size_toArray,idC_len hy7]
       have hidl:(idC y7).toArray.size=1*32:=hid32
       have hid1 : ∀ u∈(idC y7).toArray.toList,u.oneCell'=true:=by rw [List.toList_toArray];exact idC_one y7
       have hXC:(idC y7).toArray=u8s y7:=by simp [idC]
       rw [hXC] at hid32 hidl hid1
       have hall2:Hid (∀ z∈acc++[y7],z.length=32):=Lib.hid fun z hz=>by
        rcases List.mem_append.1 hz with hz | hz
        ·exact hall.out z hz
        ·rw [List.mem_singleton.1 hz];exact hy7
       have hrow:Hid (rowsOf idC (acc++[y7])=rowsOf idC acc++(u8s y7).toList):=Lib.hid (by rw [zAo,zAx];rfl)
       have hkl:acc.length+1≤9223372036854775807:=by omega
       have hm2:(acc.length+1)*32≤140737488355328:=by omega
       have sz7:=b7.size
       have hgO:=zAD own7 hO7.blk (by decide)
       clear hXC
       generalize u8s y7=XC at *
       go_wp2_with (first
        | ((with_reducible refine zAN (.tmp 117) Tryz.idsTy XC hid32 (by omega) ?_ ?_);rfl)
        | (at_builtin
           (with_reducible refine zAl (.tmp 116) (.tmp 118) 1 _ Tryz.idsTy own7 XC hidl hid1 hkl hm2 sz7 ?_ ?_ ?_);rfl;rfl
           intro v8 w8 hv8 hb8 hg8 hn8
           have b8:=b7.trans hb8
           have hO8:ObjB w8 W5.heap.size ⟨3,[],[],y,acc,x.time,x.text,noId,0,[]⟩ (.slice none 0 0) (.slice A3 acc.length c3):=⟨hO7.blk.grown hg8 hgO,hO7.tr,hO7.ta⟩
           have hf8:=hO8.fr 35
           have hp8:=hO8.pars
           obtain ⟨A8,c8,rfl⟩:=zAm hv8
           clear hg8 hn8))
       have hne8:=zAD hv8 hO8.blk (by decide)
       have own9:OwnIds (w8.setCell ⟨W5.heap.size,35,none⟩ (.slice A8 (acc.length+1) c8)) W3.heap.size (.slice A8 (acc.length+1) c8) (acc++[y7]):=by
        unfold OwnIds
        rw [List.length_append,hrow.out]
        exact zCk hv8 fun k hk=>Below.heap_setCell _ _ _ _ (fun e=>hne8 (by rw [hk];exact congrArg some e.symm))
       go_roundw
       case rel=>exact ⟨k+1,acc++[y7],_,by go_num,by omega,by omega,by simp;omega,hall2,hO8.setPars _ _,own9,b8.setCell hgs _⟩
       case measure=>simp [intOf];omega
      ·have hai:((acc.length:Int)==(k:Int))=false:=by rw [beq_eq_false_iff_ne];omega
       go_wp2
       go_roundw
       case rel=>exact ⟨k+1,acc,_,by go_num,by omega,by omega,by omega,hall,hO7,own7,b7⟩
       case measure=>simp [intOf];omega
    ·have hki4 : ¬ (k:Int)<4:=by omega
     clear fBk hpk
     obtain ⟨A3,c3,rfl⟩:=zAm hown
     have hz9:=z3.below hbel z3.lt
     have hokO:ObjOk ⟨3,[],[],y,acc,x.time,x.text,noId,0,[]⟩:=⟨hy,zAc,by simp,hall.out,by simp,htx,by simp,by show x.time<_;omega,by simp,by simp,by simp,by simp⟩
     have ld:=zAU hO hokO
     have hcs:(objC ⟨3,[],[],y,acc,x.time,x.text,noId,0,[]⟩ (.slice none 0 0) (.slice A3 acc.length c3)).toArray.size=72:=by rw [List.size_toArray];exact zAC hokO _ _
     have hc1:=zAz ⟨3,[],[],y,acc,x.time,x.text,noId,0,[]⟩ none A3 0 0 acc.length c3
     have hfin:Hid (∀ w',OwnIds w' W3.heap.size (.slice A3 acc.length c3) acc→MkR w (.returned (.agg (objC ⟨3,[],[],y,acc,x.time,x.text,noId,0,[]⟩ (.slice none 0 0) (.slice A3 acc.length c3)).toArray)) w'):=Lib.hid fun w' ho=>⟨_,none,A3,0,c3,rfl,⟨by simp,by simp,by show acc.length≤_;omega,by simp,by show x.text.length≤_;omega,by simp⟩,hokO,World.ownsRow_nil _ _ _ _,zAE ho b3.size⟩
     have b9:=bthen b3 b3.size hbel
     generalize (objC ⟨3,[],[],y,acc,x.time,x.text,noId,0,[]⟩ (.slice none 0 0) (.slice A3 acc.length c3)).toArray=OR at *
     go_wp2_with (first
      | (refine wpList_store_row rfl 74 (.tmp 6) (.tmp 121) rfl W2.heap.size OR rfl rfl _ _ hz9 (hsz _ hcs) (hz72.trans hcs.symm) hc1 ?_))
     refine bodyPost_ret (results_cell_row rfl _ _ W2.heap.size _ _ _ _ rfl (setRow_heap _ _ _ _ _ _ hz9) Tryz.underlying74 rfl (hsz _ hcs)) rfl ⟨hfin.out _ (own_row hown hlt2 OR),zAa b9 hle2 _⟩
   ·have hki : ¬ (k:Int)<(x.refs.length:Int):=by omega
    clear fBk hpk
    obtain ⟨A3,c3,rfl⟩:=zAm hown
    have hz9:=z3.below hbel z3.lt
    have hokO:ObjOk ⟨3,[],[],y,acc,x.time,x.text,noId,0,[]⟩:=⟨hy,zAc,by simp,hall.out,by simp,htx,by simp,by show x.time<_;omega,by simp,by simp,by simp,by simp⟩
    have ld:=zAU hO hokO
    have hcs:(objC ⟨3,[],[],y,acc,x.time,x.text,noId,0,[]⟩ (.slice none 0 0) (.slice A3 acc.length c3)).toArray.size=72:=by rw [List.size_toArray];exact zAC hokO _ _
    have hc1:=zAz ⟨3,[],[],y,acc,x.time,x.text,noId,0,[]⟩ none A3 0 0 acc.length c3
    have hfin:Hid (∀ w',OwnIds w' W3.heap.size (.slice A3 acc.length c3) acc→MkR w (.returned (.agg (objC ⟨3,[],[],y,acc,x.time,x.text,noId,0,[]⟩ (.slice none 0 0) (.slice A3 acc.length c3)).toArray)) w'):=Lib.hid fun w' ho=>⟨_,none,A3,0,c3,rfl,⟨by simp,by simp,by show acc.length≤_;omega,by simp,by show x.text.length≤_;omega,by simp⟩,hokO,World.ownsRow_nil _ _ _ _,zAE ho b3.size⟩
    have b9:=bthen b3 b3.size hbel
    generalize (objC ⟨3,[],[],y,acc,x.time,x.text,noId,0,[]⟩ (.slice none 0 0) (.slice A3 acc.length c3)).toArray=OR at *
    go_wp2_with (first
     | (refine wpList_store_row rfl 74 (.tmp 6) (.tmp 121) rfl W2.heap.size OR rfl rfl _ _ hz9 (hsz _ hcs) (hz72.trans hcs.symm) hc1 ?_))
    refine bodyPost_ret (results_cell_row rfl _ _ W2.heap.size _ _ _ _ rfl (setRow_heap _ _ _ _ _ _ hz9) Tryz.underlying74 rfl (hsz _ hcs)) rfl ⟨hfin.out _ (own_row hown hlt2 OR),zAa b9 hle2 _⟩
end
section
attribute [local go_sem ↓] ldvI_eq ldvS_eq stvI_eq ldvO_eq
def NameV (v:Value):Prop := ∃ c:UInt8,v = .string (B [c])
structure EntS (e:EntL):Prop where
 id:e.id.length=32
 name:e.name.length=1
 k0:0≤e.kind
 k1:e.kind≤255
theorem EntS.ok {e:EntL} (h:EntS e):EntOk e:=⟨h.id,by have:=h.name;omega,by have:=h.k0;omega,by have:=h.k1;omega⟩
def oT : ObjL:=⟨2,[],[],noId,[],0,[],noId,0,[]⟩
def oTC (ve:Value):Array Value:=(objC oT ve (.slice none 0 0)).toArray
theorem entC_lenS {y:Txt} (hy:y.length=32) {n:Txt} {K:Int}:(entC ⟨n,K,y⟩).length=34:=by
 unfold entC
 simp [zAh,hy]
set_option maxRecDepth 100000 in
theorem built_ent3 (n:Txt) (k:Int) (x:Txt) (hx:x.length=32):Tryz.prog.built 181 [(0, .string (B n)),(1, .int .i64 k),(2, .agg (u8s x))]=some (entC ⟨n,k,x⟩).toArray:=by
 obtain ⟨f,rfl⟩:=len32 hx
 kernel_rfl
set_option maxRecDepth 100000 in
set_option maxHeartbeats 8000000 in
theorem make_tree {w:World} {vm:Value} {es:List DiL} (h:DocSt w vm es) (ids:List Txt) (hok : ∀ x∈ids,x.length=32) (hil:ids.length≤1000) (vi:Value) (hi:Ids w vi ids) (x:SdL) (hx:SdOk w x) (hr:x.refs.length≤10) (ht:x.text.length≤300) (hk:(x.kind.toNat:Int)%4=1) :
 Calls Tryz.prog 58 #[.agg #[vm],vi, .agg (sdC x).toArray] w fun e w'=>MkR w e w'∧Below w.heap.size w w':=by
 have hzo:=zeroObj
 have hz72:=zAu
 have hzone:zObj.all (·.oneCell')=true:=zAz zeroO none none 0 0 0 0
 have hsz : ∀ cs:Array Value,cs.size=72→(Tryz.prog.info? 74).map (·.size)=some cs.size:=fun cs h=>by rw [h];exact szObj
 obtain ⟨W1,hW1⟩ : ∃ W1,w.alloc (.cells #[vm] 34)=W1:=⟨_,rfl⟩
 have s1:Blk W1 w.heap.size 34 #[vm]:=by rw [←hW1];exact Blk.new _ _ _
 have b1:Below w.heap.size w W1:=by rw [←hW1];exact (Below.refl _ _).alloc (Nat.le_refl _) _
 obtain ⟨W2,hW2⟩ : ∃ W2,W1.alloc (.cells (sdC x).toArray 137)=W2:=⟨_,rfl⟩
 have d2:Blk W2 W1.heap.size 137 (sdC x).toArray:=by rw [←hW2];exact Blk.new _ _ _
 have bb2:Below W1.heap.size W1 W2:=by rw [←hW2];exact (Below.refl _ _).alloc (Nat.le_refl _) _
 obtain ⟨W3,hW3⟩ : ∃ W3,W2.alloc (.cells zObj 74)=W3:=⟨_,rfl⟩
 have z3:Blk W3 W2.heap.size 74 zObj:=by rw [←hW3];exact Blk.new _ _ _
 have bb3:Below W2.heap.size W2 W3:=by rw [←hW3];exact (Below.refl _ _).alloc (Nat.le_refl _) _
 have b2:=bthen b1 b1.size bb2
 have b3:=bthen b2 b2.size bb3
 have s3:=(s1.below bb2 s1.lt).below bb3 (s1.below bb2 s1.lt).lt
 have d3:=d2.below bb3 d2.lt
 have hle2:w.heap.size≤W2.heap.size:=b2.size
 have hlt0:=s1.lt
 have hlt1:=d2.lt
 have hlt2:=z3.lt
 have fL:=fun W (hW:Below W3.heap.size W3 W)=>zAF (s3.below hW s3.lt)
 have fK : ∀ W,Below W3.heap.size W3 W→W.cell? ⟨W1.heap.size,0,none⟩=some (.int .u8 x.kind.toNat):=fun W hW=>(d3.below hW d3.lt).cell 0
 have fR : ∀ W,Below W3.heap.size W3 W→W.cell? ⟨W1.heap.size,1,none⟩=some x.vr:=fun W hW=>(d3.below hW d3.lt).cell 1
 have fT : ∀ W,Below W3.heap.size W3 W→W.cell? ⟨W1.heap.size,2,none⟩=some (.int .u16 x.time):=fun W hW=>(d3.below hW d3.lt).cell 2
 have fX : ∀ W,Below W3.heap.size W3 W→W.cell? ⟨W1.heap.size,3,none⟩=some (.string (B x.text)):=fun W hW=>(d3.below hW d3.lt).cell 3
 have k3:=fK W3 (Below.refl _ _)
 have hkb:(x.kind.toNat:Int)<256:=by have:=x.kind.toNat_lt;omega
 have hsI:(Tryz.prog.info? 28).map (·.size)=some (u8s noId).size:=by rw [zAh,zAc];exact sz32
 obtain ⟨A,cap,hvr,hcap1,hcap2,hat⟩:=hx.refs
 rw [hvr] at fR
 have hkc:=fun (y:Txt) (hy:y.length=32) W (hW:Below W3.heap.size W3 W)=>zCj (h.below (bthen b3 b3.size hW)) y hy
 have hpk:=fun (c:UInt8) W (hW:Below W3.heap.size W3 W)=>(zCD (h.below (bthen b3 b3.size hW)) ids hok hil vi (hi.below (bthen b3 b3.size hW)) c.toNat (by have:=c.toNat_lt;omega) 9)
 have fBk : ∀ k,k<x.refs.length → ∃ (ga oa:Nat) (c:UInt8),A=some ⟨ga,oa,none⟩ ∧ ∀ W,Below W3.heap.size W3 W→W.cell? ⟨ga,oa+k,none⟩=some (.int .u8 c.toNat):=fun k hk=>by
  obtain ⟨ga,oa,rfl,hga,hca⟩:=hat (by omega)
  refine ⟨ga,oa,x.refs[k],rfl,fun W hW=>?_⟩
  have:=zAb (hca k _ (List.getElem?_eq_getElem hk)) hga (bthen b3 b3.size hW) 0 _ rfl
  simpa [byC,u8v] using this
 clear h hi hx fK fT fX hok hat hvr
 generalize (sdC x).toArray=SC at *
 obtain ⟨ZO,hZO⟩ : ∃ ZO,zObj=ZO:=⟨_,rfl⟩
 rw [hZO] at hzo hz72 hzone hW3 z3
 have hbd:=zBp 2
 have hcs:(oTC (.slice none 0 0)).size=72:=rfl
 have hc1:(oTC (.slice none 0 0)).all (·.oneCell')=true:=zAz oT none none 0 0 0 0
 have hbd:Tryz.prog.built 74 [(0, .int .i64 2)]=some (oTC (.slice none 0 0)):=hbd
 obtain ⟨OC,hOC⟩ : ∃ OC,oTC (.slice none 0 0)=OC:=⟨_,rfl⟩
 rw [hOC] at hbd hcs hc1
 have hOC:=Lib.hid hOC
 go_enter Tryz.func58,Tryz.ntmps58
 go_wp2_with (first
  | ((with_reducible refine zA6 hbd ?_ ?_);rfl)
  | ((with_reducible refine lit_new 74 (.tmp 7) (.tmp 25) OC 72 szObj hcs hc1 _ ?_ ?_ ?_ ?_)
     ·first | exact hz72 | rfl
     ·rfl
     ·rfl
     intro W4 n4 b34))
 have hO4:Blk W4 W3.heap.size 74 (oTC (.slice none 0 0)):=by rw [hOC.out];exact n4
 clear n4 hbd hcs hc1
 go_loopw [8] (fun vi wr => ∃ (k:Nat) (acc:List EntL) (ve:Value),vi = .int .i64 k∧k≤x.refs.length∧k≤5∧acc.length≤k∧Hid (∀ e∈acc,EntS e)∧Blk wr W3.heap.size 74 (oTC ve)∧OwnEnts wr W3.heap.size ve acc∧Below W3.heap.size W3 wr) (fun vi _=>x.refs.length-(intOf vi).toNat)
 case atStart=>exact ⟨0,[],_,rfl,by omega,by omega,by simp,Lib.hid (fun x hx=>by simp at hx),hO4,World.ownsRow_nil _ _ _ _,b34⟩
 case round=>
  obtain ⟨k,acc,ve,rfl,hk,hk5,hal,hall,hO,hown,hbel⟩:=hrel
  have r6:=fR _ hbel
  by_cases hlt:k<x.refs.length
  ·have hki:(k:Int)<(x.refs.length:Int):=by omega
   by_cases hk6:k<5
   ·have hki5:(k:Int)<5:=by omega
    obtain ⟨ga,oa,c,rfl,fB⟩:=fBk k hlt
    have hcb:(c.toNat:Int)<256:=by have:=c.toNat_lt;omega
    have hcw:IntKind.i64.wrap (c.toNat:Int)=(c.toNat:Int):=IntWalk.i64_in _ (by omega)
    have hpk:=hpk c
    clear fBk
    go_wp2
    refine zAw 15 (by kernel_rfl) (by kernel_rfl) (by kernel_rfl) (by kernel_rfl) ?_
    simp only [exSp]
    iterate 15 apply Exists.intro
    repeat
     first
      | ((with_reducible apply lx0_ex)
         ·(go_simp;done)
         apply Exists.intro
         apply And.intro
         ·apply Eq.refl
         apply And.intro
         ·intro W hW hD
          have hW2:=hbel.trans (hW.mono hbel.size)
          have q0:=fL W hW2
          have q1:=fR W hW2
          have q2:=fB W hW2
          go_simp
          rfl
         simp only [Act.put,zA,zB,zC])
      | ((with_reducible apply zAZ)
         ·(first | rfl | (go_simp;done))
         ·apply Eq.refl
         simp only [Act.put,zA,zB,zC])
      | ((with_reducible refine lx0_new (fun v _ _=>PickV v) rfl ?_ (zBf PickV) ?_ ?_)
         ·(go_simp;done)
         ·intro W hW hD
          have hW2:=hbel.trans (hW.mono hbel.size)
          unfold doesAt Oper.wp execOp
          go_simp
          (with_reducible refine (hpk W hW2).mono ?_)
          rintro e w' ⟨⟨y,b,rfl,hy⟩,hb⟩
          exact ⟨hb,fun _ _ _ _=>⟨y,b,rfl,hy⟩⟩
         intro v
         simp only [Act.put,zA,zB,zC])
      | (first | (with_reducible apply zBi) | (with_reducible apply zAO)
         ·apply Eq.refl
         apply Exists.intro
         apply And.intro
         ·(go_simp;rfl)
         simp only [Act.put,zA,zB,zC])
      | ((with_reducible apply zCn)
         ·apply Eq.refl
         apply Exists.intro
         apply And.intro
         ·(go_simp;rfl)
         refine ⟨fun W hW hD=>?_,?_⟩
         ·obtain ⟨F,y,b,rfl,hy⟩:=hD.at 0 rfl (by kernel_rfl)
          exact ⟨_,rfl,by simp⟩
         simp only [Act.put,zA,zB,zC])
      | ((with_reducible apply lx_al 28 (u8s noId) zeroIdV)
         ·apply Eq.refl
         intro v
         simp only [Act.put,zA,zB,zC])
      | ((with_reducible apply lx_st' 12 28 (u8s noId) hsI (by kernel_rfl))
         ·exact rfl
         ·apply Eq.refl
         apply Exists.intro
         apply Exists.intro
         apply And.intro
         ·(go_simp;rfl)
         apply And.intro
         ·(go_simp;rfl)
         refine ⟨?_,fun W hW hD=>?_,?_⟩
         ·first | exact List.Mem.head _ | exact List.Mem.tail _ (List.Mem.head _) | exact List.Mem.tail _ (List.Mem.tail _ (List.Mem.head _)) | exact List.Mem.tail _ (List.Mem.tail _ (List.Mem.tail _ (List.Mem.head _)))
         ·obtain ⟨F,y,b,rfl,hy⟩:=hD.at 1 rfl (by kernel_rfl)
          exact ⟨_,rfl,by rw [zAh,zAh,hy,zAc],u8s_one y⟩)
    refine lx0_nil ?_ fun w7 hW7 hD7=>?_
    ·exact (by simp [stsOf])
    obtain ⟨_,y7,b,rfl,hy7⟩:=hD7 _ (.tail _ (.tail _ (.head _)))
    obtain ⟨_,g,cs,rfl,hcs,hg1,_,hg2⟩:=hD7 _ (.head _)
    obtain rfl:u8s y7=cs:=by injection hcs
    clear hcs hD7
    simp only [extr2_0,extr2_1]
    have b7:=hbel.trans (hW7.mono hbel.size)
    have own7:=zAf hown hW7
    have hO7:=hO.below hW7 hO.lt
    clear hpk fB hcw
    cases b
    ·go_wp2
     go_roundw
     case rel=>exact ⟨k+1,acc,ve,by go_num,by omega,by omega,by omega,hall,hO7,own7,b7⟩
     case measure=>simp [intOf];omega
    ·obtain ⟨K,hK⟩ : ∃ K,kindS (es.map (·.st)) y7=K:=⟨_,rfl⟩
     have hKb:=zDU (s:=es.map (·.st)) y7
     have hkc:=hkc y7 hy7
     simp only [hK] at hKb hkc
     have hOV2:(oTC ve)[2]?=some ve:=rfl
     have hOVs:(2:Nat)<(oTC ve).size:=by show 2<(objC oT ve _).toArray.size;rw [List.size_toArray];simp [objC]
     have hOVp : ∀ v,(oTC ve).setIfInBounds 2 v=oTC v:=fun v=>rfl
     have hpre:=preOk2 (i:=10) (j:=12) own7 hO7 (by decide)
     have hrB:=rows2 (i:=10) (j:=12) (p:=fun w=>World.ownsRow w W3.heap.size 181 34 ve acc.length (rowsOf entC acc)) (q:=fun w=>Blk w W3.heap.size 74 (oTC ve)) (v:=ve) (fun k hk=>(World.ownsRow.lt own7 k hk).1) (Nat.le_refl W3.heap.size)
     have sz7:=b7.size
     have hno1:=zAD own7 hg2 (by decide)
     have hno2:W3.heap.size≠g:=fun e=>Blk.ne_ hO7 (e▸hg2) (by decide) rfl
     have hgI:=fun W (hF:Far (rowsOfP [(10,ve.ownBlock,fun w=>World.ownsRow w W3.heap.size 181 34 ve acc.length (rowsOf entC acc)),(12,some W3.heap.size,fun w=>Blk w W3.heap.size 74 (oTC ve))]) w7 W)=>zAi (zAj (hF.blk hg2 (by simp [rowsOfP];exact ⟨hno1,fun e=>hno2 e.symm⟩))) hy7
     have hkl:acc.length+1≤9223372036854775807:=by omega
     have hby:(acc.length+1)*56≤140737488355328:=by omega
     obtain ⟨A3,c3,rfl⟩:=zAm hown
     obtain ⟨OV,hOV⟩ : ∃ OV,oTC (.slice A3 acc.length c3)=OV:=⟨_,rfl⟩
     rw [hOV] at hpre hrB hgI hOV2 hOVs hOVp hO7
     have hnm:=fun W=>name_calls11 k (by omega) W
     clear hOV hK hno1 hno2
     go_wp2
     refine zBG 13 [(10,(Value.slice A3 acc.length c3).ownBlock,fun w=>World.ownsRow w W3.heap.size 181 34 (.slice A3 acc.length c3) acc.length (rowsOf entC acc)),(12,some W3.heap.size,fun w=>Blk w W3.heap.size 74 OV)] hpre (by kernel_rfl) (by kernel_rfl) (by kernel_rfl) (by kernel_rfl) ?_
     simp only [exSp]
     iterate 13 apply Exists.intro
     repeat
      first
       | ((with_reducible apply lx_ex)
          ·(go_simp;done)
          apply Exists.intro
          apply And.intro
          ·apply Eq.refl
          apply And.intro
          ·intro W hF hD
           first
            | (have hf:=zBg hF
               have hW2:=b7.trans (hf.below sz7 hrB)
               have q0:=fL W hW2
               have q1:W.cell? ⟨W3.heap.size,2,none⟩=some (.slice A3 acc.length c3):=by rw [(hD.was 1 rfl (by kernel_rfl)).cell];exact hOV2
               have q2:=hgI W hf
               have q3:=hkc W hW2
               go_simp
               first
                | rfl
                | (with_reducible exact q3))
            | (have hf:=zBg hF
               have hW2:=b7.trans (hf.below sz7 hrB)
               have q0:=fL W hW2
               have q2:=hgI W hf
               have q3:=hkc W hW2
               go_simp
               first
                | rfl
                | (with_reducible exact q3))
          simp only [Act.put,zA,zB,zC])
       | ((with_reducible apply lx_pass)
          ·(first | rfl | (go_simp;done))
          ·apply Eq.refl
          simp only [Act.put,zA,zB,zC])
       | ((with_reducible refine lx_new (fun _ v _ _=>NameV v) rfl ?_ (fun _=>zBf NameV) ?_ ?_)
          ·(go_simp;done)
          ·intro W hF hD
           unfold doesAt Oper.wp execOp
           go_simp
           (with_reducible refine (hnm W).mono ?_)
           rintro e w' ⟨⟨cc,rfl⟩,hb⟩
           exact ⟨hb,fun _ _ _ _=>⟨cc,rfl⟩⟩
          intro v
          simp only [Act.put,zA,zB,zC])
       | (first | (with_reducible apply zBi) | (with_reducible apply zAO)
          ·apply Eq.refl
          apply Exists.intro
          apply And.intro
          ·(go_simp;rfl)
          simp only [Act.put,zA,zB,zC])
       | ((with_reducible apply lx_build3 (fun cs => ∃ cc:UInt8,cs=(entC ⟨[cc],K,y7⟩).toArray))
          ·apply Eq.refl
          iterate 3 apply Exists.intro
          iterate 3
           apply And.intro
           ·(go_simp;rfl)
          refine ⟨fun W hF hD=>?_,?_⟩
          ·obtain ⟨F,cc,rfl⟩:=hD.at 0 rfl (by kernel_rfl)
           exact ⟨_,built_ent3 [cc] K y7 hy7,cc,rfl⟩
          intro v
          simp only [Act.put,zA,zB,zC])
       | ((with_reducible apply lx_slice1 Tryz.entTy (fun cs => ∃ cc:UInt8,cs=(entC ⟨[cc],K,y7⟩).toArray) (by omega))
          ·apply Eq.refl
          apply Exists.intro
          apply And.intro
          ·(go_simp;rfl)
          refine ⟨fun W hF hD=>?_,?_⟩
          ·obtain ⟨F,cs,rfl,cc,rfl⟩:=hD.at 0 rfl (by kernel_rfl)
           exact ⟨_,rfl,by rw [List.size_toArray,entC_lenS hy7],cc,rfl⟩
          intro v
          simp only [Act.put,zA,zB,zC])
       | ((with_reducible apply lx_append1 Tryz.entTy W3.heap.size (.slice A3 acc.length c3) acc.length (rowsOf entC acc) (fun xs => ∃ cc:UInt8,xs=rowsOf entC acc++entC ⟨[cc],K,y7⟩) hkl hby)
          ·exact sz7
          ·first | exact List.Mem.head _ | exact List.Mem.tail _ (List.Mem.head _) | exact List.Mem.tail _ (List.Mem.tail _ (List.Mem.head _)) | exact List.Mem.tail _ (List.Mem.tail _ (List.Mem.tail _ (List.Mem.head _)))
          ·apply Eq.refl
          apply Exists.intro
          apply Exists.intro
          apply And.intro
          ·(go_simp;rfl)
          apply And.intro
          ·(go_simp;rfl)
          refine ⟨rfl,fun W hF hD=>?_,?_⟩
          ·obtain ⟨F,g5,cs,rfl,_,hk5,cc,rfl⟩:=hD.at 0 rfl (by kernel_rfl)
           exact ⟨g5,_,rfl,hk5,by rw [List.size_toArray,entC_lenS hy7],by rw [List.toList_toArray];exact zDj _,cc,by rw [List.toList_toArray]⟩
          intro v
          simp only [Act.put,zA,zB,zC])
       | ((with_reducible apply lx_put W3.heap.size 2 OV 74)
          ·exact (fun _=>by kernel_rfl)
          ·exact hOVs
          ·first | exact List.Mem.head _ | exact List.Mem.tail _ (List.Mem.head _) | exact List.Mem.tail _ (List.Mem.tail _ (List.Mem.head _)) | exact List.Mem.tail _ (List.Mem.tail _ (List.Mem.tail _ (List.Mem.head _)))
          ·apply Eq.refl
          apply Exists.intro
          apply Exists.intro
          apply And.intro
          ·(go_simp;rfl)
          apply And.intro
          ·(go_simp;rfl)
          refine ⟨rfl,fun W hF hD=>?_,?_⟩
          ·obtain ⟨F,xs,_,hv,_⟩:=hD.at 0 rfl (by kernel_rfl)
           obtain ⟨A6,c6,rfl⟩:=zAm hv
           exact ⟨_,_,_,rfl⟩)
     refine lxP_nil ?_ fun w9 hF9 hD9=>?_
     ·exact List.nodup_nil
     have f9:=hF9
     obtain ⟨_,hg9,hb9⟩:=hD9 _ (.head _)
     obtain ⟨_,xs,⟨cc,rfl⟩,hv9,_⟩:=hD9 _ (.tail _ (.head _))
     rw [hOVp] at hb9
     have b9:=b7.trans (f9.below sz7 hrB)
     go_wp2
     go_roundw
     case rel=>exact ⟨k+1,acc++[⟨[cc],K,y7⟩],_,by go_num,by omega,by omega,by simp;omega,Lib.hid (fun e he=>by
      rcases List.mem_append.1 he with he | he
      ·exact hall.out e he
      ·rw [List.mem_singleton.1 he];exact ⟨hy7,rfl,hKb.1,hKb.2⟩),hb9,by unfold OwnEnts;rw [List.length_append,zAo,zAx];exact hv9,b9⟩
     case measure=>simp [intOf];omega
   ·have hki5 : ¬ (k:Int)<5:=by omega
    clear fBk hpk hkc
    obtain ⟨A3,c3,rfl⟩:=zAm hown
    have hz9:=z3.below hbel z3.lt
    have hokO:ObjOk ⟨2,[],acc,noId,[],0,[],noId,0,[]⟩:=⟨zAc,zAc,fun e he=>(hall.out e he).ok,by simp,by simp,by simp,by simp,by simp,by simp,by simp,by simp,by simp⟩
    have hOo:ObjB wr W3.heap.size ⟨2,[],acc,noId,[],0,[],noId,0,[]⟩ (.slice A3 acc.length c3) (.slice none 0 0):=⟨hO,zAc,zAc⟩
    have ld:=zAU hOo hokO
    have hcs:(objC ⟨2,[],acc,noId,[],0,[],noId,0,[]⟩ (.slice A3 acc.length c3) (.slice none 0 0)).toArray.size=72:=by rw [List.size_toArray];exact zAC hokO _ _
    have hc1:=zAz ⟨2,[],acc,noId,[],0,[],noId,0,[]⟩ A3 none acc.length c3 0 0
    have hfin:Hid (∀ w',OwnEnts w' W3.heap.size (.slice A3 acc.length c3) acc→MkR w (.returned (.agg (objC ⟨2,[],acc,noId,[],0,[],noId,0,[]⟩ (.slice A3 acc.length c3) (.slice none 0 0)).toArray)) w'):=Lib.hid fun w' ho=>⟨_,A3,none,c3,0,rfl,⟨by show acc.length≤_;omega,fun e he=>by have:=(hall.out e he).name;omega,by simp,by simp,by simp,by simp⟩,hokO,zAE ho b3.size,World.ownsRow_nil _ _ _ _⟩
    have b9:=bthen b3 b3.size hbel
    generalize (objC ⟨2,[],acc,noId,[],0,[],noId,0,[]⟩ (.slice A3 acc.length c3) (.slice none 0 0)).toArray=OR at *
    go_wp2_with (first
     | (refine wpList_store_row rfl 74 (.tmp 6) (.tmp 62) rfl W2.heap.size OR rfl rfl _ _ hz9 (hsz _ hcs) (hz72.trans hcs.symm) hc1 ?_))
    refine bodyPost_ret (results_cell_row rfl _ _ W2.heap.size _ _ _ _ rfl (setRow_heap _ _ _ _ _ _ hz9) Tryz.underlying74 rfl (hsz _ hcs)) rfl ⟨hfin.out _ (own_row hown hlt2 OR),zAa b9 hle2 _⟩
  ·have hki : ¬ (k:Int)<(x.refs.length:Int):=by omega
   clear fBk hpk hkc
   obtain ⟨A3,c3,rfl⟩:=zAm hown
   have hz9:=z3.below hbel z3.lt
   have hokO:ObjOk ⟨2,[],acc,noId,[],0,[],noId,0,[]⟩:=⟨zAc,zAc,fun e he=>(hall.out e he).ok,by simp,by simp,by simp,by simp,by simp,by simp,by simp,by simp,by simp⟩
   have hOo:ObjB wr W3.heap.size ⟨2,[],acc,noId,[],0,[],noId,0,[]⟩ (.slice A3 acc.length c3) (.slice none 0 0):=⟨hO,zAc,zAc⟩
   have ld:=zAU hOo hokO
   have hcs:(objC ⟨2,[],acc,noId,[],0,[],noId,0,[]⟩ (.slice A3 acc.length c3) (.slice none 0 0)).toArray.size=72:=by rw [List.size_toArray];exact zAC hokO _ _
   have hc1:=zAz ⟨2,[],acc,noId,[],0,[],noId,0,[]⟩ A3 none acc.length c3 0 0
   have hfin:Hid (∀ w',OwnEnts w' W3.heap.size (.slice A3 acc.length c3) acc→MkR w (.returned (.agg (objC ⟨2,[],acc,noId,[],0,[],noId,0,[]⟩ (.slice A3 acc.length c3) (.slice none 0 0)).toArray)) w'):=Lib.hid fun w' ho=>⟨_,A3,none,c3,0,rfl,⟨by show acc.length≤_;omega,fun e he=>by have:=(hall.out e he).name;omega,by simp,by simp,by simp,by simp⟩,hokO,zAE ho b3.size,World.ownsRow_nil _ _ _ _⟩
   have b9:=bthen b3 b3.size hbel
   generalize (objC ⟨2,[],acc,noId,[],0,[],noId,0,[]⟩ (.slice A3 acc.length c3) (.slice none 0 0)).toArray=OR at *
   go_wp2_with (first
    | (refine wpList_store_row rfl 74 (.tmp 6) (.tmp 62) rfl W2.heap.size OR rfl rfl _ _ hz9 (hsz _ hcs) (hz72.trans hcs.symm) hc1 ?_))
   refine bodyPost_ret (results_cell_row rfl _ _ W2.heap.size _ _ _ _ rfl (setRow_heap _ _ _ _ _ _ hz9) Tryz.underlying74 rfl (hsz _ hcs)) rfl ⟨hfin.out _ (own_row hown hlt2 OR),zAa b9 hle2 _⟩
end
section
theorem make1_calls {w:World} {vm:Value} {es:List DiL} (h:DocSt w vm es) (ids:List Txt) (hok : ∀ x∈ids,x.length=32) (hil:ids.length≤1000) (vi:Value) (hi:Ids w vi ids) (x:SdL) (hx:SdOk w x) (hr:x.refs.length≤10) (ht:x.text.length≤300) :
 Calls Tryz.prog 58 #[.agg #[vm],vi, .agg (sdC x).toArray] w fun e w'=>MkR w e w'∧Below w.heap.size w w':=by
 have h4:(x.kind.toNat:Int)%4=0∨(x.kind.toNat:Int)%4=1∨(x.kind.toNat:Int)%4=2∨(x.kind.toNat:Int)%4=3:=by omega
 rcases h4 with h4 | h4 | h4 | h4
 ·exact make_blob h ids hok hil vi hi x hx hr ht h4
 ·exact make_tree h ids hok hil vi hi x hx hr ht h4
 ·exact make_commit h ids hok hil vi hi x hx hr ht h4
 ·exact make_tag h ids hok hil vi hi x hx hr ht h4
def ldvSd (p:Addr):Sem Value:=loadVar 137 p
theorem ldvSd_eq (p:Addr):loadVar 137 p=ldvSd p:=rfl
theorem run_ldvSd {w:World} {g o:Nat} {e:SdL} (h:w.rangeAt g o (sdC e)):(ldvSd ⟨g,o,none⟩).run Tryz.prog w = .ok (.agg (sdC e).toArray) w:=run_loadVar_mid w g o 137 (sdC e) _ h Tryz.underlying137 rfl szSeed
attribute [local go_sem ↓] ldvI_eq ldvS_eq stvI_eq stvS_eq ldvSd_eq
def MkV (B:Nat) (v:Value) (F:Foot) (w:World):Prop := ∃ o A1 A2 k1 k2,v = .agg (objC o (.slice A1 o.ents.length k1) (.slice A2 o.pars.length k2)).toArray∧Small o∧ObjOk o∧ownR B 181 34 o.ents.length (rowsOf entC o.ents) (.slice A1 o.ents.length k1) F w∧ownR B 28 32 o.pars.length (rowsOf idC o.pars) (.slice A2 o.pars.length k2) F w
theorem MkV_stab (B:Nat) (v:Value):Stab (MkV B v):=fun F F' w w' hf ha ⟨o,A1,A2,k1,k2,e,h1,h2,h3,h4⟩=>⟨o,A1,A2,k1,k2,e,h1,h2,zCv _ _ _ _ _ _ F F' w w' hf ha h3,zCv _ _ _ _ _ _ F F' w w' hf ha h4⟩
def EncV (v:Value):Prop := ∃ t b,v = .tuple #[.string (B t), .bool b]∧t.length≤4096
theorem encD_V (o:ObjL):EncV (encD o):=by
 cases h:encO o with
 | none=>exact ⟨[],false,zDg h,by simp⟩
 | some t=>
   refine ⟨t,true,encD_some h,?_⟩
   unfold encO at h
   split at h
   ·rename_i hc
    injection h with h
    rw [←h];exact hc.2
   ·cases h
theorem DocSt.one {w:World} {vm:Value} {es:List DiL} (h:DocSt w vm es):vm.oneCell'=true:=by
 obtain ⟨A,c,rfl⟩:=zAm h.own
 rfl
theorem grow_id (w:World) (a b:Array Value) (T:TypeId) (c:Array Value) (S:TypeId):Blk (((w.alloc (.cells a T)).alloc (.cells b S)).setRow w.heap.size c) (w.heap.size+1) S b:=by
 unfold Blk
 rw [setRow_other _ _ _ _ (by omega)]
 have:=Blk.new (w.alloc (.cells a T)) S b
 rwa [zBk] at this
def GrowR (w:World) (n:Nat) (e:Ending) (w':World):Prop := ∃ vm es vi ids,e = .returned (.tuple #[.agg #[vm],vi])∧DocSt w' vm es∧es.length≤n∧OwnIds w' w.heap.size vi ids∧ids.length≤n∧(∀ x∈ids,x.length=32)∧Apart vi vm es
set_option maxRecDepth 100000 in
set_option maxHeartbeats 16000000 in
theorem grow_calls (l:List SdL) (hl:l.length≤100) (hsm : ∀ x∈l,x.refs.length≤10∧x.text.length≤300) (va:Value) (w:World) (h:Seeds w va l) :
 Calls Tryz.prog 27 #[va] w fun e w'=>GrowR w l.length e w'∧Below w.heap.size w w':=by
 have hzI:=zeroIdV
 have hZ32:(u8s noId).size=32:=by rw [zAh,zAc]
 have hbS:Tryz.prog.built 34 []=some #[.slice none 0 0]:=by kernel_rfl
 have hrb:=fun W=>run_build (P:=Tryz.prog) W _ _ _ hbS
 have hS0:(#[Value.slice none 0 0]:Array Value).size=1:=rfl
 have hS1:(#[Value.slice none 0 0]:Array Value).all (·.oneCell')=true:=by kernel_rfl
 obtain ⟨W1,hW1⟩ : ∃ W1,w.alloc (.cells #[.slice none 0 0] 34)=W1:=⟨_,rfl⟩
 have r1:Blk W1 w.heap.size 34 #[.slice none 0 0]:=by rw [←hW1];exact Blk.new _ _ _
 have b1:Below w.heap.size w W1:=by rw [←hW1];exact (Below.refl _ _).alloc (Nat.le_refl _) _
 have hlt0:=r1.lt
 have hat0:=h.at_
 have heach:=h.each
 obtain ⟨A,cap,rfl,hcap1,hcap2,hat⟩:=hat0
 clear h
 go_enter Tryz.func27,Tryz.ntmps27
 go_wp2_with (first
  | ((with_reducible refine lit_new 34 (.tmp 4) (.tmp 12) #[.slice none 0 0] 1 szDSt hS0 hS1 _ ?_ ?_ ?_ ?_)
     ·exact hS0
     ·rfl
     ·rfl
     intro W2 m2 b12))
 have hlt1:=m2.lt
 have hD2:DocSt W2 (.slice none 0 0) []:=⟨World.ownsRow_nil _ _ _ _,fun e he=>by simp at he,StoOk.nil⟩
 clear hrb hS0 hS1
 go_loopw [5,6] (fun v5 v6 wr => ∃ (k:Nat) (vm:Value) (es:List DiL) (ids:List Txt),v6 = .int .i64 k∧k≤l.length∧es.length≤k∧ids.length≤k∧Hid (∀ x∈ids,x.length=32)∧Blk wr W1.heap.size 34 #[vm]∧DocSt wr vm es∧OwnIds wr W2.heap.size v5 ids∧Apart v5 vm es∧Below W1.heap.size W1 wr∧W2.heap.size≤wr.heap.size) (fun _ v6 _=>l.length-(intOf v6).toNat)
 case atStart=>exact ⟨0,_,[],[],rfl,by omega,by simp,by simp,Lib.hid (fun x hx=>by simp at hx),m2,hD2,World.ownsRow_nil _ _ _ _,fun k hk=>by simp [Value.ownBlock] at hk,b12,Nat.le_refl _⟩
 case round=>
  obtain ⟨k,vm,es,ids,rfl,hk,hel,hil,hids,hM,hD,hown,hap,hbel,hsz2⟩:=hrel
  by_cases hlt:k<l.length
  ·have hki:(k:Int)<(l.length:Int):=by omega
   obtain ⟨ga,oa,rfl,hga,hca⟩:=hat (by omega)
   obtain ⟨x,hx⟩ : ∃ x,l[k]?=some x:=⟨_,List.getElem?_eq_getElem hlt⟩
   have hxm:=List.mem_of_getElem? hx
   obtain ⟨hx1,hx2⟩:=hsm x hxm
   have hxo:=heach x hxm
   have hbr:Below w.heap.size w wr:=bthen b1 b1.size hbel
   have fS:=fun W (hW:Below wr.heap.size wr W)=>run_ldvSd (zAb (hca k x hx) hga (bthen hbr hbr.size hW))
   have fM:=fun W (hW:Below wr.heap.size wr W)=>zAF (hM.below hW hM.lt)
   have hiW:=fun W (hW:Below wr.heap.size wr W)=>SliceAt.of_own (fun e h=>idC_len (hids.out e h)) (zAf hown hW)
   have hmk:=fun W (hW:Below wr.heap.size wr W)=>make1_calls (hD.below hW) ids hids.out (by omega) _ (hiW W hW) x (hxo.below (bthen hbr hbr.size hW)) hx1 hx2
   have hlth:(k:Nat)<l.length:=hlt
   clear hx hca hat heach hsm hxm hxo hiW
   generalize (sdC x).toArray=SC at *
   go_wp2
   refine zAw 13 (by kernel_rfl) (by kernel_rfl) (by kernel_rfl) (by kernel_rfl) ?_
   simp only [exSp]
   iterate 13 apply Exists.intro
   repeat
    first
     | ((with_reducible apply lx0_ex)
        ·(go_simp;done)
        apply Exists.intro
        apply And.intro
        ·apply Eq.refl
        apply And.intro
        ·intro W hW hD
         have q0:=fM W hW
         have q1:=fS W hW
         go_simp
         rfl
        simp only [Act.put,zA,zB,zC])
     | ((with_reducible apply zAZ)
        ·(first | rfl | (go_simp;done))
        ·apply Eq.refl
        simp only [Act.put,zA,zB,zC])
     | ((with_reducible refine lx0_new (MkV wr.heap.size) rfl ?_ (MkV_stab _) ?_ ?_)
        ·(go_simp;done)
        ·intro W hW hD
         unfold doesAt Oper.wp execOp
         go_simp
         (with_reducible refine (hmk W hW).mono ?_)
         rintro e w' ⟨⟨o,A1,A2,k1,k2,rfl,h1,h2,h3,h4⟩,hb⟩
         exact ⟨hb,fun F f1 f2 f3=>⟨o,A1,A2,k1,k2,rfl,h1,h2,zEo hW.size h3 F f1 f2 f3,zEo hW.size h4 F f1 f2 f3⟩⟩
        intro v
        simp only [Act.put,zA,zB,zC])
     | ((with_reducible refine lx0_new (fun v _ _=>EncV v) rfl ?_ (zBf EncV) ?_ ?_)
        ·(go_simp;done)
        ·intro W hW hD
         obtain ⟨F,o,A1,A2,k1,k2,rfl,h1,h2,h3,h4⟩:=hD.at 0 rfl (by kernel_rfl)
         have hc:=zCp o h1 A1 A2 k1 k2 W ⟨h2,SliceAt.of_own (fun e h=>zBt (h2.ents e h)) h3.1,SliceAt.of_own (fun e h=>idC_len (h2.pars e h)) h4.1⟩
         unfold doesAt Oper.wp execOp
         go_simp
         (with_reducible refine hc.mono ?_)
         rintro e w' ⟨rfl,hb⟩
         exact ⟨hb,fun _ _ _ _=>encD_V o⟩
        intro v
        simp only [Act.put,zA,zB,zC])
     | (first | (with_reducible apply zBi) | (with_reducible apply zAO)
        ·apply Eq.refl
        apply Exists.intro
        apply And.intro
        ·(go_simp;rfl)
        simp only [Act.put,zA,zB,zC])
     | ((with_reducible apply zCn)
        ·apply Eq.refl
        apply Exists.intro
        apply And.intro
        ·(go_simp;rfl)
        refine ⟨fun W hW hD=>?_,?_⟩
        ·obtain ⟨F,t,b,rfl,ht⟩:=hD.at 0 rfl (by kernel_rfl)
         exact ⟨_,rfl,by simp⟩
        simp only [Act.put,zA,zB,zC])
   refine lx0_nil ?_ fun w6 hW6 hD6=>?_
   ·exact List.nodup_nil
   obtain ⟨_,t,b,rfl,htl⟩:=hD6 _ (.head _)
   simp only [extr2_0,extr2_1]
   have b6:=hbel.trans (hW6.mono hbel.size)
   have M6:=hM.below hW6 hM.lt
   have D6:=hD.below hW6
   have own6:=zAf hown hW6
   have sz6:W2.heap.size≤w6.heap.size:=Nat.le_trans hsz2 hW6.size
   clear hD6 hmk fS
   cases b
   ·go_wp2
    go_roundw
    case rel=>exact ⟨k+1,vm,es,ids,by go_num,by omega,by omega,by omega,hids,M6,D6,own6,hap,b6,sz6⟩
    case measure=>simp [intOf];omega
   ·have lM:=zAF M6
    have hwi:=Lib.hid (zDq D6 (by omega) t (by omega))
    have hpl:=putS_len (es.map (·.st)) t
    rw [List.length_map] at hpl
    have hpi:(putI t).length=32:=by
     unfold putI
     split
     ·rfl
     ·exact zAQ _
    obtain ⟨pn,hpn⟩ : ∃ pn,putI t=pn:=⟨_,rfl⟩
    obtain ⟨bf,hbf⟩ : ∃ bf,(decO t).isSome=bf:=⟨_,rfl⟩
    obtain ⟨PL,hPL⟩ : ∃ PL,putS (es.map (·.st)) t=PL:=⟨_,rfl⟩
    unfold WithR at hwi
    rw [hpn] at hpi hwi
    rw [hbf,hPL] at hwi
    rw [hPL] at hpl
    have hp32:(u8s pn).size=32:=by rw [zAh,hpi]
    have hpo:=u8s_one pn
    have hszI:(Tryz.prog.info? 28).map (·.size)=some (u8s pn).size:=by rw [hp32];exact sz32
    clear hpn hbf hPL
    go_upto_region 9 with (first
     | ((with_reducible refine hwi.out.mono ?_);rintro e w7 ⟨⟨vm7,es7,rfl,D7,hmap,hold, -⟩,b67⟩)
     | (refine wpList_store_row rfl 34 (.tmp 9) (.tmp 35) rfl w7.heap.size #[vm7] rfl rfl _ #[.slice none 0 0] ((Blk.new _ _ _).alloc _) szDSt rfl (by simp [D7.one]) ?_)
     | (refine wpList_store_row rfl 28 (.tmp 10) (.tmp 36) rfl (w7.heap.size+1) (u8s pn) rfl rfl _ (u8s noId) (grow_id _ _ _ _ _ _) hszI (by rw [hp32,hZ32]) hpo ?_))
    obtain ⟨W8,hW8⟩ : ∃ W8,(((w7.alloc (.cells #[.slice none 0 0] 34)).alloc (.cells (u8s noId) 28)).setRow w7.heap.size #[vm7]).setRow (w7.heap.size+1) (u8s pn)=W8:=⟨_,rfl⟩
    have b78:Below w7.heap.size w7 W8:=by
     rw [←hW8]
     exact zAa (zAa (((Below.refl _ _).alloc (Nat.le_refl _) _).alloc (by rw [zBk];omega) _) (Nat.le_refl _) _) (by omega) _
    have g9:Blk W8 w7.heap.size 34 #[vm7]:=by
     rw [←hW8]
     unfold Blk
     rw [setRow_other _ _ _ _ (by omega)]
     exact setRow_heap _ _ _ _ _ _ ((Blk.new _ _ _).alloc _)
    have g10:Blk W8 (w7.heap.size+1) 28 (u8s pn):=by
     rw [←hW8]
     exact setRow_heap _ _ _ _ _ _ (grow_id _ _ _ _ _ _)
    rw [hW8]
    have b68:Below w6.heap.size w6 W8:=bthen b67 b67.size b78
    have b8:=b6.trans (b68.mono b6.size)
    have M8:=M6.below b68 M6.lt
    have D8:=D7.below b78
    have O8:=D6.below b68
    have own8:=zAf own6 b68
    have sz8:W2.heap.size≤W8.heap.size:=Nat.le_trans sz6 b68.size
    have hel7:es7.length≤es.length+1:=by rw [←hmap,List.length_map] at hpl;exact hpl
    have hap8:=hap.with_ own6 own8 D8 hold
    clear hwi hW8 hmap hold
    cases bf
    ·go_wp2
     go_roundw
     case rel=>exact ⟨k+1,vm,es,ids,by go_num,by omega,by omega,by omega,hids,M8,O8,own8,hap,b8,sz8⟩
     case measure=>simp [intOf];omega
    ·have l9:=zAF g9
     have hno:=D8.blk_ne M8 (by decide) (by decide) (by decide)
     have D9:=D8.row hno #[vm7]
     have own9:=own_row own8 hlt1 #[vm7]
     have hne10:w7.heap.size+1≠W1.heap.size:=by have:=M6.lt;have:=b67.size;omega
     have g109:Blk (W8.setRow W1.heap.size #[vm7]) (w7.heap.size+1) 28 (u8s pn):=zEg g10 hne10 _
     have l10:=zAi (zAj g109) hpi
     have M9:Blk (W8.setRow W1.heap.size #[vm7]) W1.heap.size 34 #[vm7]:=setRow_heap _ _ _ _ _ _ M8
     have b9:=zAa b8 (Nat.le_refl _) #[vm7]
     have sz9:W2.heap.size≤(W8.setRow W1.heap.size #[vm7]).heap.size:=by simpa using sz8
     have hid32:(u8s pn).size=32:=hp32
     have hidl:(u8s pn).size=1*32:=hp32
     have hid1 : ∀ u∈(u8s pn).toList,u.oneCell'=true:=idC_one pn
     have hids2:Hid (∀ z∈ids++[pn],z.length=32):=Lib.hid fun z hz=>by
      rcases List.mem_append.1 hz with hz | hz
      ·exact hids.out z hz
      ·rw [List.mem_singleton.1 hz];exact hpi
     have hrow:Hid (rowsOf idC (ids++[pn])=rowsOf idC ids++(u8s pn).toList):=Lib.hid (by rw [zAo,zAx];rfl)
     have hkl:ids.length+1≤9223372036854775807:=by omega
     have hm2:(ids.length+1)*32≤140737488355328:=by omega
     have hone7:(#[vm7]:Array Value).all (·.oneCell')=true:=by simp [D7.one]
     have hdM:=zAD own9 M9 (by decide)
     have hszS1:(Tryz.prog.info? 34).map (·.size)=some (#[vm7]:Array Value).size:=szDSt
     clear hpi g10 g109 g9 hp32
     generalize u8s pn=XC at *
     go_wp2_with (first
      | (refine wpList_store_row rfl 34 (.tmp 4) (.tmp 39) rfl W1.heap.size #[vm7] rfl rfl _ _ M8 hszS1 rfl hone7 ?_)
      | ((with_reducible refine zAN (.tmp 41) Tryz.idsTy XC hid32 (by omega) ?_ ?_);rfl)
      | (at_builtin
         (with_reducible refine zAl (.tmp 40) (.tmp 42) 1 _ Tryz.idsTy own9 XC hidl hid1 hkl hm2 sz9 ?_ ?_ ?_);rfl;rfl
         intro v10 w10 hv10 hb10 hg10 hn10
         have b10:=b9.trans (hb10.mono (Nat.le_of_lt hlt1))
         have M10:=Blk.grown M9 hg10 hdM
         have D10:=D9.grown hg10 (fun k hk=>hap8 k hk)
         have hap10:=(Apart.newer hap8 D9 hn10)
         have hap10b:Apart v10 vm7 es7:=hap10
         have sz10:W2.heap.size≤w10.heap.size:=Nat.le_trans sz9 hg10.size
         clear hg10 hn10 hap10))
     go_roundw
     case rel=>exact ⟨k+1,vm7,es7,ids++[pn],by go_num,by omega,by omega,by simp;omega,hids2,M10,D10,by unfold OwnIds;rw [List.length_append,hrow.out];exact hv10,hap10b,b10,sz10⟩
     case measure=>simp [intOf];omega
  ·have hki : ¬ (k:Int)<(l.length:Int):=by omega
   have lM:=zAF hM
   have rr:=r1.below hbel hlt0
   have hno:=hD.blk_ne rr (by decide) (by decide) (by decide)
   have hbr:Below w.heap.size w wr:=bthen b1 b1.size hbel
   have hszS1:(Tryz.prog.info? 34).map (·.size)=some (#[vm]:Array Value).size:=szDSt
   have hone7:(#[vm]:Array Value).all (·.oneCell')=true:=by simp [hD.one]
   clear hat heach hsm
   go_wp2_with (first
    | (refine wpList_store_row rfl 34 (.tmp 2) (.tmp 44) rfl w.heap.size #[vm] rfl rfl _ _ rr hszS1 rfl hone7 ?_))
   refine bodyPost_ret (zAe rfl _ _ w.heap.size _ _ _ _ rfl (setRow_heap _ _ _ _ _ _ rr) Tryz.underlying34 rfl hszS1) rfl ⟨⟨vm,es,_,ids,rfl,hD.row hno _,by omega,own_down (own_row hown (Nat.lt_trans hlt0 hlt1) _) (Nat.le_of_lt (Nat.lt_trans hlt0 hlt1)),by omega,hids.out,by exact hap⟩,zAa hbr (Nat.le_refl _) _⟩
end
theorem StIs.putI {x:StL} (h:StIs x):putI x.text=x.id:=by
 obtain ⟨h1,o,ho⟩:=h
 unfold Go.Proofs.YtodebknbchaccaaGreatDoor.putI
 rw [ho];exact h1.symm
theorem StIs.putC {x:StL} (h:StIs x):putC x.text=0:=by
 obtain ⟨h1,o,ho⟩:=h
 unfold Go.Proofs.YtodebknbchaccaaGreatDoor.putC
 rw [ho]
theorem StIs.putS {x:StL} (h:StIs x) (s:List StL):putS s x.text=if hasK StL.id s x.id then s else insK StL.id s x:=by
 obtain ⟨h1,o,ho⟩:=h
 unfold Go.Proofs.YtodebknbchaccaaGreatDoor.putS
 rw [ho]
 simp only [←h1]
theorem sorted_split {s:List StL} {x:StL} {k:Nat} (h:SortedK StL.id s) (hx:s[k]?=some x):(∀ y∈s.take k,Op.bytesLess y.id x.id=true) ∧ ∀ y∈s.drop (k+1),Op.bytesLess x.id y.id=true:=by
 have hlt:=(List.getElem?_eq_some_iff.1 hx).1
 have e:s=s.take k++x::s.drop (k+1):=by
  rw [←(List.getElem?_eq_some_iff.1 hx).2,←List.drop_eq_getElem_cons hlt,List.take_append_drop]
 unfold SortedK at h
 rw [e,List.pairwise_append] at h
 exact ⟨fun y hy=>h.2.2 y hy x (by simp),fun y hy=>(List.pairwise_cons.1 h.2.1).1 y hy⟩
theorem zCT {α:Type} {p:α→Bool} : ∀ {l:List α},(∀ y∈l,p y=true)→l.takeWhile p=l
 | [],_=>rfl
 | y::l,h=>by rw [List.takeWhile_cons,if_pos (h y (by simp)),zCT fun z hz=>h z (by simp [hz])]
theorem putS_rise {s:List StL} (h:StoOk s) {k:Nat} {x:StL} (hx:s[k]?=some x):putS (s.take k) x.text=s.take (k+1):=by
 have hl:=(sorted_split h.sorted hx).1
 rw [(h.each x (List.mem_of_getElem? hx)).putS,if_neg,insK,show posK StL.id (s.take k) (StL.id x)=(s.take k).length by unfold posK;rw [zCT hl],List.take_length,List.drop_length,List.append_nil,List.take_add_one,hx]
 ·rfl
 ·unfold hasK
  rw [Bool.not_eq_true,List.any_eq_false]
  intro y hy
  rw [less_ne (hl y hy)]
  simp
theorem StoOk.take {s:List StL} (h:StoOk s) (k:Nat):StoOk (s.take k):=⟨fun x hx=>h.each x (List.mem_of_mem_take hx),h.sorted.sublist (List.take_sublist _ _),by rw [List.length_take];have:=h.few;omega⟩
section
attribute [local go_sem ↓] ldvI_eq ldvS_eq
def UseOr (B:Nat) (vm:Value) (es:List DiL) (vm':Value) (es':List DiL):Prop := ∀ k,DocUse vm' es' k→DocUse vm es k∨B≤k
theorem UseOr.with_ {B:Nat} {vm vm':Value} {es es':List DiL} (h : ∀ e∈es',OldOr B es e) (hv:vm'=vm ∨ ∀ k,vm'.ownBlock=some k→B≤k):UseOr B vm es vm' es':=by
 intro k hk
 rcases hk with hk | ⟨e,he,hk⟩
 ·rcases hv with rfl | hv
  ·exact .inl (.inl hk)
  ·exact .inr (hv k hk)
 ·rcases h e he with h1 | ⟨h1,h2⟩
  ·exact .inl (.inr ⟨e,h1,hk⟩)
  ·rcases hk with hk | hk
   ·exact .inr (h1 k hk)
   ·exact .inr (h2 k hk)
theorem UseOr.trans {B B':Nat} {vm vm' vm2:Value} {es es' es2:List DiL} (h:UseOr B vm es vm' es') (h':UseOr B' vm' es' vm2 es2) (hB:B≤B'):UseOr B vm es vm2 es2:=fun k hk=>by
 rcases h' k hk with h1 | h1
 ·exact h k h1
 ·exact .inr (Nat.le_trans hB h1)
end
def itemsS (S:List StL) (ids:List Txt):List StL:=ids.filterMap (getS S)
section
attribute [local go_sem ↓] ldvI_eq ldvS_eq
theorem Tryz.strTy11 : SliceTy Tryz.prog 40 9 (.string ⟨#[]⟩) 1 16:=⟨Tryz.underlying40,info_parts (by kernel_rfl),rfl,by omega⟩
def AtV (es:List DiL) (n:Txt) (v:Value):Prop:=(∃ (k:Nat) (x:DiL),v = .int .i64 k∧es[k]?=some x∧getS (es.map (·.st)) n=some x.st)∨(v = .int .i64 (-1)∧getS (es.map (·.st)) n=none)
theorem AtR.val {es:List DiL} {n:Txt} {e:Ending} (h:AtR es n e) : ∃ v,e = .returned v∧AtV es n v:=by
 rcases h with ⟨k,x,rfl,h1,h2⟩ | ⟨rfl,h1⟩
 ·exact ⟨_,rfl, .inl ⟨k,x,rfl,h1,h2⟩⟩
 ·exact ⟨_,rfl, .inr ⟨rfl,h1⟩⟩
theorem items_more {S:List StL} {l:List Txt} {k:Nat} {n:Txt} (h:l[k]?=some n):itemsS S (l.take (k+1))=itemsS S (l.take k)++(getS S n).toList:=by
 unfold itemsS
 rw [List.take_add_one,h,List.filterMap_append]
 cases hg:getS S n<;>simp [hg]
theorem items_len (S:List StL) (l:List Txt):(itemsS S l).length≤l.length:=List.length_filterMap_le _ _
set_option maxRecDepth 100000 in
set_option maxHeartbeats 4000000 in
theorem docTexts_calls {w:World} {vm:Value} {es:List DiL} (h:DocSt w vm es) (l:List Txt) (hlok : ∀ x∈l,x.length=32) (hl:l.length≤1000000) (vl:Value) (hvl:Ids w vl l) :
 Calls Tryz.prog 16 #[.agg #[vm],vl] w fun e w' => ∃ v,e = .returned v∧OwnTxs w' w.heap.size v ((itemsS (es.map (·.st)) l).map StL.text)∧Below w.heap.size w w':=by
 have hfew:=h.few
 have heach:=h.each
 have hat0 : ∀ W,Below w.heap.size w W → ∀ n:Txt,n.length=32→Calls Tryz.prog 34 #[.agg #[vm], .agg (u8s n)] W fun e w'=>(∃ v,e = .returned v∧AtV es n v)∧Below W.heap.size W w':=fun W hW n hn=>(zBv (h.below hW) n hn).mono fun e w' ⟨q1,q2⟩=>⟨q1.val,q2⟩
 obtain ⟨A,cap,rfl,hcap1,hcap2,hat⟩:=h.at_
 obtain ⟨Al,cl,rfl,hl1,hl2,hatl⟩:=hvl
 obtain ⟨W1,hW1⟩ : ∃ W1,w.alloc (.cells #[.slice A es.length cap] 34)=W1:=⟨_,rfl⟩
 have s1:Blk W1 w.heap.size 34 #[.slice A es.length cap]:=by rw [←hW1];exact Blk.new _ _ _
 have b1:Below w.heap.size w W1:=by rw [←hW1];exact (Below.refl _ _).alloc (Nat.le_refl _) _
 have hlt1:=s1.lt
 have hle1:=Nat.le_of_lt hlt1
 obtain ⟨S,hS⟩ : ∃ S,es.map (·.st)=S:=⟨_,rfl⟩
 replace hS:=Lib.hid hS
 rw [hS.out]
 clear h
 go_enter Tryz.func16,Tryz.ntmps16
 go_wp2
 go_loopg [5,6] l.length (fun f vo vi wr => ∃ (k:Nat) (acc:List Txt),vi = .int .i64 k∧k+f=l.length∧OwnTxs wr W1.heap.size vo acc∧Hid (acc=(itemsS S (l.take k)).map StL.text)∧acc.length≤k∧Below W1.heap.size W1 wr)
 case atStart=>exact ⟨0,[],rfl,by omega,World.ownsRow_nil _ _ _ _,Lib.hid rfl,by simp,Below.refl _ _⟩
 case round=>
  clear hW1
  obtain ⟨k,acc,rfl,hkf,hown,hacc,hal,hbel⟩:=hrel
  have hbs:=hbel.size
  have hbr:=bthen b1 b1.size hbel
  obtain ⟨Ao,co,rfl⟩:=zAm hown
  cases gk with
  | zero=>
    have hki : ¬ (k:Int)<(l.length:Int):=by omega
    have hke:l.take k=l:=List.take_of_length_le (by omega)
    rw [hke] at hacc
    clear hat heach hatl hke
    go_wp2
    go_ret
    refine ⟨_,rfl,?_,hbr⟩
    rw [←hacc.out]
    exact zAE hown hle1
  | succ f=>
    have hki:(k:Int)<(l.length:Int):=by omega
    have hkl:k<l.length:=by omega
    obtain ⟨gl,ol,rfl,hgl,hcl⟩:=hatl (by omega)
    obtain ⟨n,hn⟩ : ∃ n,l[k]?=some n:=⟨_,List.getElem?_eq_getElem hkl⟩
    have hn32:=hlok n (List.mem_of_getElem? hn)
    have hln:=fun W (hW:Below wr.heap.size wr W)=>zAi (show World.rangeAt W gl (ol+k*32) (u8s n).toList from zAb (hcl k n hn) hgl (bthen hbr hbr.size hW)) hn32
    have hsr:=s1.below hbel hlt1
    have lS:=fun W (hW:Below wr.heap.size wr W)=>zAF (hsr.below hW hsr.lt)
    have hqa:=fun W (hW:Below wr.heap.size wr W)=>hat0 W (bthen hbr hbr.size hW) n hn32
    have hmore:Hid (itemsS S (l.take (k+1))=itemsS S (l.take k)++(getS S n).toList):=Lib.hid (items_more hn)
    have hgb1:gl<wr.heap.size:=by have:=hbr.size;omega
    clear hatl hcl hn hat0
    go_upto_region 6 with (fail)
    refine zAw 7 (by kernel_rfl) (by kernel_rfl) (by kernel_rfl) (by kernel_rfl) ?_
    simp only [exSp]
    iterate 7 apply Exists.intro
    repeat
     first
      | ((with_reducible apply lx0_ex)
         ·(go_simp;done)
         apply Exists.intro
         apply And.intro
         ·apply Eq.refl
         apply And.intro
         ·intro W hW hD
          have q0:=lS W hW
          have q1:=hln W hW
          go_simp
          rfl
         simp only [Act.put,zA,zB,zC])
      | ((with_reducible apply zAZ)
         ·(first | rfl | (go_simp;done))
         ·apply Eq.refl
         simp only [Act.put,zA,zB,zC])
      | ((with_reducible refine lx0_new (fun v _ _=>AtV es n v) rfl ?_ (zBf (AtV es n)) ?_ ?_)
         ·(go_simp;done)
         ·intro W hW hD
          unfold doesAt Oper.wp execOp
          go_simp
          (with_reducible refine (hqa W hW).mono ?_)
          rintro e w' ⟨⟨v,rfl,hv⟩,hb⟩
          exact ⟨hb,fun _ _ _ _=>hv⟩
         intro v
         simp only [Act.put,zA,zB,zC])
      | (first | (with_reducible apply zBi) | (with_reducible apply zAO)
         ·apply Eq.refl
         apply Exists.intro
         apply And.intro
         ·(go_simp;rfl)
         simp only [Act.put,zA,zB,zC])
    refine lx0_nil ?_ fun w5 hW5 hD5=>?_
    ·exact (by simp [stsOf])
    have b5:=hbel.trans (hW5.mono hbs)
    have b05:=bthen hbr hbr.size hW5
    have o5:=zAf hown hW5
    have hs5:=hsr.below hW5 hsr.lt
    have c5:w5.cell? ⟨w.heap.size,0,none⟩=some (.slice A es.length cap):=hs5.cell 0
    obtain ⟨_,hav⟩:=hD5 _ (.head _)
    unfold AtV at hav
    rw [hS.out] at hav
    clear hD5 hqa lS hln
    rcases hav with ⟨p,x,rfl,hx,hg⟩ | ⟨rfl,hg⟩
    ·have hp0:(0:Int)≤(p:Int):=by omega
     have hpl:=(List.getElem?_eq_some_iff.1 hx).1
     have hpi:(p:Int)<(es.length:Int):=by omega
     obtain ⟨ga,oa,rfl,hga,hca⟩:=hat (by omega)
     have hxo:=heach x (List.mem_of_getElem? hx)
     have htx:=zCm (zAb (hca p x hx) hga b05) hxo.id
     have hrow:Hid (rowsOf txC (acc++[x.st.text])=rowsOf txC acc++[.string (B x.st.text)]):=Lib.hid (by rw [zAo,zAx];rfl)
     have hlen:Hid ((acc++[x.st.text]).length=acc.length+1):=Lib.hid (by rw [List.length_append];rfl)
     have hacc2:Hid (acc++[x.st.text]=(itemsS S (l.take (k+1))).map StL.text):=Lib.hid (by rw [hmore.out,hg,List.map_append,←hacc.out];rfl)
     have m1:acc.length+1≤9223372036854775807:=by omega
     have m2:(acc.length+1)*16≤140737488355328:=by omega
     have szr:=Nat.le_trans hbs hW5.size
     have hc1:(#[Value.string (B x.st.text)]:Array Value).size=1:=rfl
     have hc11:(#[Value.string (B x.st.text)]:Array Value).size=1*1:=rfl
     have hc2 : ∀ u∈(#[Value.string (B x.st.text)]:Array Value).toList,u.oneCell'=true:=by intro u hu;rw [show u = .string (B x.st.text) by simpa using hu];rfl
     clear hx hg hca hat heach hmore hxo
     go_wp2_with (first
      | (at_builtin
         (with_reducible refine zAl (.tmp 22) (.tmp 29) 1 _ Tryz.strTy11 o5 #[.string (B x.st.text)] hc11 hc2 m1 m2 szr ?_ ?_ ?_);rfl;rfl
         intro v2 w2 hv2 hb2 hg2 hn2
         have b2:=b5.trans hb2
         clear hg2 hn2))
     all_goals try (exfalso;omega)
     have o3:OwnTxs w2 W1.heap.size v2 (acc++[x.st.text]):=by
      unfold OwnTxs
      rw [hrow.out,hlen.out]
      exact hv2
     clear hv2
     go_roundg f
     case rel=>exact ⟨k+1,_,by go_num,by omega,o3,hacc2,by rw [hlen.out];omega,b2⟩
     case measure=>omega
    ·have hn0 : ¬ (0:Int) ≤ -1:=by omega
     have hacc2:Hid (acc=(itemsS S (l.take (k+1))).map StL.text):=Lib.hid (by rw [hmore.out,hg,Option.toList,List.append_nil];exact hacc.out)
     clear hg hat heach hmore hacc
     go_wp2_with (fail)
     go_roundg f
     case rel=>exact ⟨k+1,acc,by go_num,by omega,o5,hacc2,by omega,b5⟩
     case measure=>omega
end
section
section
variable {P:Program} {ops:Array Oper} {w0:World} {rows:List (Option Nat)} {pres:Pres} {sps:List Sp} {E:Act→Facts→Prop} {i:Nat} {rest:List Oper} {s:Sp} {ss:List Sp} {a:Act} {D:Facts}
def rowPR (g:Nat) (T:TypeId) (ρ:List Value) (_:Value) (F:Foot) (w:World):Prop := ∃ cs,ρ.getD 1 undef = .agg cs∧F g∧Blk w g T cs
theorem rowPR_stab (g:Nat) (T:TypeId) (ρ:List Value) (v:Value):Stab (rowPR g T ρ v):=fun _ _ _ _ hf ha ⟨cs,h0,h1,h2⟩=>⟨cs,h0,hf g h1,(ha.same g h2.lt h1).trans h2⟩
theorem lx_putRow {rt:TypeId} {pos:String} {af:Array Edge} {x y:Operand} (g:Nat) (T:TypeId) (old:Array Value) (hsz:(P.info? T).map (·.size)=some old.size) (hp:(i,some g,fun w=>Blk w g T old)∈pres) (hs:s = .wr (rowPR g T))
 (h : ∃ v1 v2,a.eval x=v1∧a.eval y=v2∧v1 = .pointer (some ⟨g,0,none⟩)∧(∀ w,Far rows w0 w→Have ops pres i D w → ∃ cs:Array Value,v2 = .agg cs∧cs.size=old.size∧cs.all (·.oneCell')=true)∧LxL P ops w0 rows pres sps E (i+1) rest ss a ((i,fun F w => ∃ cs,v2 = .agg cs∧F g∧Blk w g T cs)::D)) :
 LxL P ops w0 rows pres sps E i ({ dst:=none,op := .store T x y,type:=rt,pos:=pos,after:=af,guard:=none }::rest) (s::ss) a D:=by
 obtain ⟨_,_,rfl,rfl,hx,hc,h⟩:=h
 refine lx_wr (some g) _ (rowPR g T) hs hp (by simp [Region.wanted]) (rowPR_stab g T) (fun w hw hh hk=>?_) (fun v=>h)
 obtain ⟨cs,hy,hcs,h1⟩:=hc w hw hh
 unfold doesAt
 exact wp_store_row T x y rfl g cs hx hy T old hk (by rw [hcs];exact hsz) hcs.symm h1 ⟨undef,rfl,⟨rfl,rfl,rfl,by simp,fun k hk2 hn=>setRow_other _ _ _ _ fun e=>hn (by rw [e])⟩,fun F _ h2 _=>⟨cs,hy,h2 g rfl,setRow_heap _ _ _ _ _ _ hk⟩⟩
end
theorem preOk1 {w:World} {T:TypeId} {g i:Nat} {cs:Array Value} (h:Blk w g T cs):PreOk w [(i,some g,fun w=>Blk w g T cs)]:=
 PreOk.cons (PreOk.nil w) (fun q hq=>by simp at hq) (fun k hk=>by injection hk with hk;subst hk;exact h.lt) h fun w' _ hs=>(hs g rfl).trans h
theorem zeroS14 (w:World):(zeroValue 34).run Tryz.prog w = .ok (.agg #[.slice none 0 0]) w:=by
 have h:(Tryz.prog.info? 34).map (·.zero)=some (some (.agg #[.slice none 0 0])):=by kernel_rfl
 obtain ⟨i,h1,h2⟩:=Option.map_eq_some_iff.1 h
 simp [zeroValue,typeInfo,h1,h2]
end
section
def Few16B (B:Nat) (e:Ending) (w':World):Prop := ∃ vl vm b,e = .returned (.tuple #[vl, .agg #[vm], .bool b])∧vm.oneCell'=true∧(b=true → ∃ L es,OwnRits w' B vl L∧(∀ p∈L,ItmOk p)∧L.length≤16∧DocSt w' vm es∧es.length≤16)
def WthV (N:Nat) (w0:World) (S:List (Option Nat)) (v:Value) (F:Foot) (w:World):Prop := ∃ vm es n b,v = .tuple #[.agg #[vm], .agg (u8s n), .bool b]∧es.length≤N∧vm.oneCell'=true ∧ ∀ W,Far S w0 W→(∀ k,F k→k<w.heap.size→W.heap[k]?=w.heap[k]?)→DocSt W vm es
theorem WthV_stab (N:Nat) (w0:World) (S:List (Option Nat)) (v:Value):Stab (WthV N w0 S v):=fun _ _ _ _ hf ha ⟨vm,es,n,b,h1,h2,h3,h4⟩=>⟨vm,es,n,b,h1,h2,h3,fun W hW hk=>h4 W hW fun k hF hlt=>(hk k (hf k hF) (Nat.lt_of_lt_of_le hlt ha.size)).trans (ha.same k hlt hF)⟩
theorem with_keep {N:Nat} {w0 W w':World} {g:Nat} {vs:Value} {es:List DiL} {t:Txt} {e:Ending} (h0:DocSt w0 vs es) (hu : ¬ DocUse vs es g) (hN:es.length+1≤N) (hF:Far [some g] w0 W) (h:WithR W vs es t e w') (hb:Below W.heap.size W w') : ∃ v,e = .returned v ∧ ∀ F:Foot,(∀ k,W.heap.size≤k→k<w'.heap.size→F k)→WthV N w0 [some g] v F w':=by
 unfold WithR WithQ at h
 obtain ⟨vm',es',rfl,hD,hmap,hold,hv⟩:=h
 have hpl:=putS_len (es.map (·.st)) t
 rw [←hmap,List.length_map,List.length_map] at hpl
 refine ⟨_,rfl,fun F hnew=>⟨vm',es',_,_,rfl,by omega,hD.one,fun W2 hW2 hk=>hD.same fun k hk2=>?_⟩⟩
 have hlt:=hD.lt hk2
 by_cases hkW:W.heap.size≤k
 ·exact hk k (hnew k hkW hlt) hlt
 ·have hold2:DocUse vs es k:=by
   rcases hk2 with hk2 | ⟨e,he,hk2⟩
   ·rcases hv with hv | hv
    ·rw [hv] at hk2;exact .inl hk2
    ·have:=hv k hk2;omega
   ·rcases hold e he with h1 | ⟨h1,h2⟩
    ·exact .inr ⟨e,h1,hk2⟩
    ·rcases hk2 with hk2 | hk2
     ·have:=h1 k hk2;omega
     ·have:=h2 k hk2;omega
  have hlt0:=h0.lt hold2
  have hne:some k ∉ [some g]:=fun hm=>by
   have:=Option.some.inj (List.mem_singleton.1 hm)
   subst this
   exact hu hold2
  rw [hW2.block k hlt0 hne,hb.block k (by omega),hF.block k hlt0 hne]
theorem zAM {P:Program} {fn:Func} {p q r:Tmp} {ty:TypeId} (h:fn.results = #[.tmp q, .cell p ty, .tmp r]) (tmps:Array Value) (w:World) (g:Nat) (t:TypeId) (cs:Array Value) (fr:Nat×Nat) (d:TypeDesc)
 (hp:tmps.getD p undef = .pointer (some ⟨g,0,none⟩)) (hg:w.heap[g]?=some (.cells cs t fr))
 (hu:P.underlying ty=some d) (hd:(match d with | .struct _ | .array _ _=>true | _=>false)=true) (hi:(P.info? ty).map (·.size)=some cs.size) :
 (results fn tmps).run P w = .ok (.tuple #[tmps.getD q undef, .agg cs,tmps.getD r undef]) w:=by
 have hp':tmps[p]?.getD undef = .pointer (some ⟨g,0,none⟩):=by simpa using hp
 simp [results,h,hp',asAddr,run_loadVar_row w g t ty cs fr d hg hu hd hi]
theorem items_ok16 {S:List StL} (hS:StoOk S) (l:List Txt) : ∀ t∈(itemsS S l).map StL.text,t.length≤4096:=by
 intro t ht
 obtain ⟨y,hy,rfl⟩:=List.mem_map.1 ht
 obtain ⟨n,_,hn⟩:=List.mem_filterMap.1 hy
 obtain ⟨o,ho⟩:=(hS.each y (List.mem_of_find?_eq_some hn)).2
 exact (zB1 ho).2
theorem does_callV {P:Program} {o:Oper} {a:Act} {w:World} {post:Value→World→Prop} {f:FuncId} {args:Array Operand} {tys:Array TypeId} (ho:o.op = .call { callee := .value (.func f),args:=args,argTypes:=tys }) {vals:Array Value} (hv:args.map a.eval=vals) (hcf:(callFunc f vals).run P w = .ok (.enter f vals) w) (hc:Calls P f vals w fun e w' => ∃ v,e = .returned v∧post v w'):doesAt P o a w post:=zCz ho hv hcf hc fun e w' ⟨v,he,hp⟩=>⟨v,he,v,rfl,hp⟩
def ItmV (b:Nat) (v:Value) (F:Foot) (w:World):Prop := ∃ L,ownR b 50 37 L.length (rowsOf ritC L) v F w∧L.length≤16 ∧ ∀ p∈L,ItmOk p
theorem ItmV_stab (b:Nat) (v:Value):Stab (ItmV b v):=fun F F' w w' hf ha ⟨L,h1,h2,h3⟩=>⟨L,zCv _ _ _ _ _ _ F F' w w' hf ha h1,h2,h3⟩
attribute [local go_sem ↓] ldvI_eq ldvS_eq
set_option maxRecDepth 100000 in
set_option maxHeartbeats 16000000 in
theorem few16_calls {w:World} {v0 v1 v2:Value} {x:PckL} (h:PckOk w v0 v1 v2 x) :
 Calls Tryz.prog 7 #[.agg #[v0,v1,v2]] w fun e w'=>Few16B w.heap.size e w'∧Below w.heap.size w w':=by
 have hzS:=zeroS14
 have hbS:Tryz.prog.built 34 []=some #[.slice none 0 0]:=by kernel_rfl
 have hrb:=fun W=>run_build (P:=Tryz.prog) W _ _ _ hbS
 have hS0:(#[Value.slice none 0 0]:Array Value).size=1:=rfl
 have hS1:(#[Value.slice none 0 0]:Array Value).all (·.oneCell')=true:=by kernel_rfl
 have hszS : ∀ vm:Value,(Tryz.prog.info? 34).map (·.size)=some (#[vm]:Array Value).size:=fun vm=>szDSt
 obtain ⟨W1,hW1⟩ : ∃ W1,w.alloc (.cells #[v0,v1,v2] 26)=W1:=⟨_,rfl⟩
 have p1:Blk W1 w.heap.size 26 #[v0,v1,v2]:=by rw [←hW1];exact Blk.new _ _ _
 have b1:Below w.heap.size w W1:=by rw [←hW1];exact (Below.refl _ _).alloc (Nat.le_refl _) _
 obtain ⟨W2,hW2⟩ : ∃ W2,W1.alloc (.cells #[.slice none 0 0] 34)=W2:=⟨_,rfl⟩
 have r2:Blk W2 W1.heap.size 34 #[.slice none 0 0]:=by rw [←hW2];exact Blk.new _ _ _
 have bb2:Below W1.heap.size W1 W2:=by rw [←hW2];exact (Below.refl _ _).alloc (Nat.le_refl _) _
 have b2:=bthen b1 b1.size bb2
 have p2:=p1.below bb2 p1.lt
 have hle1:w.heap.size≤W1.heap.size:=b1.size
 have hle2:w.heap.size≤W2.heap.size:=b2.size
 have hlt1:W1.heap.size<W2.heap.size:=r2.lt
 have c0:=fun W (hW:Below W2.heap.size W2 W)=>(show W.cell? ⟨w.heap.size,0,none⟩=some v0 from (p2.below hW p2.lt).cell 0)
 have c1:=fun W (hW:Below W2.heap.size W2 W)=>(show W.cell? ⟨w.heap.size,1,none⟩=some v1 from (p2.below hW p2.lt).cell 1)
 have c2:=fun W (hW:Below W2.heap.size W2 W)=>(show W.cell? ⟨w.heap.size,2,none⟩=some v2 from (p2.below hW p2.lt).cell 2)
 have c00:=c0 W2 (Below.refl _ _)
 have hfew:=Lib.hid (show Calls Tryz.prog 26 #[v0, .int .i64 16] W2 fun e w'=>FewB x.seeds 16 e∧Below W2.heap.size W2 w' from few_calls11 x.seeds 16 (by omega) v0 W2 (h.seeds.below b2))
 have hth:=h.things
 have hst:=h.sto
 obtain ⟨At,ct,rfl,ht1,ht2,hatt⟩:=h.things
 obtain ⟨Ao,co,rfl,ho1,ho2,hato⟩:=h.sto
 have hsd:=h.seeds
 have hlt0:w.heap.size<W1.heap.size:=p1.lt
 clear h p1
 go_enter Tryz.func7,Tryz.ntmps7
 go_upto_region 2 with (first
  | ((with_reducible refine hfew.out.mono ?_);rintro e w3 ⟨⟨b,rfl,hb⟩,hb3⟩))
 have r3:=r2.below hb3 r2.lt
 have b3:=bthen b2 hle2 hb3
 have c13:=c1 w3 hb3
 have c23:=c2 w3 hb3
 have d1:=r3.frozen 0
 clear hfew c00
 have hno : ∀ W,Below W2.heap.size W2 W→Blk W W1.heap.size 34 #[.slice none 0 0]:=fun W hW=>r2.below hW r2.lt
 have hfail : ∀ W vl,Below w.heap.size w W→Few16B w.heap.size (.returned (.tuple #[vl, .agg #[.slice none 0 0], .bool false])) W:=fun W vl _=>⟨vl,_,false,rfl,rfl,fun h=>by cases h⟩
 cases b with
 | false=>
   clear hb
   go_wp2_with (first
    | (refine wpList_store_row rfl 34 (.tmp 3) (.tmp 29) rfl W1.heap.size #[.slice none 0 0] rfl rfl _ _ r3 (hszS _) rfl hS1 ?_))
   refine bodyPost_ret (zAM rfl _ _ W1.heap.size _ _ _ _ rfl (setRow_heap _ _ _ _ _ _ r3) Tryz.underlying34 rfl (hszS _)) rfl ⟨hfail _ _ (zAa b3 hle1 _),zAa b3 hle1 _⟩
 | true=>
   obtain ⟨hsl,hsm⟩:=hb rfl
   by_cases hbad:16<x.things.length∨16<x.sto.length
   ·by_cases h1:16<x.things.length
    ·have h1i:(16:Int)<(x.things.length:Int):=by omega
     go_wp2_with (first
      | (refine wpList_store_row rfl 34 (.tmp 3) (.tmp 29) rfl W1.heap.size #[.slice none 0 0] rfl rfl _ _ r3 (hszS _) rfl hS1 ?_))
     refine bodyPost_ret (zAM rfl _ _ W1.heap.size _ _ _ _ rfl (setRow_heap _ _ _ _ _ _ r3) Tryz.underlying34 rfl (hszS _)) rfl ⟨hfail _ _ (zAa b3 hle1 _),zAa b3 hle1 _⟩
    ·have h1i : ¬ (16:Int)<(x.things.length:Int):=by omega
     have h2i:(16:Int)<(x.sto.length:Int):=by omega
     go_wp2_with (first
      | (refine wpList_store_row rfl 34 (.tmp 3) (.tmp 29) rfl W1.heap.size #[.slice none 0 0] rfl rfl _ _ r3 (hszS _) rfl hS1 ?_))
     refine bodyPost_ret (zAM rfl _ _ W1.heap.size _ _ _ _ rfl (setRow_heap _ _ _ _ _ _ r3) Tryz.underlying34 rfl (hszS _)) rfl ⟨hfail _ _ (zAa b3 hle1 _),zAa b3 hle1 _⟩
   have h1i : ¬ (16:Int)<(x.things.length:Int):=by omega
   have h2i : ¬ (16:Int)<(x.sto.length:Int):=by omega
   have hl16:x.things.length≤16:=by omega
   have hs16:x.sto.length≤16:=by omega
   clear hb hbad
   go_wp2_with (fail)
   all_goals try (exfalso;omega)
   go_loopg [6] x.things.length (fun f v6 wr => ∃ k:Nat,v6 = .int .i64 k∧k+f=x.things.length∧Hid (∀ j y,j<k→x.things[j]?=some y→y.raw.length≤100)∧Below W2.heap.size W2 wr)
   case atStart=>exact ⟨0,rfl,by omega,Lib.hid (fun j y hj=>absurd hj (Nat.not_lt_zero _)),hb3⟩
   case round=>
    obtain ⟨k,rfl,hkf,hraw,hbel⟩:=hrel
    clear c13 c23 d1 r3 hb3 b3 hW1 hW2
    have hbs:=hbel.size
    have cr1:=c1 wr hbel
    have r4:=hno wr hbel
    have b4:=bthen b2 hle2 hbel
    cases gk with
    | succ f=>
      have hki:(k:Int)<(x.things.length:Int):=by omega
      obtain ⟨ga,oa,rfl,hga,hca⟩:=hatt (by omega)
      obtain ⟨y,hy⟩ : ∃ y,x.things[k]?=some y:=⟨_,List.getElem?_eq_getElem (by omega)⟩
      have cy:=(zAb (hca k y hy) hga b4) 3 _ rfl
      clear hca hatt
      by_cases hr:100<y.raw.length
      ·have hri:(100:Int)<(y.raw.length:Int):=by omega
       clear hy
       go_wp2_with (first
        | (refine wpList_store_row rfl 34 (.tmp 3) (.tmp 45) rfl W1.heap.size #[.slice none 0 0] rfl rfl _ _ r4 (hszS _) rfl hS1 ?_))
       all_goals try (exfalso;omega)
       refine bodyPost_ret (zAM rfl _ _ W1.heap.size _ _ _ _ rfl (setRow_heap _ _ _ _ _ _ r4) Tryz.underlying34 rfl (hszS _)) rfl ⟨hfail _ _ (zAa b4 hle1 _),zAa b4 hle1 _⟩
      ·have hri : ¬ (100:Int)<(y.raw.length:Int):=by omega
       have hraw2:Hid (∀ j z,j<k+1→x.things[j]?=some z→z.raw.length≤100):=Lib.hid fun j z hj hz=>by
        by_cases hjk:j<k
        ·exact hraw.out j z hjk hz
        ·obtain rfl:j=k:=by omega
         rw [hy] at hz
         cases hz
         omega
       clear hy hraw
       go_wp2_with (fail)
       all_goals try (exfalso;omega)
       go_roundg f
       case rel=>exact ⟨k+1,by go_num,by omega,hraw2,hbel⟩
       case measure=>omega
    | zero=>
      have hki : ¬ (k:Int)<(x.things.length:Int):=by omega
      have hrawA : ∀ y∈x.things,y.raw.length≤5000:=fun y hy=>by
       obtain ⟨j,hj⟩:=List.getElem?_of_mem hy
       have:=hraw.out j y (by have:=(List.getElem?_eq_some_iff.1 hj).1;omega) hj
       omega
      have cr0:=c0 wr hbel
      have hgr:=Lib.hid (grow_calls x.seeds (by omega) hsm v0 wr (hsd.below b4))
      have hrawA:=Lib.hid hrawA
      clear hraw hatt hsm hsd
      go_upto_region 11 with (first
       | ((with_reducible refine hgr.out.mono ?_);rintro e w5 ⟨⟨vm,es,vi,ids,rfl,hD5,hel5,ho5,hil5,hik5,hap5⟩,hb5⟩
          have hone5:=hD5.one)
       | ((with_reducible refine lit_new 34 (.tmp 7) (.tmp 50) #[vm] 1 szDSt rfl (by simp [hone5]) _ ?_ ?_ ?_ ?_)
          ·first | exact hS0 | rfl
          ·rfl
          ·rfl
          intro w6 hk6 hb6)
       | ((with_reducible refine lit_new 34 (.tmp 9) (.tmp 52) #[.slice none 0 0] 1 szDSt hS0 hS1 _ ?_ ?_ ?_ ?_)
          ·first | exact hS0 | rfl
          ·rfl
          ·rfl
          intro w7 hk7 hb7))
      have b67:=bthen hb6 hb6.size hb7
      have b57:=b67
      have hD7:=hD5.below b57
      have ho7:=zAf ho5 b57
      have a7:=hk6.below hb7 hk6.lt
      have s56:=hk6.lt
      have s67:=hk7.lt
      have b47:=bthen hb5 hb5.size b57
      have bW7:Below W2.heap.size W2 w7:=hbel.trans (b47.mono hbs)
      have hsz7:=bW7.size
      have hsz5:W2.heap.size≤w5.heap.size:=Nat.le_trans hbs hb5.size
      have hsz6:W2.heap.size≤w6.heap.size:=by omega
      have FB : ∀ W,Far [some w6.heap.size] w7 W→Below W2.heap.size W2 W:=fun W hf=>bW7.trans (hf.below hsz7 fun k hk=>by rw [Option.some.inj (List.mem_singleton.1 hk)];exact hsz6)
      have FA : ∀ W,Far [some w6.heap.size] w7 W→Blk W w5.heap.size 34 #[vm]:=fun W hf=>hf.blk a7 fun hm=>by have:=Option.some.inj (List.mem_singleton.1 hm);omega
      have FD : ∀ W,Far [some w6.heap.size] w7 W→DocSt W vm es:=fun W hf=>hD7.far hf fun k hk hu=>by rw [Option.some.inj (List.mem_singleton.1 hk)] at hu;have:=hD5.lt hu;omega
      have FI : ∀ W,Far [some w6.heap.size] w7 W→OwnIds W wr.heap.size vi ids:=fun W hf=>hf.own ho7 fun k hk hm=>by rw [Option.some.inj (List.mem_singleton.1 hm)] at hk;have:=(World.ownsRow.lt ho5 _ hk).2;omega
      have hDe:DocSt w7 (.slice none 0 0) []:=⟨World.ownsRow_nil _ _ _ _,(fun e he=>by simp at he),StoOk.nil⟩
      obtain ⟨Ai,ci,rfl⟩:=zAm ho5
      have heach:=hD5.each
      have hSok:=hD5.ok
      have hesf:=hD5.few
      clear hgr hk6 hb6 hb7 hb5 hap5 hbel b4 cr1 cr0 r4 hki hone5 a7 b67 b57 b47 hD5 ho5 hD7 ho7
      go_wp2_with (fail)
      go_loopg [10] x.sto.length (fun f v10 wz => ∃ (k:Nat) (vs:Value) (es2:List DiL),v10 = .int .i64 k∧k+f=x.sto.length∧Blk wz w6.heap.size 34 #[vs]∧DocSt wz vs es2∧es2.length≤k∧Far [some w6.heap.size] w7 wz)
      case atStart=>exact ⟨0,_,[],rfl,by omega,hk7,hDe,by simp,Far.refl _ _⟩
      case round=>
       obtain ⟨k,vs,es2,rfl,hkf,hs,hD2,hel2,hfar⟩:=hrel
       clear hk7 hDe
       rename World=>wz
       have hbz:=FB wz hfar
       have hbz0:=bthen b2 hle2 hbz
       have cz2:=c2 wz hbz
       obtain ⟨G,hG⟩ : ∃ G,(decide (k<x.sto.length)&&decide (0<ids.length))=G:=⟨_,rfl⟩
       go_upto_region 12 with (fail)
       go_cut [62] from 53 to 62 (fun s62 wx=>s62 = .bool G∧wx=wz)
       case first=>
        by_cases hk1:k<x.sto.length
        ·have hki:(k:Int)<(x.sto.length:Int):=by omega
         have hG2:Hid (G=decide (0<ids.length)):=Lib.hid (by rw [←hG];simp [hk1])
         clear hG
         by_cases hk2:0<ids.length
         ·have hni:(0:Int)<(ids.length:Int):=by omega
          go_wp2_with (fail)
          all_goals try (exfalso;omega)
          go_meet
          case rel=>exact ⟨by rw [hG2.out];simp [hk2],rfl⟩
         ·have hni : ¬ (0:Int)<(ids.length:Int):=by omega
          go_wp2_with (fail)
          all_goals try (exfalso;omega)
          go_meet
          case rel=>exact ⟨by rw [hG2.out];simp [hk2],rfl⟩
        ·have hki : ¬ (k:Int)<(x.sto.length:Int):=by omega
         have hG2:Hid (G=false):=Lib.hid (by rw [←hG];simp [hk1])
         clear hG
         go_wp2_with (fail)
         all_goals try (exfalso;omega)
         go_meet
         case rel=>exact ⟨by rw [hG2.out],rfl⟩
       case rest=>
       obtain ⟨rfl,rfl⟩:=hcut
       rename World=>wz
       cases G with
       | true=>
         simp only [Bool.and_eq_true,decide_eq_true_eq] at hG
         obtain ⟨hk1,hk2⟩:=hG
         have hki:(k:Int)<(x.sto.length:Int):=by omega
         have hni:(0:Int)<(ids.length:Int):=by omega
         obtain ⟨f,rfl⟩ : ∃ f,gk=f+1:=⟨gk-1,by omega⟩
         obtain ⟨gb,ob,rfl,hgb,hcb⟩:=hato (by omega)
         obtain ⟨c,hc⟩ : ∃ c,x.sto[k]?=some c:=⟨_,List.getElem?_eq_getElem hk1⟩
         have hcr:=fun W (hW:Below w.heap.size w W)=>(zAb (hcb k c hc) hgb hW) 0 _ rfl
         simp only [Nat.add_zero,Nat.mul_one] at hcr
         have hcl:=c.toNat_lt
         obtain ⟨C,hC⟩ : ∃ C,c.toNat=C:=⟨_,rfl⟩
         have hcb1 : ∀ W,Below w.heap.size w W→W.cell? ⟨gb,ob+k,none⟩=some (.int .u8 (C:Int)):=fun W hW=>by rw [hcr W hW,←hC];rfl
         rw [hC] at hcl
         have hQl:C%ids.length<ids.length:=Nat.mod_lt _ hk2
         obtain ⟨n,hn⟩ : ∃ n,ids[C%ids.length]?=some n:=⟨_,List.getElem?_eq_getElem hQl⟩
         have hn32:=hik5 n (List.mem_of_getElem? hn)
         have e4:(C:Int).tmod (ids.length:Int)=((C%ids.length:Nat):Int):=rfl
         have e3:(C:Int)%(ids.length:Int)=((C%ids.length:Nat):Int):=by simp
         have e5:IntKind.i64.wrap (C:Int)=(C:Int):=by rw [IntWalk.i64_in _ (by omega)]
         obtain ⟨A',c',he,_,_,hati⟩:=SliceAt.of_own (fun e he=>idC_len (hik5 e he)) (FI wz hfar)
         injection he with he1 _ he3
         subst he1
         subst he3
         obtain ⟨gi,oi,rfl,hgi,hci⟩:=hati hk2
         have ldn:=fun W (hW:Below wz.heap.size wz W)=>zAi (show World.rangeAt W gi (oi+C%ids.length*32) (u8s n).toList from zAb (hci _ n hn) hgi hW) hn32
         generalize C%ids.length=Q at *
         have hQi:(Q:Int)<(ids.length:Int):=by omega
         have hids0 : ¬ ids=[]:=List.ne_nil_of_length_pos hk2
         have lA:=fun W (hW:Below wz.heap.size wz W)=>zAF ((FA wz hfar).below hW (FA wz hfar).lt)
         have hqa:=fun W (hW:Below wz.heap.size wz W)=>(zBv ((FD wz hfar).below hW) n hn32).mono fun e w' (h:AtR es n e∧Below W.heap.size W w')=>(⟨h.1.val,h.2⟩:(∃ v,e = .returned v∧AtV es n v)∧Below W.heap.size W w')
         have hszz:=hbz.size
         have bz2:=fun W (hW:Below wz.heap.size wz W)=>hbz.trans (hW.mono hszz)
         have bz0:=fun W (hW:Below wz.heap.size wz W)=>bthen b2 hle2 (bz2 W hW)
         clear hcb hcr hc hC hci hati hn hcl
         go_upto_region 14 with (fail)
         refine zAw 15 (by kernel_rfl) (by kernel_rfl) (by kernel_rfl) (by kernel_rfl) ?_
         simp only [exSp]
         iterate 15 apply Exists.intro
         repeat
          first
           | ((with_reducible apply lx0_ex)
              ·(go_simp;done)
              apply Exists.intro
              apply And.intro
              ·apply Eq.refl
              apply And.intro
              ·intro W hW hD
               have q0:=c2 W (bz2 W hW)
               have q1:=hcb1 W (bz0 W hW)
               have q2:=ldn W hW
               have q3:=lA W hW
               go_simp
               rfl
              simp only [Act.put,zA,zB,zC])
           | ((with_reducible apply zAZ)
              ·(first | rfl | (go_simp;done))
              ·apply Eq.refl
              simp only [Act.put,zA,zB,zC])
           | ((with_reducible refine lx0_new (fun v _ _=>AtV es n v) rfl ?_ (zBf (AtV es n)) ?_ ?_)
              ·(go_simp;done)
              ·intro W hW hD
               have q2:=ldn W hW
               have q3:=lA W hW
               unfold doesAt Oper.wp execOp
               go_simp
               (with_reducible refine (hqa W hW).mono ?_)
               rintro e w' ⟨⟨v,rfl,hv⟩,hb⟩
               exact ⟨hb,fun _ _ _ _=>hv⟩
              intro v
              simp only [Act.put,zA,zB,zC])
           | (first | (with_reducible apply zBi) | (with_reducible apply zAO)
              ·apply Eq.refl
              apply Exists.intro
              apply And.intro
              ·(go_simp;rfl)
              simp only [Act.put,zA,zB,zC])
         refine lx0_nil ?_ fun w8 hW8 hD8=>?_
         ·exact List.nodup_nil
         obtain ⟨_,hav⟩:=hD8 _ (.head _)
         have f8:=hfar.more hW8
         have s8:=hs.below hW8 hs.lt
         have D8:=hD2.below hW8
         clear hD8 hqa lA ldn hcb1
         unfold AtV at hav
         rcases hav with ⟨p,y,rfl,hy, -⟩ | ⟨rfl, -⟩
         ·have hp0:(0:Int)≤(p:Int):=by omega
          have hpl:=(List.getElem?_eq_some_iff.1 hy).1
          have hpi:(p:Int)<(es.length:Int):=by omega
          obtain ⟨A',c',rfl,_,_,hate⟩:=(FD w8 f8).at_
          obtain ⟨ge,oe,rfl,hge,hce⟩:=hate (by omega)
          have hyo:=heach y (List.mem_of_getElem? hy)
          have hyt:y.st.text.length≤4096:=by
           obtain ⟨o,ho⟩:=(hSok.each y.st (List.mem_map.2 ⟨y,List.mem_of_getElem? hy,rfl⟩)).2
           exact (zB1 ho).2
          have hu9:=D8.blk_ne s8 (by decide) (by decide) (by decide)
          have hneG : ∀ k,some k∈[some w6.heap.size] → ¬ DocUse vs es2 k:=fun k hk=>by rw [Option.some.inj (List.mem_singleton.1 hk)];exact hu9
          have hge6:ge≠w6.heap.size:=fun e=>by
           have:=(FD w8 f8).blk_ne (g:=w6.heap.size) s8 (by decide) (by decide) (by decide)
           exact this (.inl (by rw [e];rfl))
          have htx:=fun W (hf:Far [some w6.heap.size] w8 W)=>zCm (hf.range (hce p y hy) hge (fun hm=>hge6 (Option.some.inj (List.mem_singleton.1 hm)))) hyo.id
          have cA:=fun W (hf:Far [some w6.heap.size] w8 W)=>(show W.cell? ⟨w5.heap.size,0,none⟩=some (.slice (some ⟨ge,oe,none⟩) es.length c') from (FA W (f8.trans hf)).cell 0)
          have hwi:=fun W (hf:Far [some w6.heap.size] w8 W)=>zDq (D8.far hf hneG) (by omega) y.st.text (by omega)
          have hPre:=preOk1 (i:=12) s8
          clear hate hce hy
          go_upto_region 16 with (fail)
          refine zBG 13 [(12,some w6.heap.size,fun w=>Blk w w6.heap.size 34 #[vs])] hPre (by kernel_rfl) (by kernel_rfl) (by kernel_rfl) (by kernel_rfl) ?_
          simp only [exSp]
          iterate 13 apply Exists.intro
          repeat
           first
            | ((with_reducible apply lx_ex)
               ·(go_simp;done)
               apply Exists.intro
               apply And.intro
               ·apply Eq.refl
               apply And.intro
               ·intro W hF hD
                first
                 | (have hf:Far [some w6.heap.size] w8 W:=zBg hF
                    have q0:=zAF (hD.was 0 rfl (by kernel_rfl))
                    go_simp
                    rfl)
                 | (have hf:Far [some w6.heap.size] w8 W:=zBg hF
                    have q1:=cA W hf
                    have q2:=htx W hf
                    go_simp
                    rfl)
               simp only [Act.put,zA,zB,zC])
            | ((with_reducible apply lx_pass)
               ·(first | rfl | (go_simp;done))
               ·apply Eq.refl
               simp only [Act.put,zA,zB,zC])
            | ((with_reducible refine lx_new (fun _ v F w=>WthV (k+1) w8 [some w6.heap.size] v F w) rfl ?_ (fun _=>WthV_stab _ _ _) ?_ ?_)
               ·(go_simp;done)
               ·intro W hF hD
                have hf:Far [some w6.heap.size] w8 W:=zBg hF
                have hc:=hwi W hf
                unfold doesAt Oper.wp execOp
                go_simp
                refine hc.mono ?_
                rintro e w' ⟨hr,hb⟩
                obtain ⟨v,rfl,hv⟩:=with_keep (N:=k+1) D8 hu9 (by omega) hf hr hb
                exact ⟨hb,fun F f1 f2 f3=>hv F fun k h1 h2=>f3 k h1 h2⟩
               intro v
               simp only [Act.put,zA,zB,zC])
            | (first | (with_reducible apply zBi) | (with_reducible apply zAO)
               ·apply Eq.refl
               apply Exists.intro
               apply And.intro
               ·(go_simp;rfl)
               simp only [Act.put,zA,zB,zC])
            | ((with_reducible apply zCn)
               ·apply Eq.refl
               apply Exists.intro
               apply And.intro
               ·(go_simp;rfl)
               refine ⟨fun W hW hD=>?_,?_⟩
               ·obtain ⟨F,vm1,es1,n1,b1,rfl,_⟩:=hD.at 0 rfl (by kernel_rfl)
                exact ⟨_,rfl,by simp⟩
               simp only [Act.put,zA,zB,zC])
            | ((with_reducible apply lx_putRow w6.heap.size 34 #[vs] (hszS vs))
               ·exact List.Mem.head _
               ·apply Eq.refl
               apply Exists.intro
               apply Exists.intro
               apply And.intro
               ·(go_simp;rfl)
               apply And.intro
               ·(go_simp;rfl)
               refine ⟨rfl,fun W hF hD=>?_,?_⟩
               ·obtain ⟨F,vm1,es1,n1,b1,rfl,_,ho,_⟩:=hD.at 0 rfl (by kernel_rfl)
                exact ⟨#[vm1],rfl,rfl,by simp [ho]⟩)
          refine lxP_nil ?_ fun w9 hF9 hD9=>?_
          ·exact List.nodup_nil
          obtain ⟨_,cs,hcs,_,hblk⟩:=hD9 _ (.head _)
          obtain ⟨_,vm',es',n',bb,rfl,hlen',hone',hdoc⟩:=hD9 _ (.tail _ (.head _))
          have hFc:Far [some w6.heap.size] w8 w9:=hF9
          obtain rfl : #[vm']=cs:=by injection hcs
          have D9:=hdoc w9 hFc (fun _ _ _=>rfl)
          have f9:=f8.trans hFc
          clear hD9 hF9 htx cA hwi hPre hcs hdoc
          go_wp2_with (fail)
          all_goals try (exfalso;omega)
          go_roundg f
          case rel=>exact ⟨k+1,vm',es',by go_num,by omega,hblk,D9,by omega,f9⟩
          case measure=>omega
         ·have hm1 : ¬ (0:Int) ≤ -1:=by omega
          go_wp2_with (fail)
          all_goals try (exfalso;omega)
          go_roundg f
          case rel=>exact ⟨k+1,vs,es2,by go_num,by omega,s8,D8,by omega,f8⟩
          case measure=>omega
       | false=>
         clear hG
         have hr3:=(hno wz hbz)
         have hP:=p2.below hbz p2.lt
         have hne:W1.heap.size≠w6.heap.size:=by omega
         have hall:=FA wz hfar
         have hDa:=FD wz hfar
         have hIa:=FI wz hfar
         have hszz:=hbz.size
         have m3 : ∀ {k},some k∈[some W1.heap.size]→k=W1.heap.size:=fun hk=>Option.some.inj (List.mem_singleton.1 hk)
         have gP:=fun W (hf:Far [some W1.heap.size] wz W)=>(show W.cell? ⟨w.heap.size,1,none⟩=some (.slice At x.things.length ct) from (hf.blk hP fun hm=>by have:=m3 hm;omega).cell 1)
         have gA:=fun W (hf:Far [some W1.heap.size] wz W)=>zAF (hf.blk hall fun hm=>by have:=m3 hm;omega)
         have gS:=fun W (hf:Far [some W1.heap.size] wz W)=>zAF (hf.blk hs fun hm=>by have:=m3 hm;omega)
         have u3:=hDa.blk_ne hr3 (by decide) (by decide) (by decide)
         have u4:=hD2.blk_ne hr3 (by decide) (by decide) (by decide)
         have gDa:=fun W (hf:Far [some W1.heap.size] wz W)=>hDa.far hf fun k hk=>by rw [m3 hk];exact u3
         have gD2:=fun W (hf:Far [some W1.heap.size] wz W)=>hD2.far hf fun k hk=>by rw [m3 hk];exact u4
         have gB:=fun W (hf:Far [some W1.heap.size] wz W)=>hbz0.trans (hf.below hbz0.size fun k hk=>by rw [m3 hk];exact hle1)
         have gI:=fun W (hf:Far [some W1.heap.size] wz W)=>SliceAt.of_own (fun e he=>idC_len (hik5 e he)) (hf.own hIa fun k hk hm=>zAD hIa hr3 (by decide) (by rw [hk,m3 hm]))
         have htx:=fun W (hf:Far [some W1.heap.size] wz W)=>docTexts_calls (gDa W hf) ids hik5 (by omega) _ (gI W hf)
         have hok16:=items_ok16 hSok ids
         have hlen16:((itemsS (es.map (·.st)) ids).map StL.text).length≤1000000:=by rw [List.length_map];exact Nat.le_trans (items_len _ _) (by omega)
         obtain ⟨FT,hFT⟩ : ∃ FT,(itemsS (es.map (·.st)) ids).map StL.text=FT:=⟨_,rfl⟩
         rw [hFT] at hok16 hlen16
         simp only [hFT] at htx
         have hit:=fun W (hf:Far [some W1.heap.size] wz W) v (hv:Txs W v FT)=>items16_calls (gD2 W hf) x.things (by omega) hrawA.out _ (hth.below (gB W hf)) FT hlen16 hok16 v hv
         have hit:=Lib.hid hit
         have htx:=Lib.hid htx
         have hPre:=preOk1 (i:=9) hr3
         clear hFT
         obtain ⟨As,cs,rfl⟩:=zAm hD2.own
         clear hno hfail c0 c1 c2 FB FA FD FI heach hesf hP hall hDa hIa hrb hbS hzS hS0 hth hrawA hSok p2 r2 hok16 hlen16 hbz hfar hs cz2
         go_upto_region 17 with (fail)
         refine zBG 11 [(9,some W1.heap.size,fun w=>Blk w W1.heap.size 34 #[.slice none 0 0])] hPre (by kernel_rfl) (by kernel_rfl) (by kernel_rfl) (by kernel_rfl) ?_
         simp only [exSp]
         iterate 11 apply Exists.intro
         repeat
          first
           | ((with_reducible apply lx_ex)
              ·(go_simp;done)
              apply Exists.intro
              apply And.intro
              ·apply Eq.refl
              apply And.intro
              ·intro W hF hD
               have hf:Far [some W1.heap.size] wz W:=zBg hF
               have q0:=gP W hf
               have q1:=gA W hf
               have q2:=gS W hf
               go_simp
               rfl
              simp only [Act.put,zA,zB,zC])
           | ((with_reducible apply lx_pass)
              ·(first | rfl | (go_simp;done))
              ·apply Eq.refl
              simp only [Act.put,zA,zB,zC])
           | ((with_reducible refine lx_new (fun _ v F w=>ownR wz.heap.size 9 1 FT.length (rowsOf txC FT) v F w) rfl ?_ (fun _=>zCv _ _ _ _ _) ?_ ?_)
              ·(go_simp;done)
              ·intro W hF hD
               have hf:Far [some W1.heap.size] wz W:=zBg hF
               have hc:=htx.out W hf
               unfold doesAt Oper.wp execOp
               go_simp
               refine hc.mono ?_
               rintro e w' ⟨v,rfl,ho,hb⟩
               exact ⟨hb,zEo hF.size ho⟩
              intro v
              simp only [Act.put,zA,zB,zC])
           | ((with_reducible refine lx_new (fun _ v F w=>ItmV wz.heap.size v F w) rfl ?_ (fun _=>ItmV_stab _) ?_ ?_)
              ·(go_simp;done)
              ·intro W hF hD
               have hf:Far [some W1.heap.size] wz W:=zBg hF
               obtain ⟨F1,o1,_⟩:=hD.at 0 rfl (by kernel_rfl)
               have hc:=hit.out W hf _ (SliceAt.of_own (txC_one FT) o1)
               refine does_callV rfl (map3 rfl rfl rfl) (by go_simp) (hc.mono ?_)
               rintro e w' ⟨⟨v,L,rfl,ho,hl,hok⟩,hb⟩
               exact ⟨v,rfl,hb,fun F f1 f2 f3=>⟨L,zEo hF.size ho F f1 f2 f3,by omega,hok⟩⟩
              intro v
              simp only [Act.put,zA,zB,zC])
           | (first | (with_reducible apply zBi) | (with_reducible apply zAO)
              ·apply Eq.refl
              apply Exists.intro
              apply And.intro
              ·(go_simp;rfl)
              simp only [Act.put,zA,zB,zC])
           | ((with_reducible apply lx_putRow W1.heap.size 34 #[.slice none 0 0] (hszS _))
              ·exact List.Mem.head _
              ·apply Eq.refl
              apply Exists.intro
              apply Exists.intro
              apply And.intro
              ·(go_simp;rfl)
              apply And.intro
              ·(go_simp;rfl)
              refine ⟨rfl,fun W hF hD=>?_,?_⟩
              ·exact ⟨_,rfl,rfl,by simp [hD2.one]⟩)
         refine lxP_nil ?_ fun w9 hF9 hD9=>?_
         ·exact List.nodup_nil
         obtain ⟨_,cs9,hcs,_,hblk⟩:=hD9 _ (.head _)
         obtain ⟨_,L,⟨oL,_⟩,hL16,hLok⟩:=hD9 _ (.tail _ (.head _))
         obtain rfl : #[Value.slice As es2.length cs]=cs9:=by injection hcs
         have hFc:Far [some W1.heap.size] wz w9:=hF9
         have bF:=gB w9 hFc
         have D9:=gD2 w9 hFc
         have oL':=zAE oL (Nat.le_trans hle2 hszz)
         have hres:Few16B w.heap.size (.returned (.tuple #[_, .agg #[.slice As es2.length cs], .bool true])) w9:=⟨_,_,true,rfl,D9.one,fun _=>⟨L,es2,oL',hLok,hL16,D9,by omega⟩⟩
         clear hD9 hF9 gP gA gS gDa gD2 gB gI htx hit hPre oL
         go_wp2_with (fail)
         all_goals try (exfalso;omega)
         refine bodyPost_ret (zAM rfl _ _ W1.heap.size _ _ _ _ rfl hblk Tryz.underlying34 rfl (hszS _)) rfl ?_
         exact ⟨hres,bF⟩
end
end Go.Proofs.YtodebknbchaccaaGreatDoor
namespace Go.Proofs.YtodebknbchaccaaGreatDoor
open Go.RowKit Go.Maps
def apU (b d out:Txt) (size:Nat):Option Txt:=apF d.length b d out size
theorem apF_fuel : ∀ (fu:Nat) (b s out:Txt) (size:Nat),s.length≤fu→apF fu b s out size=apU b s out size:=by
 intro fu
 induction fu using Nat.strongRecOn with
 | _ fu ih=>
   intro b s out size hs
   cases s with
   | nil=>
     unfold apU
     cases fu<;>simp [apF]
   | cons c r=>
     obtain ⟨g,rfl⟩ : ∃ g,fu=g+1:=⟨fu-1,by simp at hs;omega⟩
     unfold apU
     rw [List.length_cons]
     have hne:c::r≠[]:=by simp
     rw [List.length_cons] at hs
     rcases hrd:stpD b (c::r) with _ | ⟨t,q⟩
     ·rw [apF_bad hne hrd,apF_bad hne hrd]
     ·obtain ⟨_,q2,_⟩:=zCZ hrd
      rw [List.length_cons] at q2
      by_cases hb:size-out.length<t.length
      ·rw [apF_big hne hrd hb,apF_big hne hrd hb]
      ·rw [zDt hne hrd (by omega),zDt hne hrd (by omega),ih g (by omega) _ _ _ _ (by omega)]
       by_cases hg:r.length=g
       ·rw [hg,ih g (by omega) _ _ _ _ (by omega)]
       ·rw [ih r.length (by omega) _ _ _ _ (by omega)]
theorem apU_step {b d out t r:Txt} {size:Nat} (hs:d≠[]) (h:stpD b d=some (t,r)) (hb:t.length≤size-out.length):apU b d out size=apU b r (out++t) size:=by
 obtain ⟨c,q,rfl⟩ : ∃ c q,d=c::q:=by cases d with
  | nil=>exact absurd rfl hs
  | cons c q=>exact ⟨c,q,rfl⟩
 obtain ⟨_,q2,_⟩:=zCZ h
 rw [List.length_cons] at q2
 unfold apU
 rw [List.length_cons,zDt hs h hb]
 exact apF_fuel _ _ _ _ _ (by omega)
def LeadsD (b e o t:Txt):Prop:=o.length≤t.length ∧ ∀ r size,t.length≤size→apU b (e++r) o size=apU b r t size
theorem LeadsD.refl (b o:Txt):LeadsD b [] o o:=⟨Nat.le_refl _,fun r most _=>rfl⟩
theorem LeadsD.trans {b e e' o t t':Txt} (h:LeadsD b e o t) (h':LeadsD b e' t t'):LeadsD b (e++e') o t':=
 ⟨Nat.le_trans h.1 h'.1,fun r most hm=>by rw [List.append_assoc,h.2 _ _ (Nat.le_trans h'.1 hm),h'.2 _ _ hm]⟩
theorem LeadsD.plain (b t o:Txt) (h0:t≠[]) (h1:2*t.length≤18446744073709551615):LeadsD b (put (2*t.length)++t) o (o++t):=by
 have hpos:0<t.length:=by
  cases t with
  | nil=>exact absurd rfl h0
  | cons c r=>simp
 have hrd : ∀ r,stpD b (put (2*t.length)++t++r)=some (t,r):=by
  intro r
  have hg:=get_put (2*t.length) h1 (t++r)
  rw [←List.append_assoc] at hg
  have hd:(put (2*t.length)++t++r).drop (put (2*t.length)).length=t++r:=by rw [List.append_assoc,List.drop_left]
  have h2:2*t.length / 2=t.length:=by omega
  rw [stpD_text hg (by omega) (by omega) (by rw [hd,List.length_append];omega),hd,h2,List.take_left,List.drop_left]
 have hne : ∀ r,put (2*t.length)++t++r≠[]:=fun r=>by rw [List.append_assoc];exact put_ne _ _
 refine ⟨by rw [List.length_append];omega,fun r most hm=>?_⟩
 rw [List.length_append] at hm
 exact apU_step (hne r) (hrd r) (by omega)
theorem LeadsD.copy (b o:Txt) (n p:Nat) (h0:1≤n) (h1:2*n+1≤18446744073709551615) (h2:p+n≤b.length) (hb:b.length≤70368744177664):LeadsD b (put (2*n+1)++put p) o (o++(b.drop p).take n):=by
 have hl:((b.drop p).take n).length=n:=by rw [List.length_take,List.length_drop];omega
 have hrd : ∀ r,stpD b (put (2*n+1)++put p++r)=some ((b.drop p).take n,r):=by
  intro r
  have hg:=get_put (2*n+1) h1 (put p++r)
  rw [←List.append_assoc] at hg
  have hd:(put (2*n+1)++put p++r).drop (put (2*n+1)).length=put p++r:=by rw [List.append_assoc,List.drop_left]
  have hg2:=get_put p (by omega) r
  have h3:(2*n+1) / 2=n:=by omega
  rw [stpD_copy hg (by omega) (by omega) (by rw [hd];exact hg2) (by omega) (by omega),hd,h3,List.drop_left]
 have hne : ∀ r,put (2*n+1)++put p++r≠[]:=fun r=>by rw [List.append_assoc];exact put_ne _ _
 refine ⟨by rw [List.length_append];omega,fun r most hm=>?_⟩
 rw [List.length_append,hl] at hm
 exact apU_step (hne r) (hrd r) (by omega)
theorem copy_alike (b t:Txt) (a i n:Nat) (ha:a+n≤b.length) (hi:i+n≤t.length) (h : ∀ j,j<n→b.getD (a+j) 0=t.getD (i+j) 0):t.take i++(b.drop a).take n=t.take (i+n):=by
 have e:(b.drop a).take n=(t.drop i).take n:=by
  apply List.ext_getElem?
  intro j
  by_cases hj:j<n
  ·rw [List.getElem?_take_of_lt hj,List.getElem?_take_of_lt hj,List.getElem?_drop,List.getElem?_drop]
   have:=h j hj
   rw [getD_lt (by omega),getD_lt (by omega)] at this
   rw [List.getElem?_eq_getElem (by omega),List.getElem?_eq_getElem (by omega),this]
  ·rw [List.getElem?_eq_none (by rw [List.length_take];omega),List.getElem?_eq_none (by rw [List.length_take];omega)]
 rw [e,List.take_add]
structure FstOk (b:Txt) (i:Nat) (D:DataW Unit):Prop where
 isMap:IsMap D
 told : ∀ k:Nat,Maps.has D (kl k)=true → ∃ a:Nat,D.atKey (kl k) (.lit (.int .i64 0))=vl a∧a+4≤b.length∧a<i∧keyAt b a=k
 first:0<i→Maps.has D (kl (keyAt b 0))=true∧D.atKey (kl (keyAt b 0)) (.lit (.int .i64 0))=vl 0
theorem FstOk.start (b:Txt):FstOk b 0 (.map []):=⟨isMap_empty,fun k h=>by simp [has_eq] at h,fun h=>absurd h (by omega)⟩
theorem FstOk.here {b:Txt} {i:Nat} {D:DataW Unit} (h:FstOk b i D) (hh:Maps.has D (kl (keyAt b i))=true):FstOk b (i+1) D:=by
 refine ⟨h.isMap,fun k hk=>?_,fun _=>?_⟩
 ·obtain ⟨a,h1,h2,h3,h4⟩:=h.told k hk
  exact ⟨a,h1,h2,by omega,h4⟩
 ·rcases Nat.eq_zero_or_pos i with h0 | h0
  ·subst h0
   obtain ⟨a,h1,h2,h3,h4⟩:=h.told _ hh
   omega
  ·exact h.first h0
theorem FstOk.next {b:Txt} {i:Nat} {D:DataW Unit} (h:FstOk b i D) (hi:i+4≤b.length) (hh:Maps.has D (kl (keyAt b i))=false):FstOk b (i+1) (D.put (kl (keyAt b i)) (vl i)):=by
 refine ⟨h.isMap.put _ _,fun k hk=>?_,fun _=>?_⟩
 ·by_cases he:k=keyAt b i
  ·subst he
   exact ⟨i,atKey_put_same h.isMap (kl_key _) _ _,hi,by omega,rfl⟩
  ·rw [has_put_other (kl_ne he)] at hk
   obtain ⟨a,h1,h2,h3,h4⟩:=h.told k hk
   exact ⟨a,by rw [atKey_put_other (kl_ne he)];exact h1,h2,by omega,h4⟩
 ·rcases Nat.eq_zero_or_pos i with h0 | h0
  ·subst h0
   exact ⟨has_put_same h.isMap (kl_key _) _,atKey_put_same h.isMap (kl_key _) _ _⟩
  ·obtain ⟨h1,h2⟩:=h.first h0
   by_cases he:keyAt b 0=keyAt b i
   ·rw [he,hh] at h1;cases h1
   ·rw [has_put_other (kl_ne he),atKey_put_other (kl_ne he)]
    exact ⟨h1,h2⟩
def plnD (s:Txt):Txt:=if s=[] then [] else put (2*s.length)++s
theorem zBV (t:Txt):(plnD t).length≤10+t.length:=by
 unfold plnD
 split
 ·simp
 ·have:=zAn (2*t.length)
  rw [List.length_append];omega
theorem LeadsD.pln (b t o:Txt) (h:2*t.length≤18446744073709551615):LeadsD b (plnD t) o (o++t):=by
 unfold plnD
 split
 ·rename_i h0;rw [h0,List.append_nil];exact LeadsD.refl _ _
 ·rename_i h0;exact LeadsD.plain b t o h0 h
structure StpRel (b t e:Txt) (fr i:Nat):Prop where
 fri:fr≤i
 leads:LeadsD b e [] (t.take fr)
 same:b=t→4≤t.length→(i=0∧e=[])∨(i=t.length∧fr=t.length∧e.length≤11)
theorem StpRel.start (b t:Txt):StpRel b t [] 0 0:=⟨Nat.le_refl _,by simpa using LeadsD.refl b [],fun _ _ => .inl ⟨rfl,rfl⟩⟩
theorem pln_mid {b t e:Txt} {fr i:Nat} (h:LeadsD b e [] (t.take fr)) (hf:fr≤i) (hi:i≤t.length) (hs:t.length≤70368744177664):LeadsD b (e++plnD ((t.drop fr).take (i-fr))) [] (t.take i):=by
 have ht:t.take fr++(t.drop fr).take (i-fr)=t.take i:=by
  rw [show i=fr+(i-fr) from by omega,List.take_add,show fr+(i-fr)-fr=i-fr from by omega]
 have:=h.trans (LeadsD.pln b ((t.drop fr).take (i-fr)) (t.take fr) (by rw [List.length_take,List.length_drop];omega))
 rwa [ht] at this
theorem StpRel.miss {b t e:Txt} {fr i m:Nat} {D:DataW Unit} (h:StpRel b t e fr i) (hm:FstOk b m D) (hm4:b.length<m+4) (hi:i+4≤t.length) (hno:Maps.has D (kl (keyAt t i))=false):StpRel b t e fr (i+1):=by
 refine ⟨by have:=h.fri;omega,h.leads,fun hb hl=>?_⟩
 rcases h.same hb hl with ⟨h1,h2⟩ | ⟨h1,h2,h3⟩
 ·subst h1 hb
  rw [(hm.first (by omega)).1] at hno
  cases hno
 ·omega
theorem StpRel.hit {b t e:Txt} {fr i a n m:Nat} {D:DataW Unit} (h:StpRel b t e fr i) (hm:FstOk b m D) (hm4:b.length<m+4) (hbl:b.length≤70368744177664) (hs:t.length≤70368744177664) (hi:i+4≤t.length) (ha:D.atKey (kl (keyAt t i)) (.lit (.int .i64 0))=vl a)
 (h4:4≤n) (hn:i+n≤t.length) (hna:a+n≤b.length) (hal : ∀ j,j<n→b.getD (a+j) 0=t.getD (i+j) 0) (hmax:a+n<b.length→i+n<t.length→b.getD (a+n) 0≠t.getD (i+n) 0) :
 StpRel b t (e++(plnD ((t.drop fr).take (i-fr))++(put (2*n+1)++put a))) (i+n) (i+n):=by
 refine ⟨Nat.le_refl _,?_,fun hb hl=>?_⟩
 ·have:=(pln_mid h.leads h.fri (by omega) hs).trans (LeadsD.copy b (t.take i) n a (by omega) (by omega) hna hbl)
  rw [copy_alike b t a i n hna hn hal] at this
  rwa [List.append_assoc] at this
 ·rcases h.same hb hl with ⟨h1,h2⟩ | ⟨h1,h2,h3⟩
  ·subst h1 hb
   have hfr:fr=0:=by have:=h.fri;omega
   rw [(hm.first (by omega)).2] at ha
   have ha0:a=0:=by
    injection ha with ha
    injection ha with _ ha
    omega
   subst ha0 hfr h2
   have hnl:n=b.length:=by
    refine Classical.byContradiction fun hne=>?_
    exact hmax (by omega) (by omega) rfl
   refine .inr ⟨by omega,by omega,?_⟩
   have hp0:plnD ((b.drop 0).take (0-0))=[]:=rfl
   have:=zAn (2*n+1)
   rw [hp0,List.nil_append,List.nil_append,List.length_append,zDk 0 (by omega)]
   omega
  ·omega
def MkdIs (b t d:Txt):Prop:=d.length≤t.length+40∧(t.length≤4096→apD b d=(t,0))∧(b=t→100≤t.length→t.length≤4096→d.length<t.length)
theorem apD_of {b t e:Txt} (hb:b.length≤70368744177664) (h:LeadsD b e [] t) (ht:t.length≤4096):apD b (put b.length++(put t.length++e))=(t,0):=by
 have g1:=get_put b.length (by omega) (put t.length++e)
 have g2:=get_put t.length (by omega) e
 have hh:=headD_yes g1 (by rw [List.drop_left];exact g2)
 rw [List.drop_left,List.drop_left] at hh
 rw [apD_go hh rfl ht]
 have e1:apF e.length b e [] t.length=some t:=by
  have:=h.2 [] t.length (Nat.le_refl _)
  rw [List.append_nil] at this
  have e2:apU b e [] t.length=some t:=this.trans (apF_end _ _ _)
  exact e2
 rw [e1]
theorem StpRel.done {b t e:Txt} {fr i m:Nat} {D:DataW Unit} (h:StpRel b t e fr i) (hm:FstOk b m D) (hm4:b.length<m+4) (hb:b.length≤70368744177664) (hs:t.length≤70368744177664) (hi:t.length<i+4) (hfr:fr≤t.length) :
 LeadsD b (e++plnD (t.drop fr)) [] t∧(b=t→4≤t.length→(e++plnD (t.drop fr)).length≤11):=by
 refine ⟨?_,fun hbt hl=>?_⟩
 ·have:=pln_mid h.leads hfr (Nat.le_refl _) hs
  rwa [List.take_of_length_le (by rw [List.length_drop];omega),List.take_length] at this
 ·rcases h.same hbt hl with ⟨h1,h2⟩ | ⟨h1,h2,h3⟩
  ·omega
  ·have hd:t.drop fr=[]:=List.drop_of_length_le (by omega)
   rw [hd,show plnD []=[] from rfl,List.append_nil]
   exact h3
theorem mkd_steps {b t e:Txt} (hb:b.length≤70368744177664) (hs:t.length≤70368744177664) (h:LeadsD b e [] t) (hsm:b=t→4≤t.length→e.length≤11) (hle:e.length≤(plnD t).length):MkdIs b t (put b.length++(put t.length++e)):=by
 have l1:=zAn b.length
 have l2:=zAn t.length
 have l3:=zBV t
 refine ⟨by rw [List.length_append,List.length_append];omega,apD_of hb h,fun he h1 h2=>?_⟩
 have:=hsm he (by omega)
 rw [List.length_append,List.length_append];omega
theorem mkd_plain {b t e:Txt} (hb:b.length≤70368744177664) (hs:t.length≤70368744177664) (hsm:b=t→4≤t.length→e.length≤11) (hlt:(plnD t).length<e.length):MkdIs b t (put b.length++(put t.length++plnD t)):=by
 have l1:=zAn b.length
 have l2:=zAn t.length
 have l3:=zBV t
 refine ⟨by rw [List.length_append,List.length_append];omega,apD_of hb (LeadsD.pln b t [] (by omega)),fun he h1 h2=>?_⟩
 have:=hsm he (by omega)
 rw [List.length_append,List.length_append];omega
end Go.Proofs.YtodebknbchaccaaGreatDoor
