/- Texts of this claim, laid together: ChkC, OpenE, OpenObj, Seed, Pick, MkB, MkT, MkC, MkE, Grow, StoQ. -/
import Derived.Test.YtfdfoplmijmnaaaGreatDoorMl
import Derived.Lib.LaidTab
import Derived.Deep.CutBlock
namespace Go.Proofs.YtfdfoplmijmnaaaGreatDoor
open Go.RowKit
attribute [local go_sem ↓] ldvI_eq ldvO_eq ldvS_eq
def refB (S:List StL) (r:RefL):Bool := !(kindS S r.id==0)
/-- Whether a repository is whole: an error's number. -/
def wholeN (S:List StL) (refs:List RefL) (sh:List Txt):Int:=
 if fineL refs=false then 8 else if shalB S sh=false then 9 else if (S.map StL.id).all (rightS S sh)=false then 7 else if refs.all (refB S)=false then 7 else 0
section
variable {S:List StL} {refs:List RefL} {sh:List Txt}
theorem wholeN_1 (h:fineL refs=false):wholeN S refs sh=8:=by unfold wholeN;rw [if_pos h]
theorem wholeN_2 (h:fineL refs=true) (h2:shalB S sh=false):wholeN S refs sh=9:=by unfold wholeN;rw [if_neg (by rw [h];simp),if_pos h2]
theorem wholeN_3 (h:fineL refs=true) (h2:shalB S sh=true) (h3:(S.map StL.id).all (rightS S sh)=false):wholeN S refs sh=7:=by unfold wholeN;rw [if_neg (by rw [h];simp),if_neg (by rw [h2];simp),if_pos h3]
theorem wholeN_4 (h:fineL refs=true) (h2:shalB S sh=true) (h3:(S.map StL.id).all (rightS S sh)=true):wholeN S refs sh=if refs.all (refB S)=false then 7 else 0:=by unfold wholeN;rw [if_neg (by rw [h];simp),if_neg (by rw [h2];simp),if_neg (by rw [h3];simp)]
end
theorem run_ldvS_at {w:World} {g o:Nat} {vm:Value} (h:w.rangeAt g o [vm]):(ldvS ⟨g,o,none⟩).run Tryz.prog w = .ok (.agg #[vm]) w:=run_loadVar_mid w g o 30 [vm] _ h Tryz.underlying30 rfl szDSt
set_option maxRecDepth 100000 in
set_option maxHeartbeats 4000000 in
theorem chkWhole_calls {w:World} {base p:Nat} {vl:Value} {S:List StL} (hS:StoAt w base p vl S) (refs:List RefL) (hrok:RefsOk refs) (sh:List Txt) (hsok : ∀ x∈sh,x.length=32) (vr vs:Value) (hvr:Refs w vr refs) (hvs:Ids w vs sh) :
 Calls Tryz.prog 13 #[.agg #[.pointer (some ⟨p,0,none⟩),vr,vs]] w fun e w'=>e = .returned (.int .i64 (wholeN S refs sh))∧Below w.heap.size w w':=by
 obtain ⟨W1,hW1⟩ : ∃ W1,w.alloc (.cells #[.pointer (some ⟨p,0,none⟩),vr,vs] 44)=W1:=⟨_,rfl⟩
 have s1:Blk W1 w.heap.size 44 #[.pointer (some ⟨p,0,none⟩),vr,vs]:=by rw [←hW1];exact Blk.new _ _ _
 have b1:Below w.heap.size w W1:=by rw [←hW1];exact (Below.refl _ _).alloc (Nat.le_refl _) _
 have hsz1:=b1.size
 have c0 : ∀ W,Below W1.heap.size W1 W→W.cell? ⟨w.heap.size,0,none⟩=some (.pointer (some ⟨p,0,none⟩)):=fun W hW=>(s1.below hW s1.lt).cell 0
 have c1 : ∀ W,Below W1.heap.size W1 W→W.cell? ⟨w.heap.size,1,none⟩=some vr:=fun W hW=>(s1.below hW s1.lt).cell 1
 have c2 : ∀ W,Below W1.heap.size W1 W→W.cell? ⟨w.heap.size,2,none⟩=some vs:=fun W hW=>(s1.below hW s1.lt).cell 2
 have hfi:=Lib.hid (fine_calls refs hrok vr W1 (hvr.below b1))
 have hsh:=fun W (hW:Below w.heap.size w W)=>Lib.hid (chkShallow_calls (hS.below hW) sh hsok vs (hvs.below hW))
 have hid:=fun W (hW:Below w.heap.size w W)=>stoIds_calls (hS.below hW)
 have hri:=fun W (hW:Below w.heap.size w W) (l:List Txt) (hl : ∀ x∈l,x.length=32) (v:Value) (hv:Ids W v l)=>chkRight_calls (hS.below hW) l sh hl hsok v vs hv (hvs.below hW)
 have hki:=fun W (hW:Below w.heap.size w W) (m:Txt) (hm:m.length=32)=>Lib.hid (stoKind_calls (hS.below hW) m hm)
 have hok : ∀ x∈S.map StL.id,x.length=32:=fun x hx=>by
  obtain ⟨y,hy,rfl⟩:=List.mem_map.1 hx
  exact (hS.ok.ok y hy).1
 obtain ⟨N,hN⟩ : ∃ N,wholeN S refs sh=N:=⟨_,rfl⟩
 rw [hN]
 have c00:=c0 W1 (Below.refl _ _)
 have c01:=c1 W1 (Below.refl _ _)
 clear hS s1
 obtain ⟨A,cap,rfl,hcap1,hcap2,hat⟩:=hvr
 obtain ⟨Av,cv,rfl,_⟩:=hvs
 cases hF:fineL refs with
 | false=>
   obtain rfl:(8:Int)=N:=by rw [←hN,wholeN_1 hF]
   rw [hF] at hfi
   clear hN hsh hid hri hki c0 c1 c2 hat hF
   go_enter Tryz.func13,Tryz.ntmps13
   go_wp2_with (first
    | ((with_reducible refine hfi.out.mono ?_);rintro e w2 ⟨rfl,hb2⟩))
   go_ret
   exact ⟨rfl,bthen b1 hsz1 hb2⟩
 | true=>
   rw [hF] at hfi
   cases hB:shalB S sh with
   | false=>
     obtain rfl:(9:Int)=N:=by rw [←hN,wholeN_2 hF hB]
     rw [hB] at hsh
     clear hN hid hri hki hat hF hB
     go_enter Tryz.func13,Tryz.ntmps13
     go_wp2_with (first
      | ((with_reducible refine hfi.out.mono ?_);rintro e w2 ⟨rfl,hb2⟩
         have d0:=c0 w2 hb2
         have d2:=c2 w2 hb2
         have hs2:=hsh w2 (bthen b1 hsz1 hb2))
      | ((with_reducible refine hs2.out.mono ?_);rintro e w3 ⟨rfl,hb3⟩))
     have b2:=bthen b1 hsz1 hb2
     go_ret
     exact ⟨rfl,bthen b2 b2.size hb3⟩
   | true=>
     rw [hB] at hsh
     have hN3:=fun h3=>hN.symm.trans (wholeN_3 hF hB h3)
     have hN4:=fun h3=>hN.symm.trans (wholeN_4 hF hB h3)
     obtain ⟨IL,hIL⟩ : ∃ IL,S.map StL.id=IL:=⟨_,rfl⟩
     rw [hIL] at hid hok hN3 hN4
     obtain ⟨RI,hRI⟩ : ∃ RI,IL.all (rightS S sh)=RI:=⟨_,rfl⟩
     rw [hRI] at hN3 hN4
     replace hN3:=Lib.hid hN3
     replace hN4:=Lib.hid hN4
     have hri2:Hid (∀ W (hW:Below w.heap.size w W) (v:Value) (hv:Ids W v IL),Calls Tryz.prog 29 #[.pointer (some ⟨p,0,none⟩),v, .slice Av sh.length cv] W fun e w'=>e = .returned (.bool RI)∧Below W.heap.size W w'):=Lib.hid fun W hW v hv=>by rw [←hRI];exact hri W hW IL hok v hv
     clear hN hF hB hIL hRI hri
     go_enter Tryz.func13,Tryz.ntmps13
     go_upto_region 5 with (first
      | ((with_reducible refine hfi.out.mono ?_);rintro e w2 ⟨rfl,hb2⟩
         have d0:=c0 w2 hb2
         have d2:=c2 w2 hb2
         have hs2:=hsh w2 (bthen b1 hsz1 hb2))
      | ((with_reducible refine hs2.out.mono ?_);rintro e w3 ⟨rfl,hb3⟩))
     have b12:=bthen hb2 hb2.size hb3
     have b3:=bthen b1 hsz1 b12
     have e0:=fun W (hW:Below w3.heap.size w3 W)=>c0 W (bthen b12 b12.size hW)
     have e2:=fun W (hW:Below w3.heap.size w3 W)=>c2 W (bthen b12 b12.size hW)
     have hbw:=fun W (hW:Below w3.heap.size w3 W)=>bthen b3 b3.size hW
     clear hfi hsh hs2 c2 d0 d2 c00 c01
     refine wp_region_go0 10 (by kernel_rfl) (by kernel_rfl) (by kernel_rfl) (by kernel_rfl) ?_
     simp only [exSp]
     iterate 10 apply Exists.intro
     repeat
      first
       | ((with_reducible apply lx0_ex)
          ·(go_simp;done)
          apply Exists.intro
          apply And.intro
          ·apply Eq.refl
          apply And.intro
          ·intro W hW hD
           first
            | (obtain ⟨F1,o1,_⟩:=hD.at 0 rfl (by kernel_rfl)
               have q2:=e2 W hW
               have hc:=hri2.out W (hbw W hW) _ (SliceAt.of_own (fun e h=>idC_len (hok e h)) o1)
               go_simp
               with_reducible exact hc)
            | (have q0:=e0 W hW
               have q2:=e2 W hW
               go_simp
               rfl)
          simp only [Act.put,List.setIfInBounds_toArray,List.set_cons_zero,List.set_cons_succ])
       | ((with_reducible apply lx0_pass)
          ·(first | rfl | (go_simp;done))
          ·apply Eq.refl
          simp only [Act.put,List.setIfInBounds_toArray,List.set_cons_zero,List.set_cons_succ])
       | ((with_reducible refine lx0_new (ownR w3.heap.size 35 32 IL.length (rowsOf idC IL)) rfl ?_ (ownR_stab _ _ _ _ _) ?_ ?_)
          ·(go_simp;done)
          ·intro W hW hD
           unfold doesAt Oper.wp execOp
           go_simp
           (with_reducible refine (hid W (hbw W hW)).mono ?_)
           rintro e w' ⟨v,rfl,ho,hb⟩
           exact ⟨hb,ownR_new hW.size ho⟩
          intro v
          simp only [Act.put,List.setIfInBounds_toArray,List.set_cons_zero,List.set_cons_succ])
       | ((first | (with_reducible apply lx_move') | (with_reducible apply lx_assign'))
          ·apply Eq.refl
          apply Exists.intro
          apply And.intro
          ·(go_simp;rfl)
          simp only [Act.put,List.setIfInBounds_toArray,List.set_cons_zero,List.set_cons_succ])
     refine lx0_nil ?_ fun w5 hW5 hD5=>?_
     ·exact List.nodup_nil
     have b5:=hbw w5 hW5
     have b15:=bthen b12 b12.size hW5
     clear hri2 hid e0 e2 hD5
     cases RI with
     | false=>
       obtain rfl:N=7:=hN3.out rfl
       clear hN3 hN4 hat hki c0 c1
       go_wp2_with (fail)
       go_ret
       exact ⟨rfl,b5⟩
     | true=>
       have hN5:=Lib.hid (hN4.out rfl)
       have c15:=c1 w5 b15
       clear hN3 hN4
       go_wp2_with (fail)
       obtain ⟨R,hR⟩ : ∃ R,refs.all (refB S)=R:=⟨_,rfl⟩
       rw [hR] at hN5
       have hrel0:Hid ((refs.drop 0).all (refB S)=R):=Lib.hid hR
       clear hR c1
       go_loopg [30] refs.length (fun f vi wr => ∃ k:Nat,vi = .int .i64 k∧k+f=refs.length∧Hid ((refs.drop k).all (refB S)=R)∧Below w5.heap.size w5 wr)
       case atStart=>exact ⟨0,rfl,by omega,hrel0,Below.refl _ _⟩
       case round=>
        clear hrel0
        obtain ⟨k,rfl,hkf,hrel,hbel⟩:=hrel
        have hbs:=hbel.size
        have hbr:=bthen b5 b5.size hbel
        have d0:=c0 wr (bthen b15 b15.size hbel)
        cases gk with
        | zero=>
          have hki0 : ¬ (k:Int)<(refs.length:Int):=by omega
          obtain rfl:true=R:=by rw [←hrel.out,all_drop_end (by omega)]
          obtain rfl:N=0:=hN5.out
          clear hat hki c0 hrel hN5
          go_wp2_with (fail)
          go_ret
          exact ⟨rfl,hbr⟩
        | succ f=>
          have hki0:(k:Int)<(refs.length:Int):=by omega
          obtain ⟨gs,os,rfl,hgs,hcell⟩:=hat (by omega)
          obtain ⟨x,hx⟩ : ∃ x,refs[k]?=some x:=⟨_,List.getElem?_eq_getElem (by omega)⟩
          have hxok:RefOk x:=hrok x (List.mem_of_getElem? hx)
          have hx0:=rangeAt_below (hcell k x hx) hgs hbr
          have hrel2:=hrel.out
          rw [all_drop hx] at hrel2
          have hkx:=fun W (hW:Below wr.heap.size wr W)=>hki W (bthen hbr hbr.size hW) x.id hxok.1
          have hkl:k<refs.length:=by omega
          have hrb:Hid (refB S x = !(kindS S x.id==0)):=Lib.hid rfl
          have d00:=fun W (hW:Below wr.heap.size wr W)=>c0 W (bthen (bthen b15 b15.size hbel) (by have:=b15.size;omega) hW)
          generalize kindS S x.id=K at *
          generalize refB S x=ob at *
          replace hrel2:=Lib.hid hrel2
          clear hx hat hcell hki hrel
          by_cases hK:K=0
          ·have heq:(K==0)=true:=by simp [hK]
           have hne:(K != 0)=false:=by simp [hK]
           obtain rfl:false=ob:=by rw [hrb.out,heq];rfl
           obtain rfl:false=R:=by have h:=hrel2.out;rw [Bool.false_and] at h;exact h
           obtain rfl:N=7:=hN5.out
           clear hK hrb hrel2 hN5
           go_wp2_with (first
            | (refine wpList_load_mid rfl 37 (.tmp 32) rfl gs (os+k*33) rfl (refC x) _ hx0 Tryz.underlying37 rfl (sizedRef hxok) ?_)
            | (refine wpList_store_newRef rfl (.tmp 4) (.tmp 33) rfl x hxok _ rfl rfl rfl ?_;intro W7 hb7 hbl7
               have hl7:=run_ldvI_at (range_id (range_blkRef hb7)) hxok.1
               have d7:=d00 W7 hbl7
               have hk7:=hkx W7 hbl7)
            | ((with_reducible refine hk7.out.mono ?_);rintro e w8 ⟨rfl,hb8⟩))
           have b8:=bthen hbr hbr.size (bthen hbl7 hbl7.size hb8)
           go_ret
           exact ⟨rfl,b8⟩
          ·have heq:(K==0)=false:=by simp [hK]
           have hne:(K != 0)=true:=by simp [hK]
           obtain rfl:true=ob:=by rw [hrb.out,heq];rfl
           have hrel4:Hid ((refs.drop (k+1)).all (refB S)=R):=Lib.hid (by have h:=hrel2.out;rw [Bool.true_and] at h;exact h)
           clear hK hrb hrel2 hN5
           go_wp2_with (first
            | (refine wpList_load_mid rfl 37 (.tmp 32) rfl gs (os+k*33) rfl (refC x) _ hx0 Tryz.underlying37 rfl (sizedRef hxok) ?_)
            | (refine wpList_store_newRef rfl (.tmp 4) (.tmp 33) rfl x hxok _ rfl rfl rfl ?_;intro W7 hb7 hbl7
               have hl7:=run_ldvI_at (range_id (range_blkRef hb7)) hxok.1
               have d7:=d00 W7 hbl7
               have hk7:=hkx W7 hbl7)
            | ((with_reducible refine hk7.out.mono ?_);rintro e w8 ⟨rfl,hb8⟩))
           have hbel8:=hbel.trans ((bthen hbl7 hbl7.size hb8).mono hbs)
           clear hkx hl7 hk7 d7 hb7 hx0 hb8
           go_roundg f
           case rel=>exact ⟨k+1,by go_num,by omega,hrel4,hbel8⟩
           case measure=>omega
end Go.Proofs.YtfdfoplmijmnaaaGreatDoor
namespace Go.Proofs.YtfdfoplmijmnaaaGreatDoor
open Go.ChangeShapes Go.WideShapes Go.ChangeAt Go.RowKit
section
variable {H:Type} {enc:TypeId×Value→H} {P:Program} {w:World} {base:Nat} {sp:Nat→Bool} {held:Bool}
open Go.Deep in
theorem open_elems {α:Type} (en:α→List Value) (k:Nat) (hk0:0<k) (Ok:α→Prop) {t e:TypeId} {fuel:Nat} {v:Value} {x:DataW H×List MemPlace} (ht:P.underlying t=some (.slice e)) (hk:P.cellsOf e=k)
 (hen : ∀ y,Ok y→(en y).length=k) (key : ∀ fuel cs x,DataW.trod enc P w base sp held fuel e cs=some x→cs.length=k → ∃ y:α,cs=en y∧Ok y) (h:DataW.trod enc P w base sp held fuel t [v]=some x) :
 ∃ l:List α,SliceAt w k en v l ∧ ∀ y∈l,Ok y:=by
 rcases open_slice ht h with ⟨h0,_⟩ | ⟨a,len,cap,m,n,D,Pl,hcs,hb,hl,hm,hmm,hx,hi⟩
 ·injection h0 with h0
  subst h0
  exact ⟨[],SliceAt.nil,fun y hy=>by simp at hy⟩
 ·injection hcs with hcs
  subst hcs
  have hlm:len≤m:=by rw [hmm];split<;>omega
  have per : ∀ i,i<len → ∃ y:α,(∀ j u,(en y)[j]?=some u→w.cell? ((a.add (i*k)).add j)=some u)∧Ok y:=by
   intro i hil
   obtain ⟨cs',hc,ht'⟩:=hi i (by omega)
   rw [hk] at hc
   obtain ⟨_,hcl,hat⟩:=World.cells?_some hc
   obtain ⟨y,rfl,hok⟩:=key _ _ _ ht' hcl
   refine ⟨y,fun j u hu=>?_,hok⟩
   have hj:=(List.getElem?_eq_some_iff.1 hu).1
   rw [hat j (by omega)]
   exact hu
  obtain ⟨l,hll,hp⟩:=list_of len _ per
  subst hll
  have hcm:cap≤9223372036854775807:=by unfold maxLen at hm;omega
  refine ⟨l,⟨some a,cap,rfl,hl,hcm,fun h0=>?_⟩,fun y hy=>?_⟩
  ·have hy0:=(hp 0 h0).1
   have hlen0:=hen _ (hp 0 h0).2
   have hc0:=hy0 0 _ (List.getElem?_eq_getElem (by omega))
   simp only [Nat.zero_mul] at hc0
   have e00:(a.add 0).add 0=a:=by simp [Addr.add]
   rw [e00] at hc0
   obtain ⟨ha,hlt⟩:=addr_form hc0
   refine ⟨a.block,a.off,by rw [←ha],hlt,fun i y hy j u hu=>?_⟩
   obtain ⟨hi',he⟩:=List.getElem?_eq_some_iff.1 hy
   have hc:=(hp i hi').1 j u (by rw [he];exact hu)
   rw [ha] at hc
   simp only [addr_add] at hc
   exact hc
  ·obtain ⟨i,hi',rfl⟩:=List.getElem_of_mem hy
   exact (hp i hi').2
end
end Go.Proofs.YtfdfoplmijmnaaaGreatDoor
namespace Go.Proofs.YtfdfoplmijmnaaaGreatDoor
open Go.ChangeShapes Go.WideShapes Go.ChangeAt Go.RowKit
section
variable {H:Type} {enc:TypeId×Value→H} {w:World} {base:Nat} {sp:Nat→Bool} {held:Bool}
theorem chain {cs a:List Value} {n k m:Nat} (h:(cs.drop n).take k=a) (hm:n+k=m):cs.drop n=a++cs.drop m:=by
 rw [←h,←hm,←List.drop_drop]
 exact (List.take_append_drop k _).symm
theorem trod_slice_one {fuel:Nat} {t:TypeId} {cs:List Value} {x:DataW H×List MemPlace} (hc:cs.length=1) (h:DataW.trod enc Tryz.prog w base sp held fuel t cs=some x) : ∃ v,cs=[v]∧DataW.trod enc Tryz.prog w base sp held fuel t [v]=some x:=by
 match cs,hc with
 | [v],_=>exact ⟨v,rfl,h⟩
end
end Go.Proofs.YtfdfoplmijmnaaaGreatDoor
namespace Go.Proofs.YtfdfoplmijmnaaaGreatDoor
open Go.ChangeShapes Go.WideShapes Go.ChangeAt Go.RowKit
structure SdL where
 kind:UInt8
 refs:Txt
 time:Nat
 text:Txt
 vr:Value
def sdC (e:SdL):List Value:=[u8v e.kind,e.vr, .int .u16 e.time, .string (B e.text)]
def byC (c:UInt8):List Value:=[u8v c]
structure SdOk (w:World) (e:SdL):Prop where
 refs:SliceAt w 1 byC e.vr e.refs
 time:e.time<65536
 text:e.text.length≤9223372036854775807
theorem SdOk.below {w w':World} {e:SdL} (h:SdOk w e) (hb:Below w.heap.size w w'):SdOk w' e:=⟨h.refs.below hb,h.time,h.text⟩
structure Seeds (w:World) (v:Value) (l:List SdL):Prop where
 at_:SliceAt w 4 sdC v l
 each : ∀ e∈l,SdOk w e
theorem Seeds.below {w w':World} {v:Value} {l:List SdL} (h:Seeds w v l) (hb:Below w.heap.size w w'):Seeds w' v l:=⟨h.at_.below hb,fun e he=>(h.each e he).below hb⟩
section
variable {H:Type} {enc:TypeId×Value→H} {w:World} {base:Nat} {sp:Nat→Bool} {held:Bool}
theorem elem_byte (fuel:Nat) (cs:List Value) (x:DataW H×List MemPlace) (h:DataW.trod enc Tryz.prog w base sp held fuel 5 cs=some x) (hl:cs.length=1) : ∃ c:UInt8,cs=byC c∧True:=by
 obtain ⟨n,e,_,w0⟩:=DataW.trod_int Tryz.underlying5 h
 have hb:=bounds_u8 w0
 obtain ⟨k,rfl⟩:=Int.eq_ofNat_of_zero_le hb.1
 refine ⟨UInt8.ofNat k,?_,trivial⟩
 rw [e]
 unfold byC
 rw [u8v_ofNat k (by omega)]
set_option maxRecDepth 200000 in
theorem elem_seed (fuel:Nat) (cs:List Value) (x:DataW H×List MemPlace) (h:DataW.trod enc Tryz.prog w base sp held fuel 88 cs=some x) (hl:cs.length=4) : ∃ r:SdL,cs=sdC r∧SdOk w r:=by
 obtain ⟨ys,n',hn',hy,hlen,hyl,hf⟩:=DataW.trod_struct Tryz.underlying88 h
 have hyl:ys.length=4:=hyl
 have h0:=hf 0 _ rfl
 have h1:=hf 1 _ rfl
 have h2:=hf 2 _ rfl
 have h3:=hf 3 _ rfl
 rw [List.getElem?_eq_getElem (show 0<ys.length by omega)] at h0
 rw [List.getElem?_eq_getElem (show 1<ys.length by omega)] at h1
 rw [List.getElem?_eq_getElem (show 2<ys.length by omega)] at h2
 rw [List.getElem?_eq_getElem (show 3<ys.length by omega)] at h3
 have cU:Tryz.prog.cellsOf 5=1:=by kernel_rfl
 have cB:Tryz.prog.cellsOf 23=1:=by kernel_rfl
 have cT:Tryz.prog.cellsOf 86=1:=by kernel_rfl
 have cS:Tryz.prog.cellsOf 9=1:=by kernel_rfl
 obtain ⟨n0,e0,_,w0⟩:=DataW.trod_int Tryz.underlying5 h0
 obtain ⟨n2,e2,_,w2⟩:=DataW.trod_int Tryz.underlying86 h2
 obtain ⟨s3,e3,_,w3⟩:=DataW.trod_string Tryz.underlying9 h3
 obtain ⟨v1,e1,t1⟩:=trod_slice_one (by
  show ((cs.drop 1).take (Tryz.prog.cellsOf 23)).length=1
  rw [cB,List.length_take,List.length_drop];omega) h1
 obtain ⟨lr,hlr,_⟩:=open_elems byC 1 (by omega) (fun _=>True) Tryz.underlying23 cU (fun y _=>rfl) elem_byte t1
 obtain ⟨a3,rfl⟩:=B_mk s3
 have b0:=bounds_u8 w0
 have b2:=bounds_u16 w2
 obtain ⟨k0,rfl⟩:=Int.eq_ofNat_of_zero_le b0.1
 obtain ⟨k2,rfl⟩:=Int.eq_ofNat_of_zero_le b2.1
 have e0':(cs.drop 0).take 1=[u8v (UInt8.ofNat k0)]:=by rw [u8v_ofNat k0 (by omega),←cU];exact e0
 have e1':(cs.drop 1).take 1=[v1]:=by rw [←cB];exact e1
 have e2':(cs.drop 2).take 1=[.int .u16 k2]:=by rw [←cT];exact e2
 have e3':(cs.drop 3).take 1=[.string (B a3)]:=by rw [←cS];exact e3
 refine ⟨⟨UInt8.ofNat k0,lr,k2,a3,v1⟩,?_,⟨hlr,by show k2<_;omega,by unfold maxLen at w3;rw [size_B] at w3;exact w3⟩⟩
 have:=chain e0' (m:=1) rfl
 rw [List.drop_zero,chain e1' (m:=2) rfl,chain e2' (m:=3) rfl,chain e3' (m:=4) rfl,List.drop_of_length_le (by omega)] at this
 rw [this]
 rfl
end
section
variable {w:World} {g o:Nat} {e:SdL}
theorem sd_refs (h:w.rangeAt g o (sdC e)):w.cell? ⟨g,o+1,none⟩=some e.vr:=h 1 _ rfl
theorem sd_text (h:w.rangeAt g o (sdC e)):w.cell? ⟨g,o+3,none⟩=some (.string (B e.text)):=h 3 _ rfl
end
theorem szSeed : (Tryz.prog.info? 88).map (·.size)=some 4:=by kernel_rfl
/-- What Few tells. -/
def FewB (l:List SdL) (most:Nat) (e:Ending):Prop := ∃ b,e = .returned (.bool b)∧(b=true→l.length≤most ∧ ∀ x∈l,x.refs.length≤10∧x.text.length≤300)
set_option maxRecDepth 100000 in
set_option maxHeartbeats 4000000 in
theorem few_calls11 (l:List SdL) (most:Nat) (hm:most≤1000) (va:Value) (w:World) (h:Seeds w va l):Calls Tryz.prog 21 #[va, .int .i64 most] w fun e w'=>FewB l most e∧Below w.heap.size w w':=by
 have hla:=h.at_.len
 have heach:=h.each
 obtain ⟨A,capa,rfl,ha1,ha2,hata⟩:=h.at_
 clear h
 go_enter Tryz.func21,Tryz.ntmps21
 go_wp2
 go_loopw [5] (fun i wr => ∃ k:Nat,i = .int .i64 k∧k≤l.length∧k≤most∧(∀ j x,j<k→l[j]?=some x→x.refs.length≤10∧x.text.length≤300)∧Below w.heap.size w wr) (fun i _=>l.length-(intOf i).toNat)
 case atStart=>exact ⟨0,rfl,by omega,by omega,fun j x hj=>by omega,Below.refl _ _⟩
 case round=>
  obtain ⟨k,rfl,hk,hkm,hall,hbel⟩:=hrel
  by_cases hlt:k<l.length
  ·have hki:(k:Int)<(l.length:Int):=by omega
   by_cases h20:k<most
   ·have hk2:(k:Int)<(most:Int):=by omega
    obtain ⟨ga,oa,rfl,hga,hca⟩:=hata (by omega)
    obtain ⟨x,hx⟩ : ∃ x,l[k]?=some x:=⟨_,List.getElem?_eq_getElem hlt⟩
    obtain ⟨A2,cap2,hvr,_⟩:=(heach x (List.mem_of_getElem? hx)).refs
    have q1:=sd_refs (rangeAt_below (hca k x hx) hga hbel)
    rw [hvr] at q1
    have q3:=sd_text (rangeAt_below (hca k x hx) hga hbel)
    by_cases hd:x.refs.length≤10
    ·have d1 : ¬ (10:Int)<(x.refs.length:Int):=by omega
     by_cases hd2:x.text.length≤300
     ·have d2 : ¬ (300:Int)<(x.text.length:Int):=by omega
      have hall2 : ∀ j y,j<k+1→l[j]?=some y→y.refs.length≤10∧y.text.length≤300:=fun j y hj hy=>by
       by_cases e:j=k
       ·rw [e,hx] at hy
        injection hy with hy
        rw [←hy];exact ⟨hd,hd2⟩
       ·exact hall j y (by omega) hy
      clear hx hata hca hd hd2 hall heach hvr
      go_wp2
      all_goals try (exfalso;omega)
      go_roundw
      case rel=>exact ⟨k+1,by go_num,by omega,by omega,hall2,hbel⟩
      case measure=>simp [intOf];omega
     ·have d2:(300:Int)<(x.text.length:Int):=by omega
      clear hx hata hca hd hd2 hall heach hvr
      go_wp2
      all_goals try (exfalso;omega)
      go_ret
      exact ⟨⟨false,rfl,fun h=>by cases h⟩,hbel⟩
    ·have d1:(10:Int)<(x.refs.length:Int):=by omega
     clear hx hata hca hd hall heach hvr
     go_wp2
     all_goals try (exfalso;omega)
     go_ret
     exact ⟨⟨false,rfl,fun h=>by cases h⟩,hbel⟩
   ·have hk2 : ¬ (k:Int)<(most:Int):=by omega
    have hno : ¬ (l.length:Int)≤(most:Int):=by omega
    clear hata hall heach
    go_wp2
    all_goals try (exfalso;omega)
    go_ret
    exact ⟨⟨_,rfl,fun h=>by simp at h⟩,hbel⟩
  ·have hki : ¬ (k:Int)<(l.length:Int):=by omega
   have h20:(l.length:Int)≤(most:Int):=by omega
   have hall2:=Lib.hid hall
   clear hata hall heach
   go_wp2
   all_goals try (exfalso;omega)
   go_ret
   refine ⟨⟨_,rfl,fun _=>⟨by omega,fun x hx=>?_⟩⟩,hbel⟩
   obtain ⟨j,hj,rfl⟩:=List.getElem_of_mem hx
   exact hall2.out j _ (by omega) (List.getElem?_eq_getElem hj)
set_option maxRecDepth 100000 in
theorem name_calls11 (k:Nat) (hk:k≤1000) (w:World):Calls Tryz.prog 63 #[.int .i64 k] w fun e w'=>(∃ c:UInt8,e = .returned (.string (B [c])))∧Below w.heap.size w w':=by
 have h1:IntKind.i64.wrap ((97:Int)+(k:Int)%20)=97+(k:Int)%20:=IntWalk.i64_in _ (by omega)
 have hs:=Tryz.str_of_one w ((97:Int)+(k:Int)%20)
 go_enter Tryz.func63,Tryz.ntmps63
 go_wp2
 go_ret
 exact ⟨⟨_,rfl⟩,(Below.refl _ _).alloc (Nat.le_refl _) _⟩
end Go.Proofs.YtfdfoplmijmnaaaGreatDoor
namespace Go.Proofs.YtfdfoplmijmnaaaGreatDoor
open Go.RowKit
attribute [local go_sem ↓] ldvI_eq ldvS_eq stvI_eq
/-- What pick tells: some id. -/
def PickR (e:Ending):Prop := ∃ x b,e = .returned (.tuple #[.agg (u8s x), .bool b])∧x.length=32
set_option maxRecDepth 100000 in
set_option maxHeartbeats 8000000 in
theorem pick_calls {w:World} {vm:Value} {es:List DiL} (h:DocSt w vm es) (ids:List Txt) (hok : ∀ x∈ids,x.length=32) (hil:ids.length≤1000) (vi:Value) (hi:Ids w vi ids) (n:Nat) (hn:n≤100000) (kind:Int) :
 Calls Tryz.prog 62 #[.agg #[vm],vi, .int .i64 n, .int .i64 kind] w fun e w'=>PickR e∧Below w.heap.size w w':=by
 have hzI:=zeroIdV
 have hrb:=fun W=>run_build (P:=Tryz.prog) W _ _ _ built_zId
 have hZ32:(u8s noId).size=32:=by rw [u8s_size,noId_len]
 have hZone:=u8s_one noId
 obtain ⟨W1,hW1⟩ : ∃ W1,w.alloc (.cells #[vm] 30)=W1:=⟨_,rfl⟩
 have s1:Blk W1 w.heap.size 30 #[vm]:=by rw [←hW1];exact Blk.new _ _ _
 have b1:Below w.heap.size w W1:=by rw [←hW1];exact (Below.refl _ _).alloc (Nat.le_refl _) _
 obtain ⟨W2,hW2⟩ : ∃ W2,W1.alloc (.cells (u8s noId) 35)=W2:=⟨_,rfl⟩
 have z2:Blk W2 W1.heap.size 35 (u8s noId):=by rw [←hW2];exact Blk.new _ _ _
 have bb2:Below W1.heap.size W1 W2:=by rw [←hW2];exact (Below.refl _ _).alloc (Nat.le_refl _) _
 have s2:=s1.below bb2 s1.lt
 have b2:=bthen b1 b1.size bb2
 have hsz:(Tryz.prog.info? 35).map (·.size)=some (u8s noId).size:=by rw [hZ32];exact sz32
 have hle:=b1.size
 have hle2:=b2.size
 have hkc:=fun (x:Txt) (hx:x.length=32) W (hW:Below W2.heap.size W2 W)=>docKind_calls (h.below (bthen b2 b2.size hW)) x hx
 have l2:=fun W (hW:Below W2.heap.size W2 W)=>run_ldvS (s2.below hW s2.lt)
 obtain ⟨A,cap,rfl,hcap1,hcap2,hat⟩:=hi
 clear h
 obtain ⟨Z,hZ⟩ : ∃ Z,u8s noId=Z:=⟨_,rfl⟩
 rw [hZ] at z2 hW2 hsz hZ32 hZone hrb hzI
 have hZ:=Lib.hid hZ
 go_enter Tryz.func62,Tryz.ntmps62
 go_wp2
 go_loopw [10,11] (fun vo vi wr => ∃ (k:Nat) (acc:List Txt),vi = .int .i64 k∧k≤ids.length∧acc.length≤k∧Hid (∀ x∈acc,x.length=32)∧OwnIds wr W2.heap.size vo acc∧Below W2.heap.size W2 wr) (fun _ vi _=>ids.length-(intOf vi).toNat)
 case atStart=>exact ⟨0,[],rfl,by omega,by simp,Lib.hid (fun x hx=>by simp at hx),World.ownsRow_nil _ _ _ _,Below.refl _ _⟩
 case round=>
  obtain ⟨k,acc,rfl,hk,hal,hall,hown,hbel⟩:=hrel
  by_cases hlt:k<ids.length
  ·have hki:(k:Int)<(ids.length:Int):=by omega
   obtain ⟨ga,oa,rfl,hga,hca⟩:=hat (by omega)
   obtain ⟨x,hx⟩ : ∃ x,ids[k]?=some x:=⟨_,List.getElem?_eq_getElem hlt⟩
   have hxi:=hok x (List.mem_of_getElem? hx)
   have hlx : ∀ W,Below W2.heap.size W2 W→(ldvI ⟨ga,oa+k*32,none⟩).run Tryz.prog W = .ok (.agg (u8s x)) W:=fun W hW=>by
    have hr:=rangeAt_below (hca k x hx) hga (bthen b2 b2.size hW)
    exact run_ldvI_at (show World.rangeAt W ga (oa+k*32) (u8s x).toList from hr) hxi
   have hkx:=hkc x hxi
   obtain ⟨K,hK⟩ : ∃ K,kindS (es.map (·.st)) x=K:=⟨_,rfl⟩
   simp only [hK] at hkx
   have hkl:acc.length+1≤9223372036854775807:=by omega
   have hm2:(acc.length+1)*32≤140737488355328:=by omega
   have hid32:(idC x).toArray.size=32:=by rw [List.size_toArray,idC_len hxi]
   have hidl:(idC x).toArray.size=1*32:=hid32
   have hid1 : ∀ u∈(idC x).toArray.toList,u.oneCell'=true:=by rw [List.toList_toArray];exact idC_one x
   have hXC:(idC x).toArray=u8s x:=by simp [idC]
   rw [hXC] at hid32 hidl hid1
   have hall2:Hid (∀ y∈acc++[x],y.length=32):=Lib.hid fun y hy=>by
    rcases List.mem_append.1 hy with hy | hy
    ·exact hall.out y hy
    ·rw [List.mem_singleton.1 hy];exact hxi
   have hXC:=Lib.hid hXC
   have hrow:Hid (rowsOf idC (acc++[x])=rowsOf idC acc++(u8s x).toList):=Lib.hid (by rw [rowsOf_append,rowsOf_one];rfl)
   generalize u8s x=XC at *
   clear hx hca hat hok hK hkc
   go_wp2
   refine wp_region_go0 7 (by kernel_rfl) (by kernel_rfl) (by kernel_rfl) (by kernel_rfl) ?_
   simp only [exSp]
   iterate 7 apply Exists.intro
   repeat
    first
     | ((with_reducible apply lx0_ex)
        ·(go_simp;done)
        apply Exists.intro
        apply And.intro
        ·apply Eq.refl
        apply And.intro
        ·intro W hW hD
         have hW2:=hbel.trans (hW.mono hbel.size)
         have q0:=l2 W hW2
         have q1:=hlx W hW2
         have q2:=hkx W hW2
         go_simp
         first
          | rfl
          | (with_reducible exact q2)
        simp only [Act.put,List.setIfInBounds_toArray,List.set_cons_zero,List.set_cons_succ])
     | ((with_reducible apply lx0_pass)
        ·(first | rfl | (go_simp;done))
        ·apply Eq.refl
        simp only [Act.put,List.setIfInBounds_toArray,List.set_cons_zero,List.set_cons_succ])
   refine lx0_nil ?_ fun w5 hW5 hD5=>?_
   ·exact List.nodup_nil
   have b5:=hbel.trans (hW5.mono hbel.size)
   have own5:=own_below hown hW5
   have sz5:=b5.size
   have lx5:=hlx _ b5
   clear hD5 hkx hlx l2
   have kk:=Lib.hid hki
   cases e1:(K==kind)<;>cases e2:(kind==(0:Int))<;>cases e3:(kind==(9:Int))<;>cases e4:decide (K<3)
   all_goals
    go_wp2_with (first
     | ((with_reducible refine lit_slice1 (.tmp 44) Tryz.idsTy XC hid32 (by omega) ?_ ?_);rfl)
     | (at_builtin
        (with_reducible refine lit_append_new (.tmp 40) (.tmp 45) 1 _ Tryz.idsTy own5 XC hidl hid1 hkl hm2 sz5 ?_ ?_ ?_);rfl;rfl
        intro v6 w6 hv6 hb6 hg6 hn6
        have b6:=b5.trans hb6
        clear hg6 hn6))
    go_roundw
    case rel=>first
     | exact ⟨k+1,acc,by go_num,by omega,by omega,hall,own5,b5⟩
     | exact ⟨k+1,acc++[x],by go_num,by omega,by simp;omega,hall2,by unfold OwnIds;rw [List.length_append,hrow.out];exact hv6,b6⟩
    case measure=>simp [intOf];omega
  ·have hki : ¬ (k:Int)<(ids.length:Int):=by omega
   have hz3:=z2.below hbel z2.lt
   have b3:=bthen b2 b2.size hbel
   clear hat hok hkc l2
   cases acc with
   | nil=>
     obtain ⟨A3,c3,rfl⟩:=own_form' hown
     have hl0:(([]:List Txt).length:Int)=0:=rfl
     go_wp2_with (first
      | (refine wpList_store_row rfl 35 (.tmp 8) (.tmp 50) rfl W1.heap.size Z rfl rfl _ _ hz3 hsz rfl hZone ?_))
     refine bodyPost_ret (results_row_tmp rfl _ _ W1.heap.size _ _ _ _ rfl (setRow_heap _ _ _ _ _ _ hz3) Tryz.underlying35 rfl hsz) rfl ⟨⟨noId,_,by rw [hZ.out];rfl,noId_len⟩,below_setRow b3 hle _⟩
   | cons y ys=>
     obtain ⟨m,hm⟩ : ∃ m:Nat,((y::ys).length:Int)-1-(n:Int)%((y::ys).length:Int)=(m:Int):=by
      refine Int.eq_ofNat_of_zero_le ?_
      have:=Int.emod_lt_of_pos (n:Int) (show (0:Int)<((y::ys).length:Int) by simp only [List.length_cons];omega)
      omega
     have hmn:=Int.emod_nonneg (n:Int) (show ((y::ys).length:Int)≠0 by simp only [List.length_cons];omega)
     have hml:m<(y::ys).length:=by omega
     have hL0:0<(y::ys).length:=by simp
     have hLi:(0:Int)<((y::ys).length:Int):=by omega
     have hLn : ¬ ((y::ys).length:Int)=0:=by omega
     have hLb:(((y::ys).length:Int)==0)=false:=by simpa using hLn
     obtain ⟨x,hx⟩ : ∃ x,(y::ys)[m]?=some x:=⟨_,List.getElem?_eq_getElem hml⟩
     have hxi:=hall.out x (List.mem_of_getElem? hx)
     have hsl:=SliceAt.of_own (fun e h=>idC_len (hall.out e h)) hown
     obtain ⟨A3,c3,rfl,hc31,hc32,hat3⟩:=hsl
     obtain ⟨g3,o3,rfl,hg3,hc3⟩:=hat3 hL0
     have hlx:(ldvI ⟨g3,o3+m*32,none⟩).run Tryz.prog wr = .ok (.agg (u8s x)) wr:=run_ldvI_at (show World.rangeAt wr g3 (o3+m*32) (u8s x).toList from hc3 m x hx) hxi
     have hx32:(u8s x).size=32:=by rw [u8s_size,hxi]
     have hxs:(Tryz.prog.info? 35).map (·.size)=some (u8s x).size:=by rw [hx32];exact sz32
     have hxo:=u8s_one x
     have hzx:Z.size=(u8s x).size:=by rw [hZ32,hx32]
     have hmi:(m:Int)<((y::ys).length:Int):=by omega
     have hLm:((y::ys).length:Int)≤1000:=by omega
     generalize (y::ys).length=LN at *
     have hw1:IntKind.i64.wrap ((LN:Int)-1)=(LN:Int)-1:=IntWalk.i64_in _ (by omega)
     have hw2:IntKind.i64.wrap ((n:Int)%(LN:Int))=(n:Int)%(LN:Int):=IntWalk.i64_in _ (by have:=Int.emod_lt_of_pos (n:Int) hLi;omega)
     have hw3:IntKind.i64.wrap ((m:Int))=(m:Int):=IntWalk.i64_in _ (by omega)
     clear hx hc3 hat3 hown hall hal
     go_wp2_with (first
      | (refine wpList_store_row rfl 35 (.tmp 8) (.tmp 61) rfl W1.heap.size (u8s x) rfl rfl _ _ hz3 hxs hzx hxo ?_))
     refine bodyPost_ret (results_row_tmp rfl _ _ W1.heap.size _ _ _ _ rfl (setRow_heap _ _ _ _ _ _ hz3) Tryz.underlying35 rfl hxs) rfl ⟨⟨x,_,rfl,hxi⟩,below_setRow b3 hle _⟩
end Go.Proofs.YtfdfoplmijmnaaaGreatDoor
namespace Go.Proofs.YtfdfoplmijmnaaaGreatDoor
open Go.RowKit
theorem len32 {x:List UInt8} (h:x.length=32) : ∃ f:Fin 32→UInt8,x=List.ofFn f:=
 ⟨fun i=>x[i.1]'(by omega),by
  apply List.ext_getElem
  ·rw [List.length_ofFn,h]
  ·intro i h1 h2
   rw [List.getElem_ofFn]⟩
set_option maxRecDepth 100000 in
theorem built_commit (x:Txt) (hx:x.length=32) (n:Nat) (t:Txt):Tryz.prog.built 70 [(0, .int .i64 3),(3, .agg (u8s x)),(5, .int .u32 n),(6, .string (B t))]=some (objC ⟨3,[],[],x,[],n,t,noId,0,[]⟩ (.slice none 0 0) (.slice none 0 0)).toArray:=by
 obtain ⟨f,rfl⟩:=len32 hx
 kernel_rfl
set_option maxRecDepth 100000 in
theorem built_tag (x:Txt) (hx:x.length=32) (k:Int) (t:Txt):Tryz.prog.built 70 [(0, .int .i64 4),(7, .agg (u8s x)),(8, .int .i64 k),(9, .string (B t))]=some (objC ⟨4,[],[],noId,[],0,[],x,k,t⟩ (.slice none 0 0) (.slice none 0 0)).toArray:=by
 obtain ⟨f,rfl⟩:=len32 hx
 kernel_rfl
theorem built_blob (t:Txt):Tryz.prog.built 70 [(0, .int .i64 1),(1, .string (B t))]=some (objC ⟨1,t,[],noId,[],0,[],noId,0,[]⟩ (.slice none 0 0) (.slice none 0 0)).toArray:=by kernel_rfl
end Go.Proofs.YtfdfoplmijmnaaaGreatDoor
namespace Go.Proofs.YtfdfoplmijmnaaaGreatDoor
open Go.RowKit
attribute [local go_sem ↓] ldvI_eq ldvS_eq stvI_eq ldvO_eq
/-- What make1 tells: some object; its slices are new. -/
def MkR (w:World) (e:Ending) (w':World):Prop := ∃ o A1 A2 k1 k2,e = .returned (.agg (objC o (.slice A1 o.ents.length k1) (.slice A2 o.pars.length k2)).toArray)∧Small o∧ObjOk o∧OwnEnts w' w.heap.size (.slice A1 o.ents.length k1) o.ents∧OwnIds w' w.heap.size (.slice A2 o.pars.length k2) o.pars
theorem MkR.bare {w w':World} (o:ObjL) (he:o.ents=[]) (hp:o.pars=[]) (hs:Small o) (ho:ObjOk o):MkR w (.returned (.agg (objC o (.slice none 0 0) (.slice none 0 0)).toArray)) w':=by
 refine ⟨o,none,none,0,0,?_,hs,ho,?_,?_⟩
 ·rw [he,hp];rfl
 ·rw [he];exact World.ownsRow_nil _ _ _ _
 ·rw [hp];exact World.ownsRow_nil _ _ _ _
def PickV (v:Value):Prop := ∃ x b,v = .tuple #[.agg (u8s x), .bool b]∧x.length=32
theorem kindS_bounds {s:List StL} (n:Txt):0≤kindS s n∧kindS s n≤255:=by
 unfold kindS
 split
 ·split
  ·rename_i o ho
   obtain ⟨c,q,_,hk⟩:=dec_kind ho
   have:=c.toNat_lt
   omega
  ·omega
 ·omega
theorem zeroO_small : Small zeroO:=⟨by decide,by simp [zeroO],by decide,by decide,by decide,by decide⟩
theorem zeroO_ok : ObjOk zeroO:=⟨noId_len,noId_len,by simp [zeroO],by simp [zeroO],by decide,by decide,by decide,by decide,by decide,by decide,by decide,by decide⟩
set_option maxRecDepth 100000 in
set_option maxHeartbeats 8000000 in
theorem make_blob {w:World} {vm:Value} {es:List DiL} (h:DocSt w vm es) (ids:List Txt) (hok : ∀ x∈ids,x.length=32) (hil:ids.length≤1000) (vi:Value) (hi:Ids w vi ids) (x:SdL) (hx:SdOk w x) (hr:x.refs.length≤10) (ht:x.text.length≤300) (hk:(x.kind.toNat:Int)%4=0) :
 Calls Tryz.prog 41 #[.agg #[vm],vi, .agg (sdC x).toArray] w fun e w'=>MkR w e w'∧Below w.heap.size w w':=by
 have hzo:=zeroObj
 have hz72:=zObj_size
 have hzone:zObj.all (·.oneCell')=true:=objC_all zeroO none none 0 0 0 0
 have hsz : ∀ cs:Array Value,cs.size=72→(Tryz.prog.info? 70).map (·.size)=some cs.size:=fun cs h=>by rw [h];exact szObj
 obtain ⟨W1,hW1⟩ : ∃ W1,w.alloc (.cells #[vm] 30)=W1:=⟨_,rfl⟩
 have s1:Blk W1 w.heap.size 30 #[vm]:=by rw [←hW1];exact Blk.new _ _ _
 have b1:Below w.heap.size w W1:=by rw [←hW1];exact (Below.refl _ _).alloc (Nat.le_refl _) _
 obtain ⟨W2,hW2⟩ : ∃ W2,W1.alloc (.cells (sdC x).toArray 88)=W2:=⟨_,rfl⟩
 have d2:Blk W2 W1.heap.size 88 (sdC x).toArray:=by rw [←hW2];exact Blk.new _ _ _
 have bb2:Below W1.heap.size W1 W2:=by rw [←hW2];exact (Below.refl _ _).alloc (Nat.le_refl _) _
 obtain ⟨W3,hW3⟩ : ∃ W3,W2.alloc (.cells zObj 70)=W3:=⟨_,rfl⟩
 have z3:Blk W3 W2.heap.size 70 zObj:=by rw [←hW3];exact Blk.new _ _ _
 have bb3:Below W2.heap.size W2 W3:=by rw [←hW3];exact (Below.refl _ _).alloc (Nat.le_refl _) _
 have b2:=bthen b1 b1.size bb2
 have b3:=bthen b2 b2.size bb3
 have s3:=(s1.below bb2 s1.lt).below bb3 (s1.below bb2 s1.lt).lt
 have d3:=d2.below bb3 d2.lt
 have hle2:w.heap.size≤W2.heap.size:=b2.size
 have hlt0:=s1.lt
 have hlt1:=d2.lt
 have hlt2:=z3.lt
 have fL:=fun W (hW:Below W3.heap.size W3 W)=>run_ldvS (s3.below hW s3.lt)
 have fK : ∀ W,Below W3.heap.size W3 W→W.cell? ⟨W1.heap.size,0,none⟩=some (.int .u8 x.kind.toNat):=fun W hW=>(d3.below hW d3.lt).cell 0
 have fR : ∀ W,Below W3.heap.size W3 W→W.cell? ⟨W1.heap.size,1,none⟩=some x.vr:=fun W hW=>(d3.below hW d3.lt).cell 1
 have fT : ∀ W,Below W3.heap.size W3 W→W.cell? ⟨W1.heap.size,2,none⟩=some (.int .u16 x.time):=fun W hW=>(d3.below hW d3.lt).cell 2
 have fX : ∀ W,Below W3.heap.size W3 W→W.cell? ⟨W1.heap.size,3,none⟩=some (.string (B x.text)):=fun W hW=>(d3.below hW d3.lt).cell 3
 have k3:=fK W3 (Below.refl _ _)
 have hkb:(x.kind.toNat:Int)<256:=by have:=x.kind.toNat_lt;omega
 have hbd:=built_blob x.text
 have hcs:(objC ⟨1,x.text,[],noId,[],0,[],noId,0,[]⟩ (.slice none 0 0) (.slice none 0 0)).toArray.size=72:=by rw [List.size_toArray];exact objC_len ⟨noId_len,noId_len,by simp,by simp,hx.text,by simp,by simp,by simp,by simp,by simp,by simp,by simp⟩ _ _
 have hc1:=objC_all ⟨1,x.text,[],noId,[],0,[],noId,0,[]⟩ none none 0 0 0 0
 have x3:=fX W3 (Below.refl _ _)
 have hfin : ∀ w',MkR w (.returned (.agg (objC ⟨1,x.text,[],noId,[],0,[],noId,0,[]⟩ (.slice none 0 0) (.slice none 0 0)).toArray)) w':=fun w'=>MkR.bare _ rfl rfl ⟨by simp,by simp,by simp,by show x.text.length≤_;omega,by simp,by simp⟩ ⟨noId_len,noId_len,by simp,by simp,hx.text,by simp,by simp,by simp,by simp,by simp,by simp,by simp⟩
 clear h hi hx fL fK fR fT fX hok
 generalize (objC ⟨1,x.text,[],noId,[],0,[],noId,0,[]⟩ (.slice none 0 0) (.slice none 0 0)).toArray=OC at *
 generalize (sdC x).toArray=SC at *
 generalize zObj=ZO at *
 go_enter Tryz.func41,Tryz.ntmps41
 go_wp2_with (first
  | ((with_reducible refine lit_build2 hbd ?_ ?_ ?_);rfl;rfl)
  | (refine wpList_store_row rfl 70 (.tmp 6) (.tmp 165) rfl W2.heap.size OC rfl rfl _ _ z3 (hsz _ hcs) (hz72.trans hcs.symm) hc1 ?_))
 refine bodyPost_ret (results_cell_row rfl _ _ W2.heap.size _ _ _ _ rfl (setRow_heap _ _ _ _ _ _ z3) Tryz.underlying70 rfl (hsz _ hcs)) rfl ⟨hfin _,below_setRow b3 hle2 _⟩
set_option maxRecDepth 100000 in
set_option maxHeartbeats 8000000 in
theorem make_tag {w:World} {vm:Value} {es:List DiL} (h:DocSt w vm es) (ids:List Txt) (hok : ∀ x∈ids,x.length=32) (hil:ids.length≤1000) (vi:Value) (hi:Ids w vi ids) (x:SdL) (hx:SdOk w x) (hr:x.refs.length≤10) (ht:x.text.length≤300) (hk:(x.kind.toNat:Int)%4=3) :
 Calls Tryz.prog 41 #[.agg #[vm],vi, .agg (sdC x).toArray] w fun e w'=>MkR w e w'∧Below w.heap.size w w':=by
 have hzo:=zeroObj
 have hz72:=zObj_size
 have hzone:zObj.all (·.oneCell')=true:=objC_all zeroO none none 0 0 0 0
 have hsz : ∀ cs:Array Value,cs.size=72→(Tryz.prog.info? 70).map (·.size)=some cs.size:=fun cs h=>by rw [h];exact szObj
 obtain ⟨W1,hW1⟩ : ∃ W1,w.alloc (.cells #[vm] 30)=W1:=⟨_,rfl⟩
 have s1:Blk W1 w.heap.size 30 #[vm]:=by rw [←hW1];exact Blk.new _ _ _
 have b1:Below w.heap.size w W1:=by rw [←hW1];exact (Below.refl _ _).alloc (Nat.le_refl _) _
 obtain ⟨W2,hW2⟩ : ∃ W2,W1.alloc (.cells (sdC x).toArray 88)=W2:=⟨_,rfl⟩
 have d2:Blk W2 W1.heap.size 88 (sdC x).toArray:=by rw [←hW2];exact Blk.new _ _ _
 have bb2:Below W1.heap.size W1 W2:=by rw [←hW2];exact (Below.refl _ _).alloc (Nat.le_refl _) _
 obtain ⟨W3,hW3⟩ : ∃ W3,W2.alloc (.cells zObj 70)=W3:=⟨_,rfl⟩
 have z3:Blk W3 W2.heap.size 70 zObj:=by rw [←hW3];exact Blk.new _ _ _
 have bb3:Below W2.heap.size W2 W3:=by rw [←hW3];exact (Below.refl _ _).alloc (Nat.le_refl _) _
 have b2:=bthen b1 b1.size bb2
 have b3:=bthen b2 b2.size bb3
 have s3:=(s1.below bb2 s1.lt).below bb3 (s1.below bb2 s1.lt).lt
 have d3:=d2.below bb3 d2.lt
 have hle2:w.heap.size≤W2.heap.size:=b2.size
 have hlt0:=s1.lt
 have hlt1:=d2.lt
 have hlt2:=z3.lt
 have fL:=fun W (hW:Below W3.heap.size W3 W)=>run_ldvS (s3.below hW s3.lt)
 have fK : ∀ W,Below W3.heap.size W3 W→W.cell? ⟨W1.heap.size,0,none⟩=some (.int .u8 x.kind.toNat):=fun W hW=>(d3.below hW d3.lt).cell 0
 have fR : ∀ W,Below W3.heap.size W3 W→W.cell? ⟨W1.heap.size,1,none⟩=some x.vr:=fun W hW=>(d3.below hW d3.lt).cell 1
 have fT : ∀ W,Below W3.heap.size W3 W→W.cell? ⟨W1.heap.size,2,none⟩=some (.int .u16 x.time):=fun W hW=>(d3.below hW d3.lt).cell 2
 have fX : ∀ W,Below W3.heap.size W3 W→W.cell? ⟨W1.heap.size,3,none⟩=some (.string (B x.text)):=fun W hW=>(d3.below hW d3.lt).cell 3
 have k3:=fK W3 (Below.refl _ _)
 have hkb:(x.kind.toNat:Int)<256:=by have:=x.kind.toNat_lt;omega
 have hsI:(Tryz.prog.info? 35).map (·.size)=some (u8s noId).size:=by rw [u8s_size,noId_len];exact sz32
 have hrb:=fun W=>run_build (P:=Tryz.prog) W _ _ _ built_zObj
 obtain ⟨A,cap,hvr,hcap1,hcap2,hat⟩:=hx.refs
 rw [hvr] at fR
 have r3:=fR W3 (Below.refl _ _)
 have hfz : ∀ w',MkR w (.returned (.agg zObj)) w':=fun w'=>MkR.bare zeroO rfl rfl zeroO_small zeroO_ok
 have hkc:=fun (y:Txt) (hy:y.length=32) W (hW:Below W3.heap.size W3 W)=>docKind_calls (h.below (bthen b3 b3.size hW)) y hy
 rcases Nat.eq_zero_or_pos x.refs.length with hrl | hrl
 ·skip
  have hl0:(x.refs.length:Int)=0:=by omega
  clear h hi hx fL fK fR fT fX hok hkc hat hvr hrl
  generalize (sdC x).toArray=SC at *
  generalize zObj=ZO at *
  go_enter Tryz.func41,Tryz.ntmps41
  go_wp2_with (first
   | (refine wpList_store_row rfl 70 (.tmp 6) (.tmp 128) rfl W2.heap.size ZO rfl rfl _ _ z3 (hsz _ hz72) rfl hzone ?_))
  refine bodyPost_ret (results_cell_row rfl _ _ W2.heap.size _ _ _ _ rfl (setRow_heap _ _ _ _ _ _ z3) Tryz.underlying70 rfl (hsz _ hz72)) rfl ⟨hfz _,below_setRow b3 hle2 _⟩
 ·have hlb:((x.refs.length:Int)==0)=false:=by rw [beq_eq_false_iff_ne];omega
  have hl0 : ¬ (x.refs.length:Int)=0:=by omega
  have hlp:(0:Int)<(x.refs.length:Int):=by omega
  obtain ⟨ga,oa,rfl,hga,hca⟩:=hat (by omega)
  obtain ⟨c0,hc0⟩ : ∃ c,x.refs[0]?=some c:=⟨_,List.getElem?_eq_getElem hrl⟩
  have fB : ∀ W,Below W3.heap.size W3 W→W.cell? ⟨ga,oa,none⟩=some (.int .u8 c0.toNat):=fun W hW=>by
   have:=rangeAt_below (hca 0 c0 hc0) hga (bthen b3 b3.size hW) 0 _ rfl
   simpa [byC,u8v] using this
  have hc0b:(c0.toNat:Int)<256:=by have:=c0.toNat_lt;omega
  have hc0w:IntKind.i64.wrap (c0.toNat:Int)=(c0.toNat:Int):=IntWalk.i64_in _ (by omega)
  have hpk:=fun W (hW:Below W3.heap.size W3 W)=>(pick_calls (h.below (bthen b3 b3.size hW)) ids hok hil vi (hi.below (bthen b3 b3.size hW)) c0.toNat (by omega) 0)
  have fB1:1<x.refs.length → ∃ c1:UInt8, ∀ W,Below W3.heap.size W3 W→W.cell? ⟨ga,oa+1,none⟩=some (.int .u8 c1.toNat):=fun h1=>by
   obtain ⟨c1,hc1⟩ : ∃ c,x.refs[1]?=some c:=⟨_,List.getElem?_eq_getElem h1⟩
   refine ⟨c1,fun W hW=>?_⟩
   have:=rangeAt_below (hca 1 c1 hc1) hga (bthen b3 b3.size hW) 0 _ rfl
   simpa [byC,u8v] using this
  clear h hi hx fK fT fX hok hvr hca hc0 hat
  generalize (sdC x).toArray=SC at *
  generalize zObj=ZO at *
  go_enter Tryz.func41,Tryz.ntmps41
  go_wp2
  refine wp_region_go0 14 (by kernel_rfl) (by kernel_rfl) (by kernel_rfl) (by kernel_rfl) ?_
  simp only [exSp]
  iterate 14 apply Exists.intro
  repeat
   first
    | ((with_reducible apply lx0_ex)
       ·(go_simp;done)
       apply Exists.intro
       apply And.intro
       ·apply Eq.refl
       apply And.intro
       ·intro W hW hD
        have hW2:=hW
        have q0:=fL W hW2
        have q1:=fR W hW2
        have q2:=fB W hW2
        go_simp
        rfl
       simp only [Act.put,List.setIfInBounds_toArray,List.set_cons_zero,List.set_cons_succ])
    | ((with_reducible apply lx0_pass)
       ·(first | rfl | (go_simp;done))
       ·apply Eq.refl
       simp only [Act.put,List.setIfInBounds_toArray,List.set_cons_zero,List.set_cons_succ])
    | ((with_reducible refine lx0_new (fun v _ _=>PickV v) rfl ?_ (stab_pure PickV) ?_ ?_)
       ·(go_simp;done)
       ·intro W hW hD
        have hW2:=hW
        unfold doesAt Oper.wp execOp
        go_simp
        (with_reducible refine (hpk W hW2).mono ?_)
        rintro e w' ⟨⟨y,b,rfl,hy⟩,hb⟩
        exact ⟨hb,fun _ _ _ _=>⟨y,b,rfl,hy⟩⟩
       intro v
       simp only [Act.put,List.setIfInBounds_toArray,List.set_cons_zero,List.set_cons_succ])
    | (first | (with_reducible apply lx_move') | (with_reducible apply lx_assign')
       ·apply Eq.refl
       apply Exists.intro
       apply And.intro
       ·(go_simp;rfl)
       simp only [Act.put,List.setIfInBounds_toArray,List.set_cons_zero,List.set_cons_succ])
    | ((with_reducible apply lx_extr')
       ·apply Eq.refl
       apply Exists.intro
       apply And.intro
       ·(go_simp;rfl)
       refine ⟨fun W hW hD=>?_,?_⟩
       ·obtain ⟨F,y,b,rfl,hy⟩:=hD.at 0 rfl (by kernel_rfl)
        exact ⟨_,rfl,by simp⟩
       simp only [Act.put,List.setIfInBounds_toArray,List.set_cons_zero,List.set_cons_succ])
    | ((with_reducible apply lx_al 35 (u8s noId) zeroIdV)
       ·apply Eq.refl
       intro v
       simp only [Act.put,List.setIfInBounds_toArray,List.set_cons_zero,List.set_cons_succ])
    | ((with_reducible apply lx_st' 11 35 (u8s noId) hsI (by kernel_rfl))
       ·exact rfl
       ·apply Eq.refl
       apply Exists.intro
       apply Exists.intro
       apply And.intro
       ·(go_simp;rfl)
       apply And.intro
       ·(go_simp;rfl)
       refine ⟨?_,fun W hW hD=>?_,?_⟩
       ·first | exact List.Mem.head _ | exact List.Mem.tail _ (List.Mem.head _) | exact List.Mem.tail _ (List.Mem.tail _ (List.Mem.head _)) | exact List.Mem.tail _ (List.Mem.tail _ (List.Mem.tail _ (List.Mem.head _)))
       ·obtain ⟨F,y,b,rfl,hy⟩:=hD.at 1 rfl (by kernel_rfl)
        exact ⟨_,rfl,by rw [u8s_size,u8s_size,hy,noId_len],u8s_one y⟩)
  refine lx0_nil ?_ fun w5 hW5 hD5=>?_
  ·exact (by simp [stsOf])
  obtain ⟨_,y,b,rfl,hy⟩:=hD5 _ (.tail _ (.tail _ (.head _)))
  obtain ⟨_,g,cs,rfl,hcs,hg1,_,hg2⟩:=hD5 _ (.head _)
  obtain rfl:u8s y=cs:=by injection hcs
  clear hcs hD5
  simp only [extr2_0,extr2_1]
  have b5:=bthen b3 b3.size hW5
  have z5:=z3.below hW5 z3.lt
  have hgI:=run_ldvI_at (range_blk hg2) hy
  have r5:=fR _ hW5
  have l5:=fL _ hW5
  have hk5:=hkc y hy _ hW5
  clear hpk hkc
  cases b
  ·clear hk5
   go_wp2_with (first
    | (refine wpList_store_row rfl 70 (.tmp 6) (.tmp 142) rfl W2.heap.size ZO rfl rfl _ _ z5 (hsz _ hz72) rfl hzone ?_))
   refine bodyPost_ret (results_cell_row rfl _ _ W2.heap.size _ _ _ _ rfl (setRow_heap _ _ _ _ _ _ z5) Tryz.underlying70 rfl (hsz _ hz72)) rfl ⟨hfz _,below_setRow b5 hle2 _⟩
  ·obtain ⟨K,hK⟩ : ∃ K,kindS (es.map (·.st)) y=K:=⟨_,rfl⟩
   have hKb:=kindS_bounds (s:=es.map (·.st)) y
   rw [hK] at hKb hk5
   have hk5:=Lib.hid hk5
   have hbd:=fun k=>built_tag y hy k [116]
   have hcs : ∀ k:Int,(objC ⟨4,[],[],noId,[],0,[],y,k,[116]⟩ (.slice none 0 0) (.slice none 0 0)).toArray.size=72:=fun k=>by
    rw [List.size_toArray]
    unfold objC
    simp [u8s_size,noId_len,hy]
   have hc1:=fun k:Int=>objC_all ⟨4,[],[],noId,[],0,[],y,k,[116]⟩ none none 0 0 0 0
   have hfin : ∀ (k:Int) w', -9223372036854775808≤k→k≤9223372036854775807→MkR w (.returned (.agg (objC ⟨4,[],[],noId,[],0,[],y,k,[116]⟩ (.slice none 0 0) (.slice none 0 0)).toArray)) w':=fun k w' h1 h2=>MkR.bare _ rfl rfl ⟨by simp,by simp,by simp,by simp,by simp,by simp⟩ ⟨noId_len,hy,by simp,by simp,by simp,by simp,by simp,by simp,by simp,by simp,h1,h2⟩
   have hfa : ∀ (W:World),Below w5.heap.size w5 W→(ldvI ⟨g,0,none⟩).run Tryz.prog W = .ok (.agg (u8s y)) W:=fun W hW=>run_ldvI_at (range_blk (hg2.below hW hg2.lt)) hy
   have hw4:IntKind.i64.wrap (1+K%4)=1+K%4:=IntWalk.i64_in _ (by omega)
   have hK0:=hKb.1
   have hK1:=hKb.2
   have hfinK:=hfin K
   have hfin4:=hfin (1+K%4)
   have hbdK:Tryz.prog.built 70 [(0, .int .i64 4),(7, .agg (u8s y)),(8, .int .i64 K),(9, .string ⟨#[116]⟩)]=some _:=hbd K
   have hbd4:Tryz.prog.built 70 [(0, .int .i64 4),(7, .agg (u8s y)),(8, .int .i64 (1+K%4)),(9, .string ⟨#[116]⟩)]=some _:=hbd (1+K%4)
   have hcsK:=hcs K
   have hcs4:=hcs (1+K%4)
   have hc1K:=hc1 K
   have hc14:=hc1 (1+K%4)
   clear hbd hcs hc1 hfin hK hKb hgI
   generalize (objC ⟨4,[],[],noId,[],0,[],y,K,[116]⟩ (.slice none 0 0) (.slice none 0 0)).toArray=OK at *
   generalize (objC ⟨4,[],[],noId,[],0,[],y,1+K%4,[116]⟩ (.slice none 0 0) (.slice none 0 0)).toArray=O4 at *
   have hgI:=hfa _ (Below.refl _ _)
   have main:1<x.refs.length ∨ ¬ 1<x.refs.length:=by omega
   rcases main with h1 | h1
   ·have h1i:(1:Int)<(x.refs.length:Int):=by omega
    obtain ⟨c1,f1⟩:=fB1 h1
    cases hc:((c1.toNat:Int)==250)
    all_goals
     go_wp2_with (first
      | ((with_reducible refine hk5.out.mono ?_);rintro e w6 ⟨rfl,hb6⟩
         have b6:=bthen b5 b5.size hb6
         have z6:=z5.below hb6 z5.lt
         have hgI6:=hfa _ hb6
         have r6:=fR _ (bthen hW5 hW5.size hb6)
         have q6:=f1 _ (bthen hW5 hW5.size hb6))
      | ((with_reducible refine lit_build4 hbdK ?_ ?_ ?_ ?_ ?_);rfl;rfl;rfl;rfl)
      | ((with_reducible refine lit_build4 hbd4 ?_ ?_ ?_ ?_ ?_);rfl;rfl;rfl;rfl)
      | (refine wpList_store_row rfl 70 (.tmp 6) (.tmp 162) rfl W2.heap.size OK rfl rfl _ _ z6 (hsz _ hcsK) (hz72.trans hcsK.symm) hc1K ?_)
      | (refine wpList_store_row rfl 70 (.tmp 6) (.tmp 162) rfl W2.heap.size O4 rfl rfl _ _ z6 (hsz _ hcs4) (hz72.trans hcs4.symm) hc14 ?_))
     first
      | refine bodyPost_ret (results_cell_row rfl _ _ W2.heap.size _ _ _ _ rfl (setRow_heap _ _ _ _ _ _ z6) Tryz.underlying70 rfl (hsz _ hcsK)) rfl ⟨hfinK _ (by omega) (by omega),below_setRow b6 hle2 _⟩
      | refine bodyPost_ret (results_cell_row rfl _ _ W2.heap.size _ _ _ _ rfl (setRow_heap _ _ _ _ _ _ z6) Tryz.underlying70 rfl (hsz _ hcs4)) rfl ⟨hfin4 _ (by omega) (by omega),below_setRow b6 hle2 _⟩
   ·have h1i : ¬ (1:Int)<(x.refs.length:Int):=by omega
    go_wp2_with (first
     | ((with_reducible refine hk5.out.mono ?_);rintro e w6 ⟨rfl,hb6⟩
        have b6:=bthen b5 b5.size hb6
        have z6:=z5.below hb6 z5.lt
        have hgI6:=hfa _ hb6
        have r6:=fR _ (bthen hW5 hW5.size hb6))
     | ((with_reducible refine lit_build4 hbdK ?_ ?_ ?_ ?_ ?_);rfl;rfl;rfl;rfl)
     | (refine wpList_store_row rfl 70 (.tmp 6) (.tmp 162) rfl W2.heap.size OK rfl rfl _ _ z6 (hsz _ hcsK) (hz72.trans hcsK.symm) hc1K ?_))
    refine bodyPost_ret (results_cell_row rfl _ _ W2.heap.size _ _ _ _ rfl (setRow_heap _ _ _ _ _ _ z6) Tryz.underlying70 rfl (hsz _ hcsK)) rfl ⟨hfinK _ (by omega) (by omega),below_setRow b6 hle2 _⟩
end Go.Proofs.YtfdfoplmijmnaaaGreatDoor
namespace Go.Proofs.YtfdfoplmijmnaaaGreatDoor
open Go.RowKit
attribute [local go_sem ↓] ldvI_eq ldvS_eq stvI_eq ldvO_eq
set_option maxRecDepth 100000 in
set_option maxHeartbeats 8000000 in
theorem make_commit {w:World} {vm:Value} {es:List DiL} (h:DocSt w vm es) (ids:List Txt) (hok : ∀ x∈ids,x.length=32) (hil:ids.length≤1000) (vi:Value) (hi:Ids w vi ids) (x:SdL) (hx:SdOk w x) (hr:x.refs.length≤10) (ht:x.text.length≤300) (hk:(x.kind.toNat:Int)%4=2) :
 Calls Tryz.prog 41 #[.agg #[vm],vi, .agg (sdC x).toArray] w fun e w'=>MkR w e w'∧Below w.heap.size w w':=by
 have hzo:=zeroObj
 have hz72:=zObj_size
 have hzone:zObj.all (·.oneCell')=true:=objC_all zeroO none none 0 0 0 0
 have hsz : ∀ cs:Array Value,cs.size=72→(Tryz.prog.info? 70).map (·.size)=some cs.size:=fun cs h=>by rw [h];exact szObj
 obtain ⟨W1,hW1⟩ : ∃ W1,w.alloc (.cells #[vm] 30)=W1:=⟨_,rfl⟩
 have s1:Blk W1 w.heap.size 30 #[vm]:=by rw [←hW1];exact Blk.new _ _ _
 have b1:Below w.heap.size w W1:=by rw [←hW1];exact (Below.refl _ _).alloc (Nat.le_refl _) _
 obtain ⟨W2,hW2⟩ : ∃ W2,W1.alloc (.cells (sdC x).toArray 88)=W2:=⟨_,rfl⟩
 have d2:Blk W2 W1.heap.size 88 (sdC x).toArray:=by rw [←hW2];exact Blk.new _ _ _
 have bb2:Below W1.heap.size W1 W2:=by rw [←hW2];exact (Below.refl _ _).alloc (Nat.le_refl _) _
 obtain ⟨W3,hW3⟩ : ∃ W3,W2.alloc (.cells zObj 70)=W3:=⟨_,rfl⟩
 have z3:Blk W3 W2.heap.size 70 zObj:=by rw [←hW3];exact Blk.new _ _ _
 have bb3:Below W2.heap.size W2 W3:=by rw [←hW3];exact (Below.refl _ _).alloc (Nat.le_refl _) _
 have b2:=bthen b1 b1.size bb2
 have b3:=bthen b2 b2.size bb3
 have s3:=(s1.below bb2 s1.lt).below bb3 (s1.below bb2 s1.lt).lt
 have d3:=d2.below bb3 d2.lt
 have hle2:w.heap.size≤W2.heap.size:=b2.size
 have hlt0:=s1.lt
 have hlt1:=d2.lt
 have hlt2:=z3.lt
 have fL:=fun W (hW:Below W3.heap.size W3 W)=>run_ldvS (s3.below hW s3.lt)
 have fK : ∀ W,Below W3.heap.size W3 W→W.cell? ⟨W1.heap.size,0,none⟩=some (.int .u8 x.kind.toNat):=fun W hW=>(d3.below hW d3.lt).cell 0
 have fR : ∀ W,Below W3.heap.size W3 W→W.cell? ⟨W1.heap.size,1,none⟩=some x.vr:=fun W hW=>(d3.below hW d3.lt).cell 1
 have fT : ∀ W,Below W3.heap.size W3 W→W.cell? ⟨W1.heap.size,2,none⟩=some (.int .u16 x.time):=fun W hW=>(d3.below hW d3.lt).cell 2
 have fX : ∀ W,Below W3.heap.size W3 W→W.cell? ⟨W1.heap.size,3,none⟩=some (.string (B x.text)):=fun W hW=>(d3.below hW d3.lt).cell 3
 have k3:=fK W3 (Below.refl _ _)
 have hkb:(x.kind.toNat:Int)<256:=by have:=x.kind.toNat_lt;omega
 have hsI:(Tryz.prog.info? 35).map (·.size)=some (u8s noId).size:=by rw [u8s_size,noId_len];exact sz32
 have hrb:=fun W=>run_build (P:=Tryz.prog) W _ _ _ built_zObj
 have hzI:=zeroIdV
 have hZ32:(u8s noId).size=32:=by rw [u8s_size,noId_len]
 obtain ⟨A,cap,hvr,hcap1,hcap2,hat⟩:=hx.refs
 rw [hvr] at fR
 have htm:=hx.time
 have htw:IntKind.i64.wrap (x.time:Int)=(x.time:Int):=IntWalk.i64_in _ (by omega)
 have htu:IntKind.u32.wrap (x.time:Int)=(x.time:Int):=by
  unfold IntKind.wrap
  simp [IntKind.bits,IntKind.signed]
  omega
 have t3:=fT W3 (Below.refl _ _)
 have l3:=fL W3 (Below.refl _ _)
 have hp2:=Lib.hid (pick_calls (h.below b3) ids hok hil vi (hi.below b3) x.time (by omega) 2)
 have hfz : ∀ w',MkR w (.returned (.agg zObj)) w':=fun w'=>MkR.bare zeroO rfl rfl zeroO_small zeroO_ok
 have hpk:=fun (c:UInt8) W (hW:Below W3.heap.size W3 W)=>(pick_calls (h.below (bthen b3 b3.size hW)) ids hok hil vi (hi.below (bthen b3 b3.size hW)) c.toNat (by have:=c.toNat_lt;omega) 3)
 have fBk : ∀ k,k<x.refs.length → ∃ (ga oa:Nat) (c:UInt8),A=some ⟨ga,oa,none⟩ ∧ ∀ W,Below W3.heap.size W3 W→W.cell? ⟨ga,oa+k,none⟩=some (.int .u8 c.toNat):=fun k hk=>by
  obtain ⟨ga,oa,rfl,hga,hca⟩:=hat (by omega)
  refine ⟨ga,oa,x.refs[k],rfl,fun W hW=>?_⟩
  have:=rangeAt_below (hca k _ (List.getElem?_eq_getElem hk)) hga (bthen b3 b3.size hW) 0 _ rfl
  simpa [byC,u8v] using this
 have htx:=hx.text
 clear h hi hx fK hok hat hvr
 generalize (sdC x).toArray=SC at *
 obtain ⟨ZO,hZO⟩ : ∃ ZO,zObj=ZO:=⟨_,rfl⟩
 rw [hZO] at hzo hz72 hzone hW3 z3 hrb hfz
 go_enter Tryz.func41,Tryz.ntmps41
 go_upto_region 13 with (first
  | ((with_reducible refine hp2.out.mono ?_);rintro e w4 ⟨⟨y,b,rfl,hy⟩,hb4⟩
     have b4:=bthen b3 b3.size hb4
     have z4:=z3.below hb4 z3.lt
     have hy32:(u8s y).size=32:=by rw [u8s_size,hy]
     have hyo:=u8s_one y)
  | ((with_reducible refine lit_new 35 (.tmp 11) (.tmp 72) (u8s y) 32 sz32 hy32 hyo _ ?_ ?_ ?_ ?_)
     ·first | exact hZ32 | rfl
     ·rfl
     ·rfl
     intro W5 n5 hbl5
     have b5:=bthen b4 b4.size hbl5
     have b35:=bthen hb4 hb4.size hbl5
     have z5:=z4.below hbl5 z4.lt
     have ln5:=run_ldvI_at (range_blk n5) hy))
 cases b
 ·clear hpk fBk fL fR
  go_wp2_with (first
   | (refine wpList_store_row rfl 70 (.tmp 6) (.tmp 76) rfl W2.heap.size ZO rfl rfl _ _ z5 (hsz _ hz72) rfl hzone ?_))
  refine bodyPost_ret (results_cell_row rfl _ _ W2.heap.size _ _ _ _ rfl (setRow_heap _ _ _ _ _ _ z5) Tryz.underlying70 rfl (hsz _ hz72)) rfl ⟨hfz _,below_setRow b5 hle2 _⟩
 ·have hbd:=built_commit y hy x.time x.text
  have hcs:(objC ⟨3,[],[],y,[],x.time,x.text,noId,0,[]⟩ (.slice none 0 0) (.slice none 0 0)).toArray.size=72:=by
   rw [List.size_toArray]
   unfold objC
   simp [u8s_size,noId_len,hy]
  have hc1:=objC_all ⟨3,[],[],y,[],x.time,x.text,noId,0,[]⟩ none none 0 0 0 0
  have t5:=fT _ b35
  have x5:=fX _ b35
  obtain ⟨OC,hOC⟩ : ∃ OC,(objC ⟨3,[],[],y,[],x.time,x.text,noId,0,[]⟩ (.slice none 0 0) (.slice none 0 0)).toArray=OC:=⟨_,rfl⟩
  rw [hOC] at hbd hcs hc1
  have hOC:=Lib.hid hOC
  go_wp2_with (first
   | ((with_reducible refine lit_build4 hbd ?_ ?_ ?_ ?_ ?_);rfl;rfl;rfl;rfl)
   | ((with_reducible refine lit_new 70 (.tmp 13) (.tmp 83) OC 72 szObj hcs hc1 _ ?_ ?_ ?_ ?_)
      ·first | exact hz72 | rfl
      ·rfl
      ·rfl
      intro W6 n6 hbl6
      have b36:=bthen b35 b35.size hbl6))
  have hgs:W3.heap.size≤W5.heap.size:=b35.size
  have hO6:ObjB W6 W5.heap.size ⟨3,[],[],y,[],x.time,x.text,noId,0,[]⟩ (.slice none 0 0) (.slice none 0 0):=⟨by rw [hOC.out];exact n6,hy,noId_len⟩
  clear n6 hbd hcs hc1 t5 x5 ln5 n5 hp2 l3 t3 z5 z4 hrb hfz fT fX
  go_loopw [14] (fun vi wr => ∃ (k:Nat) (acc:List Txt) (vp:Value),vi = .int .i64 k∧k≤x.refs.length∧k≤4∧acc.length≤k∧Hid (∀ x∈acc,x.length=32)∧ObjB wr W5.heap.size ⟨3,[],[],y,acc,x.time,x.text,noId,0,[]⟩ (.slice none 0 0) vp∧OwnIds wr W3.heap.size vp acc∧Below W3.heap.size W3 wr) (fun vi _=>x.refs.length-(intOf vi).toNat)
  case atStart=>exact ⟨0,[],_,rfl,by omega,by omega,by simp,Lib.hid (fun x hx=>by simp at hx),hO6,World.ownsRow_nil _ _ _ _,b36⟩
  case round=>
   obtain ⟨k,acc,vp,rfl,hk,hk4,hal,hall,hO,hown,hbel⟩:=hrel
   have r6:=fR _ hbel
   by_cases hlt:k<x.refs.length
   ·have hki:(k:Int)<(x.refs.length:Int):=by omega
    by_cases hk5:k<4
    ·have hki4:(k:Int)<4:=by omega
     obtain ⟨ga,oa,c,rfl,fB⟩:=fBk k hlt
     have hcb:(c.toNat:Int)<256:=by have:=c.toNat_lt;omega
     have hcw:IntKind.i64.wrap (c.toNat:Int)=(c.toNat:Int):=IntWalk.i64_in _ (by omega)
     have hpk:=hpk c
     clear fBk
     go_wp2
     refine wp_region_go0 15 (by kernel_rfl) (by kernel_rfl) (by kernel_rfl) (by kernel_rfl) ?_
     simp only [exSp]
     iterate 15 apply Exists.intro
     repeat
      first
       | ((with_reducible apply lx0_ex)
          ·(go_simp;done)
          apply Exists.intro
          apply And.intro
          ·apply Eq.refl
          apply And.intro
          ·intro W hW hD
           have hW2:=hbel.trans (hW.mono hbel.size)
           have q0:=fL W hW2
           have q1:=fR W hW2
           have q2:=fB W hW2
           go_simp
           rfl
          simp only [Act.put,List.setIfInBounds_toArray,List.set_cons_zero,List.set_cons_succ])
       | ((with_reducible apply lx0_pass)
          ·(first | rfl | (go_simp;done))
          ·apply Eq.refl
          simp only [Act.put,List.setIfInBounds_toArray,List.set_cons_zero,List.set_cons_succ])
       | ((with_reducible refine lx0_new (fun v _ _=>PickV v) rfl ?_ (stab_pure PickV) ?_ ?_)
          ·(go_simp;done)
          ·intro W hW hD
           have hW2:=hbel.trans (hW.mono hbel.size)
           unfold doesAt Oper.wp execOp
           go_simp
           (with_reducible refine (hpk W hW2).mono ?_)
           rintro e w' ⟨⟨y,b,rfl,hy⟩,hb⟩
           exact ⟨hb,fun _ _ _ _=>⟨y,b,rfl,hy⟩⟩
          intro v
          simp only [Act.put,List.setIfInBounds_toArray,List.set_cons_zero,List.set_cons_succ])
       | (first | (with_reducible apply lx_move') | (with_reducible apply lx_assign')
          ·apply Eq.refl
          apply Exists.intro
          apply And.intro
          ·(go_simp;rfl)
          simp only [Act.put,List.setIfInBounds_toArray,List.set_cons_zero,List.set_cons_succ])
       | ((with_reducible apply lx_extr')
          ·apply Eq.refl
          apply Exists.intro
          apply And.intro
          ·(go_simp;rfl)
          refine ⟨fun W hW hD=>?_,?_⟩
          ·obtain ⟨F,y,b,rfl,hy⟩:=hD.at 0 rfl (by kernel_rfl)
           exact ⟨_,rfl,by simp⟩
          simp only [Act.put,List.setIfInBounds_toArray,List.set_cons_zero,List.set_cons_succ])
       | ((with_reducible apply lx_al 35 (u8s noId) zeroIdV)
          ·apply Eq.refl
          intro v
          simp only [Act.put,List.setIfInBounds_toArray,List.set_cons_zero,List.set_cons_succ])
       | ((with_reducible apply lx_st' 12 35 (u8s noId) hsI (by kernel_rfl))
          ·exact rfl
          ·apply Eq.refl
          apply Exists.intro
          apply Exists.intro
          apply And.intro
          ·(go_simp;rfl)
          apply And.intro
          ·(go_simp;rfl)
          refine ⟨?_,fun W hW hD=>?_,?_⟩
          ·first | exact List.Mem.head _ | exact List.Mem.tail _ (List.Mem.head _) | exact List.Mem.tail _ (List.Mem.tail _ (List.Mem.head _)) | exact List.Mem.tail _ (List.Mem.tail _ (List.Mem.tail _ (List.Mem.head _)))
          ·obtain ⟨F,y,b,rfl,hy⟩:=hD.at 1 rfl (by kernel_rfl)
           exact ⟨_,rfl,by rw [u8s_size,u8s_size,hy,noId_len],u8s_one y⟩)
     refine lx0_nil ?_ fun w7 hW7 hD7=>?_
     ·exact (by simp [stsOf])
     obtain ⟨_,y7,b,rfl,hy7⟩:=hD7 _ (.tail _ (.tail _ (.head _)))
     obtain ⟨_,g,cs,rfl,hcs,hg1,_,hg2⟩:=hD7 _ (.head _)
     obtain rfl:u8s y7=cs:=by injection hcs
     clear hcs hD7
     simp only [extr2_0,extr2_1]
     have b7:=hbel.trans (hW7.mono hbel.size)
     have own7:=own_below hown hW7
     have hO7:=hO.below hW7
     have hgI:=run_ldvI_at (range_blk hg2) hy7
     clear hpk fB hcw
     cases b
     ·go_wp2
      go_roundw
      case rel=>exact ⟨k+1,acc,vp,by go_num,by omega,by omega,by omega,hall,hO7,own7,b7⟩
      case measure=>simp [intOf];omega
     ·obtain ⟨A3,c3,rfl⟩:=own_form' hown
      have hpc:w7.cell? ⟨W5.heap.size,35,none⟩=some (.slice A3 acc.length c3):=hO7.pars
      by_cases ha:acc.length=k
      ·have hai:((acc.length:Int)==(k:Int))=true:=by simp;omega
       clear ha
       have hid32:(idC y7).toArray.size=32:=by rw [List.size_toArray,idC_len hy7]
       have hidl:(idC y7).toArray.size=1*32:=hid32
       have hid1 : ∀ u∈(idC y7).toArray.toList,u.oneCell'=true:=by rw [List.toList_toArray];exact idC_one y7
       have hXC:(idC y7).toArray=u8s y7:=by simp [idC]
       rw [hXC] at hid32 hidl hid1
       have hall2:Hid (∀ z∈acc++[y7],z.length=32):=Lib.hid fun z hz=>by
        rcases List.mem_append.1 hz with hz | hz
        ·exact hall.out z hz
        ·rw [List.mem_singleton.1 hz];exact hy7
       have hrow:Hid (rowsOf idC (acc++[y7])=rowsOf idC acc++(u8s y7).toList):=Lib.hid (by rw [rowsOf_append,rowsOf_one];rfl)
       have hkl:acc.length+1≤9223372036854775807:=by omega
       have hm2:(acc.length+1)*32≤140737488355328:=by omega
       have sz7:=b7.size
       have hgO:=own_blk_ne own7 hO7.blk (by decide)
       clear hXC
       generalize u8s y7=XC at *
       go_wp2_with (first
        | ((with_reducible refine lit_slice1 (.tmp 117) Tryz.idsTy XC hid32 (by omega) ?_ ?_);rfl)
        | (at_builtin
           (with_reducible refine lit_append_new (.tmp 116) (.tmp 118) 1 _ Tryz.idsTy own7 XC hidl hid1 hkl hm2 sz7 ?_ ?_ ?_);rfl;rfl
           intro v8 w8 hv8 hb8 hg8 hn8
           have b8:=b7.trans hb8
           have hO8:ObjB w8 W5.heap.size ⟨3,[],[],y,acc,x.time,x.text,noId,0,[]⟩ (.slice none 0 0) (.slice A3 acc.length c3):=⟨hO7.blk.grown hg8 hgO,hO7.tr,hO7.ta⟩
           have hf8:=hO8.fr 35
           have hp8:=hO8.pars
           obtain ⟨A8,c8,rfl⟩:=own_form' hv8
           clear hg8 hn8))
       have hne8:=own_blk_ne hv8 hO8.blk (by decide)
       have own9:OwnIds (w8.setCell ⟨W5.heap.size,35,none⟩ (.slice A8 (acc.length+1) c8)) W3.heap.size (.slice A8 (acc.length+1) c8) (acc++[y7]):=by
        unfold OwnIds
        rw [List.length_append,hrow.out]
        exact own_same hv8 fun k hk=>Below.heap_setCell _ _ _ _ (fun e=>hne8 (by rw [hk];exact congrArg some e.symm))
       go_roundw
       case rel=>exact ⟨k+1,acc++[y7],_,by go_num,by omega,by omega,by simp;omega,hall2,hO8.setPars _ _,own9,b8.setCell hgs _⟩
       case measure=>simp [intOf];omega
      ·have hai:((acc.length:Int)==(k:Int))=false:=by rw [beq_eq_false_iff_ne];omega
       go_wp2
       go_roundw
       case rel=>exact ⟨k+1,acc,_,by go_num,by omega,by omega,by omega,hall,hO7,own7,b7⟩
       case measure=>simp [intOf];omega
    ·have hki4 : ¬ (k:Int)<4:=by omega
     clear fBk hpk
     obtain ⟨A3,c3,rfl⟩:=own_form' hown
     have hz9:=z3.below hbel z3.lt
     have hokO:ObjOk ⟨3,[],[],y,acc,x.time,x.text,noId,0,[]⟩:=⟨hy,noId_len,by simp,hall.out,by simp,htx,by simp,by show x.time<_;omega,by simp,by simp,by simp,by simp⟩
     have ld:=run_ldvO hO hokO
     have hcs:(objC ⟨3,[],[],y,acc,x.time,x.text,noId,0,[]⟩ (.slice none 0 0) (.slice A3 acc.length c3)).toArray.size=72:=by rw [List.size_toArray];exact objC_len hokO _ _
     have hc1:=objC_all ⟨3,[],[],y,acc,x.time,x.text,noId,0,[]⟩ none A3 0 0 acc.length c3
     have hfin:Hid (∀ w',OwnIds w' W3.heap.size (.slice A3 acc.length c3) acc→MkR w (.returned (.agg (objC ⟨3,[],[],y,acc,x.time,x.text,noId,0,[]⟩ (.slice none 0 0) (.slice A3 acc.length c3)).toArray)) w'):=Lib.hid fun w' ho=>⟨_,none,A3,0,c3,rfl,⟨by simp,by simp,by show acc.length≤_;omega,by simp,by show x.text.length≤_;omega,by simp⟩,hokO,World.ownsRow_nil _ _ _ _,own_low' ho b3.size⟩
     have b9:=bthen b3 b3.size hbel
     generalize (objC ⟨3,[],[],y,acc,x.time,x.text,noId,0,[]⟩ (.slice none 0 0) (.slice A3 acc.length c3)).toArray=OR at *
     go_wp2_with (first
      | (refine wpList_store_row rfl 70 (.tmp 6) (.tmp 121) rfl W2.heap.size OR rfl rfl _ _ hz9 (hsz _ hcs) (hz72.trans hcs.symm) hc1 ?_))
     refine bodyPost_ret (results_cell_row rfl _ _ W2.heap.size _ _ _ _ rfl (setRow_heap _ _ _ _ _ _ hz9) Tryz.underlying70 rfl (hsz _ hcs)) rfl ⟨hfin.out _ (own_row hown hlt2 OR),below_setRow b9 hle2 _⟩
   ·have hki : ¬ (k:Int)<(x.refs.length:Int):=by omega
    clear fBk hpk
    obtain ⟨A3,c3,rfl⟩:=own_form' hown
    have hz9:=z3.below hbel z3.lt
    have hokO:ObjOk ⟨3,[],[],y,acc,x.time,x.text,noId,0,[]⟩:=⟨hy,noId_len,by simp,hall.out,by simp,htx,by simp,by show x.time<_;omega,by simp,by simp,by simp,by simp⟩
    have ld:=run_ldvO hO hokO
    have hcs:(objC ⟨3,[],[],y,acc,x.time,x.text,noId,0,[]⟩ (.slice none 0 0) (.slice A3 acc.length c3)).toArray.size=72:=by rw [List.size_toArray];exact objC_len hokO _ _
    have hc1:=objC_all ⟨3,[],[],y,acc,x.time,x.text,noId,0,[]⟩ none A3 0 0 acc.length c3
    have hfin:Hid (∀ w',OwnIds w' W3.heap.size (.slice A3 acc.length c3) acc→MkR w (.returned (.agg (objC ⟨3,[],[],y,acc,x.time,x.text,noId,0,[]⟩ (.slice none 0 0) (.slice A3 acc.length c3)).toArray)) w'):=Lib.hid fun w' ho=>⟨_,none,A3,0,c3,rfl,⟨by simp,by simp,by show acc.length≤_;omega,by simp,by show x.text.length≤_;omega,by simp⟩,hokO,World.ownsRow_nil _ _ _ _,own_low' ho b3.size⟩
    have b9:=bthen b3 b3.size hbel
    generalize (objC ⟨3,[],[],y,acc,x.time,x.text,noId,0,[]⟩ (.slice none 0 0) (.slice A3 acc.length c3)).toArray=OR at *
    go_wp2_with (first
     | (refine wpList_store_row rfl 70 (.tmp 6) (.tmp 121) rfl W2.heap.size OR rfl rfl _ _ hz9 (hsz _ hcs) (hz72.trans hcs.symm) hc1 ?_))
    refine bodyPost_ret (results_cell_row rfl _ _ W2.heap.size _ _ _ _ rfl (setRow_heap _ _ _ _ _ _ hz9) Tryz.underlying70 rfl (hsz _ hcs)) rfl ⟨hfin.out _ (own_row hown hlt2 OR),below_setRow b9 hle2 _⟩
end Go.Proofs.YtfdfoplmijmnaaaGreatDoor
namespace Go.Proofs.YtfdfoplmijmnaaaGreatDoor
open Go.RowKit
attribute [local go_sem ↓] ldvI_eq ldvS_eq stvI_eq ldvO_eq
def NameV (v:Value):Prop := ∃ c:UInt8,v = .string (B [c])
structure EntS (e:EntL):Prop where
 id:e.id.length=32
 name:e.name.length=1
 k0:0≤e.kind
 k1:e.kind≤255
theorem EntS.ok {e:EntL} (h:EntS e):EntOk e:=⟨h.id,by have:=h.name;omega,by have:=h.k0;omega,by have:=h.k1;omega⟩
def oT : ObjL:=⟨2,[],[],noId,[],0,[],noId,0,[]⟩
def oTC (ve:Value):Array Value:=(objC oT ve (.slice none 0 0)).toArray
theorem entC_lenS {y:Txt} (hy:y.length=32) {n:Txt} {K:Int}:(entC ⟨n,K,y⟩).length=34:=by
 unfold entC
 simp [u8s_size,hy]
set_option maxRecDepth 100000 in
theorem built_ent3 (n:Txt) (k:Int) (x:Txt) (hx:x.length=32):Tryz.prog.built 120 [(0, .string (B n)),(1, .int .i64 k),(2, .agg (u8s x))]=some (entC ⟨n,k,x⟩).toArray:=by
 obtain ⟨f,rfl⟩:=len32 hx
 kernel_rfl
set_option maxRecDepth 100000 in
set_option maxHeartbeats 8000000 in
theorem make_tree {w:World} {vm:Value} {es:List DiL} (h:DocSt w vm es) (ids:List Txt) (hok : ∀ x∈ids,x.length=32) (hil:ids.length≤1000) (vi:Value) (hi:Ids w vi ids) (x:SdL) (hx:SdOk w x) (hr:x.refs.length≤10) (ht:x.text.length≤300) (hk:(x.kind.toNat:Int)%4=1) :
 Calls Tryz.prog 41 #[.agg #[vm],vi, .agg (sdC x).toArray] w fun e w'=>MkR w e w'∧Below w.heap.size w w':=by
 have hzo:=zeroObj
 have hz72:=zObj_size
 have hzone:zObj.all (·.oneCell')=true:=objC_all zeroO none none 0 0 0 0
 have hsz : ∀ cs:Array Value,cs.size=72→(Tryz.prog.info? 70).map (·.size)=some cs.size:=fun cs h=>by rw [h];exact szObj
 obtain ⟨W1,hW1⟩ : ∃ W1,w.alloc (.cells #[vm] 30)=W1:=⟨_,rfl⟩
 have s1:Blk W1 w.heap.size 30 #[vm]:=by rw [←hW1];exact Blk.new _ _ _
 have b1:Below w.heap.size w W1:=by rw [←hW1];exact (Below.refl _ _).alloc (Nat.le_refl _) _
 obtain ⟨W2,hW2⟩ : ∃ W2,W1.alloc (.cells (sdC x).toArray 88)=W2:=⟨_,rfl⟩
 have d2:Blk W2 W1.heap.size 88 (sdC x).toArray:=by rw [←hW2];exact Blk.new _ _ _
 have bb2:Below W1.heap.size W1 W2:=by rw [←hW2];exact (Below.refl _ _).alloc (Nat.le_refl _) _
 obtain ⟨W3,hW3⟩ : ∃ W3,W2.alloc (.cells zObj 70)=W3:=⟨_,rfl⟩
 have z3:Blk W3 W2.heap.size 70 zObj:=by rw [←hW3];exact Blk.new _ _ _
 have bb3:Below W2.heap.size W2 W3:=by rw [←hW3];exact (Below.refl _ _).alloc (Nat.le_refl _) _
 have b2:=bthen b1 b1.size bb2
 have b3:=bthen b2 b2.size bb3
 have s3:=(s1.below bb2 s1.lt).below bb3 (s1.below bb2 s1.lt).lt
 have d3:=d2.below bb3 d2.lt
 have hle2:w.heap.size≤W2.heap.size:=b2.size
 have hlt0:=s1.lt
 have hlt1:=d2.lt
 have hlt2:=z3.lt
 have fL:=fun W (hW:Below W3.heap.size W3 W)=>run_ldvS (s3.below hW s3.lt)
 have fK : ∀ W,Below W3.heap.size W3 W→W.cell? ⟨W1.heap.size,0,none⟩=some (.int .u8 x.kind.toNat):=fun W hW=>(d3.below hW d3.lt).cell 0
 have fR : ∀ W,Below W3.heap.size W3 W→W.cell? ⟨W1.heap.size,1,none⟩=some x.vr:=fun W hW=>(d3.below hW d3.lt).cell 1
 have fT : ∀ W,Below W3.heap.size W3 W→W.cell? ⟨W1.heap.size,2,none⟩=some (.int .u16 x.time):=fun W hW=>(d3.below hW d3.lt).cell 2
 have fX : ∀ W,Below W3.heap.size W3 W→W.cell? ⟨W1.heap.size,3,none⟩=some (.string (B x.text)):=fun W hW=>(d3.below hW d3.lt).cell 3
 have k3:=fK W3 (Below.refl _ _)
 have hkb:(x.kind.toNat:Int)<256:=by have:=x.kind.toNat_lt;omega
 have hsI:(Tryz.prog.info? 35).map (·.size)=some (u8s noId).size:=by rw [u8s_size,noId_len];exact sz32
 obtain ⟨A,cap,hvr,hcap1,hcap2,hat⟩:=hx.refs
 rw [hvr] at fR
 have hkc:=fun (y:Txt) (hy:y.length=32) W (hW:Below W3.heap.size W3 W)=>docKind_calls (h.below (bthen b3 b3.size hW)) y hy
 have hpk:=fun (c:UInt8) W (hW:Below W3.heap.size W3 W)=>(pick_calls (h.below (bthen b3 b3.size hW)) ids hok hil vi (hi.below (bthen b3 b3.size hW)) c.toNat (by have:=c.toNat_lt;omega) 9)
 have fBk : ∀ k,k<x.refs.length → ∃ (ga oa:Nat) (c:UInt8),A=some ⟨ga,oa,none⟩ ∧ ∀ W,Below W3.heap.size W3 W→W.cell? ⟨ga,oa+k,none⟩=some (.int .u8 c.toNat):=fun k hk=>by
  obtain ⟨ga,oa,rfl,hga,hca⟩:=hat (by omega)
  refine ⟨ga,oa,x.refs[k],rfl,fun W hW=>?_⟩
  have:=rangeAt_below (hca k _ (List.getElem?_eq_getElem hk)) hga (bthen b3 b3.size hW) 0 _ rfl
  simpa [byC,u8v] using this
 clear h hi hx fK fT fX hok hat hvr
 generalize (sdC x).toArray=SC at *
 obtain ⟨ZO,hZO⟩ : ∃ ZO,zObj=ZO:=⟨_,rfl⟩
 rw [hZO] at hzo hz72 hzone hW3 z3
 have hbd:=built_kobj 2
 have hcs:(oTC (.slice none 0 0)).size=72:=rfl
 have hc1:(oTC (.slice none 0 0)).all (·.oneCell')=true:=objC_all oT none none 0 0 0 0
 have hbd:Tryz.prog.built 70 [(0, .int .i64 2)]=some (oTC (.slice none 0 0)):=hbd
 obtain ⟨OC,hOC⟩ : ∃ OC,oTC (.slice none 0 0)=OC:=⟨_,rfl⟩
 rw [hOC] at hbd hcs hc1
 have hOC:=Lib.hid hOC
 go_enter Tryz.func41,Tryz.ntmps41
 go_wp2_with (first
  | ((with_reducible refine lit_build1 hbd ?_ ?_);rfl)
  | ((with_reducible refine lit_new 70 (.tmp 7) (.tmp 25) OC 72 szObj hcs hc1 _ ?_ ?_ ?_ ?_)
     ·first | exact hz72 | rfl
     ·rfl
     ·rfl
     intro W4 n4 b34))
 have hO4:Blk W4 W3.heap.size 70 (oTC (.slice none 0 0)):=by rw [hOC.out];exact n4
 clear n4 hbd hcs hc1
 go_loopw [8] (fun vi wr => ∃ (k:Nat) (acc:List EntL) (ve:Value),vi = .int .i64 k∧k≤x.refs.length∧k≤5∧acc.length≤k∧Hid (∀ e∈acc,EntS e)∧Blk wr W3.heap.size 70 (oTC ve)∧OwnEnts wr W3.heap.size ve acc∧Below W3.heap.size W3 wr) (fun vi _=>x.refs.length-(intOf vi).toNat)
 case atStart=>exact ⟨0,[],_,rfl,by omega,by omega,by simp,Lib.hid (fun x hx=>by simp at hx),hO4,World.ownsRow_nil _ _ _ _,b34⟩
 case round=>
  obtain ⟨k,acc,ve,rfl,hk,hk5,hal,hall,hO,hown,hbel⟩:=hrel
  have r6:=fR _ hbel
  by_cases hlt:k<x.refs.length
  ·have hki:(k:Int)<(x.refs.length:Int):=by omega
   by_cases hk6:k<5
   ·have hki5:(k:Int)<5:=by omega
    obtain ⟨ga,oa,c,rfl,fB⟩:=fBk k hlt
    have hcb:(c.toNat:Int)<256:=by have:=c.toNat_lt;omega
    have hcw:IntKind.i64.wrap (c.toNat:Int)=(c.toNat:Int):=IntWalk.i64_in _ (by omega)
    have hpk:=hpk c
    clear fBk
    go_wp2
    refine wp_region_go0 15 (by kernel_rfl) (by kernel_rfl) (by kernel_rfl) (by kernel_rfl) ?_
    simp only [exSp]
    iterate 15 apply Exists.intro
    repeat
     first
      | ((with_reducible apply lx0_ex)
         ·(go_simp;done)
         apply Exists.intro
         apply And.intro
         ·apply Eq.refl
         apply And.intro
         ·intro W hW hD
          have hW2:=hbel.trans (hW.mono hbel.size)
          have q0:=fL W hW2
          have q1:=fR W hW2
          have q2:=fB W hW2
          go_simp
          rfl
         simp only [Act.put,List.setIfInBounds_toArray,List.set_cons_zero,List.set_cons_succ])
      | ((with_reducible apply lx0_pass)
         ·(first | rfl | (go_simp;done))
         ·apply Eq.refl
         simp only [Act.put,List.setIfInBounds_toArray,List.set_cons_zero,List.set_cons_succ])
      | ((with_reducible refine lx0_new (fun v _ _=>PickV v) rfl ?_ (stab_pure PickV) ?_ ?_)
         ·(go_simp;done)
         ·intro W hW hD
          have hW2:=hbel.trans (hW.mono hbel.size)
          unfold doesAt Oper.wp execOp
          go_simp
          (with_reducible refine (hpk W hW2).mono ?_)
          rintro e w' ⟨⟨y,b,rfl,hy⟩,hb⟩
          exact ⟨hb,fun _ _ _ _=>⟨y,b,rfl,hy⟩⟩
         intro v
         simp only [Act.put,List.setIfInBounds_toArray,List.set_cons_zero,List.set_cons_succ])
      | (first | (with_reducible apply lx_move') | (with_reducible apply lx_assign')
         ·apply Eq.refl
         apply Exists.intro
         apply And.intro
         ·(go_simp;rfl)
         simp only [Act.put,List.setIfInBounds_toArray,List.set_cons_zero,List.set_cons_succ])
      | ((with_reducible apply lx_extr')
         ·apply Eq.refl
         apply Exists.intro
         apply And.intro
         ·(go_simp;rfl)
         refine ⟨fun W hW hD=>?_,?_⟩
         ·obtain ⟨F,y,b,rfl,hy⟩:=hD.at 0 rfl (by kernel_rfl)
          exact ⟨_,rfl,by simp⟩
         simp only [Act.put,List.setIfInBounds_toArray,List.set_cons_zero,List.set_cons_succ])
      | ((with_reducible apply lx_al 35 (u8s noId) zeroIdV)
         ·apply Eq.refl
         intro v
         simp only [Act.put,List.setIfInBounds_toArray,List.set_cons_zero,List.set_cons_succ])
      | ((with_reducible apply lx_st' 12 35 (u8s noId) hsI (by kernel_rfl))
         ·exact rfl
         ·apply Eq.refl
         apply Exists.intro
         apply Exists.intro
         apply And.intro
         ·(go_simp;rfl)
         apply And.intro
         ·(go_simp;rfl)
         refine ⟨?_,fun W hW hD=>?_,?_⟩
         ·first | exact List.Mem.head _ | exact List.Mem.tail _ (List.Mem.head _) | exact List.Mem.tail _ (List.Mem.tail _ (List.Mem.head _)) | exact List.Mem.tail _ (List.Mem.tail _ (List.Mem.tail _ (List.Mem.head _)))
         ·obtain ⟨F,y,b,rfl,hy⟩:=hD.at 1 rfl (by kernel_rfl)
          exact ⟨_,rfl,by rw [u8s_size,u8s_size,hy,noId_len],u8s_one y⟩)
    refine lx0_nil ?_ fun w7 hW7 hD7=>?_
    ·exact (by simp [stsOf])
    obtain ⟨_,y7,b,rfl,hy7⟩:=hD7 _ (.tail _ (.tail _ (.head _)))
    obtain ⟨_,g,cs,rfl,hcs,hg1,_,hg2⟩:=hD7 _ (.head _)
    obtain rfl:u8s y7=cs:=by injection hcs
    clear hcs hD7
    simp only [extr2_0,extr2_1]
    have b7:=hbel.trans (hW7.mono hbel.size)
    have own7:=own_below hown hW7
    have hO7:=hO.below hW7 hO.lt
    clear hpk fB hcw
    cases b
    ·go_wp2
     go_roundw
     case rel=>exact ⟨k+1,acc,ve,by go_num,by omega,by omega,by omega,hall,hO7,own7,b7⟩
     case measure=>simp [intOf];omega
    ·obtain ⟨K,hK⟩ : ∃ K,kindS (es.map (·.st)) y7=K:=⟨_,rfl⟩
     have hKb:=kindS_bounds (s:=es.map (·.st)) y7
     have hkc:=hkc y7 hy7
     simp only [hK] at hKb hkc
     have hOV2:(oTC ve)[2]?=some ve:=rfl
     have hOVs:(2:Nat)<(oTC ve).size:=by show 2<(objC oT ve _).toArray.size;rw [List.size_toArray];simp [objC]
     have hOVp : ∀ v,(oTC ve).setIfInBounds 2 v=oTC v:=fun v=>rfl
     have hpre:=preOk2 (i:=10) (j:=12) own7 hO7 (by decide)
     have hrB:=rows2 (i:=10) (j:=12) (p:=fun w=>World.ownsRow w W3.heap.size 120 34 ve acc.length (rowsOf entC acc)) (q:=fun w=>Blk w W3.heap.size 70 (oTC ve)) (v:=ve) (fun k hk=>(World.ownsRow.lt own7 k hk).1) (Nat.le_refl W3.heap.size)
     have sz7:=b7.size
     have hno1:=own_blk_ne own7 hg2 (by decide)
     have hno2:W3.heap.size≠g:=fun e=>Blk.ne_ hO7 (e▸hg2) (by decide) rfl
     have hgI:=fun W (hF:Far (rowsOfP [(10,ve.ownBlock,fun w=>World.ownsRow w W3.heap.size 120 34 ve acc.length (rowsOf entC acc)),(12,some W3.heap.size,fun w=>Blk w W3.heap.size 70 (oTC ve))]) w7 W)=>run_ldvI_at (range_blk (hF.blk hg2 (by simp [rowsOfP];exact ⟨hno1,fun e=>hno2 e.symm⟩))) hy7
     have hkl:acc.length+1≤9223372036854775807:=by omega
     have hby:(acc.length+1)*56≤140737488355328:=by omega
     obtain ⟨A3,c3,rfl⟩:=own_form' hown
     obtain ⟨OV,hOV⟩ : ∃ OV,oTC (.slice A3 acc.length c3)=OV:=⟨_,rfl⟩
     rw [hOV] at hpre hrB hgI hOV2 hOVs hOVp hO7
     have hnm:=fun W=>name_calls11 k (by omega) W
     clear hOV hK hno1 hno2
     go_wp2
     refine wp_region_goP 13 [(10,(Value.slice A3 acc.length c3).ownBlock,fun w=>World.ownsRow w W3.heap.size 120 34 (.slice A3 acc.length c3) acc.length (rowsOf entC acc)),(12,some W3.heap.size,fun w=>Blk w W3.heap.size 70 OV)] hpre (by kernel_rfl) (by kernel_rfl) (by kernel_rfl) (by kernel_rfl) ?_
     simp only [exSp]
     iterate 13 apply Exists.intro
     repeat
      first
       | ((with_reducible apply lx_ex)
          ·(go_simp;done)
          apply Exists.intro
          apply And.intro
          ·apply Eq.refl
          apply And.intro
          ·intro W hF hD
           first
            | (have hf:=far_drew hF
               have hW2:=b7.trans (hf.below sz7 hrB)
               have q0:=fL W hW2
               have q1:W.cell? ⟨W3.heap.size,2,none⟩=some (.slice A3 acc.length c3):=by rw [(hD.was 1 rfl (by kernel_rfl)).cell];exact hOV2
               have q2:=hgI W hf
               have q3:=hkc W hW2
               go_simp
               first
                | rfl
                | (with_reducible exact q3))
            | (have hf:=far_drew hF
               have hW2:=b7.trans (hf.below sz7 hrB)
               have q0:=fL W hW2
               have q2:=hgI W hf
               have q3:=hkc W hW2
               go_simp
               first
                | rfl
                | (with_reducible exact q3))
          simp only [Act.put,List.setIfInBounds_toArray,List.set_cons_zero,List.set_cons_succ])
       | ((with_reducible apply lx_pass)
          ·(first | rfl | (go_simp;done))
          ·apply Eq.refl
          simp only [Act.put,List.setIfInBounds_toArray,List.set_cons_zero,List.set_cons_succ])
       | ((with_reducible refine lx_new (fun _ v _ _=>NameV v) rfl ?_ (fun _=>stab_pure NameV) ?_ ?_)
          ·(go_simp;done)
          ·intro W hF hD
           unfold doesAt Oper.wp execOp
           go_simp
           (with_reducible refine (hnm W).mono ?_)
           rintro e w' ⟨⟨cc,rfl⟩,hb⟩
           exact ⟨hb,fun _ _ _ _=>⟨cc,rfl⟩⟩
          intro v
          simp only [Act.put,List.setIfInBounds_toArray,List.set_cons_zero,List.set_cons_succ])
       | (first | (with_reducible apply lx_move') | (with_reducible apply lx_assign')
          ·apply Eq.refl
          apply Exists.intro
          apply And.intro
          ·(go_simp;rfl)
          simp only [Act.put,List.setIfInBounds_toArray,List.set_cons_zero,List.set_cons_succ])
       | ((with_reducible apply lx_build3 (fun cs => ∃ cc:UInt8,cs=(entC ⟨[cc],K,y7⟩).toArray))
          ·apply Eq.refl
          iterate 3 apply Exists.intro
          iterate 3
           apply And.intro
           ·(go_simp;rfl)
          refine ⟨fun W hF hD=>?_,?_⟩
          ·obtain ⟨F,cc,rfl⟩:=hD.at 0 rfl (by kernel_rfl)
           exact ⟨_,built_ent3 [cc] K y7 hy7,cc,rfl⟩
          intro v
          simp only [Act.put,List.setIfInBounds_toArray,List.set_cons_zero,List.set_cons_succ])
       | ((with_reducible apply lx_slice1 Tryz.entTy (fun cs => ∃ cc:UInt8,cs=(entC ⟨[cc],K,y7⟩).toArray) (by omega))
          ·apply Eq.refl
          apply Exists.intro
          apply And.intro
          ·(go_simp;rfl)
          refine ⟨fun W hF hD=>?_,?_⟩
          ·obtain ⟨F,cs,rfl,cc,rfl⟩:=hD.at 0 rfl (by kernel_rfl)
           exact ⟨_,rfl,by rw [List.size_toArray,entC_lenS hy7],cc,rfl⟩
          intro v
          simp only [Act.put,List.setIfInBounds_toArray,List.set_cons_zero,List.set_cons_succ])
       | ((with_reducible apply lx_append1 Tryz.entTy W3.heap.size (.slice A3 acc.length c3) acc.length (rowsOf entC acc) (fun xs => ∃ cc:UInt8,xs=rowsOf entC acc++entC ⟨[cc],K,y7⟩) hkl hby)
          ·exact sz7
          ·first | exact List.Mem.head _ | exact List.Mem.tail _ (List.Mem.head _) | exact List.Mem.tail _ (List.Mem.tail _ (List.Mem.head _)) | exact List.Mem.tail _ (List.Mem.tail _ (List.Mem.tail _ (List.Mem.head _)))
          ·apply Eq.refl
          apply Exists.intro
          apply Exists.intro
          apply And.intro
          ·(go_simp;rfl)
          apply And.intro
          ·(go_simp;rfl)
          refine ⟨rfl,fun W hF hD=>?_,?_⟩
          ·obtain ⟨F,g5,cs,rfl,_,hk5,cc,rfl⟩:=hD.at 0 rfl (by kernel_rfl)
           exact ⟨g5,_,rfl,hk5,by rw [List.size_toArray,entC_lenS hy7],by rw [List.toList_toArray];exact entC_one _,cc,by rw [List.toList_toArray]⟩
          intro v
          simp only [Act.put,List.setIfInBounds_toArray,List.set_cons_zero,List.set_cons_succ])
       | ((with_reducible apply lx_put W3.heap.size 2 OV 70)
          ·exact (fun _=>by kernel_rfl)
          ·exact hOVs
          ·first | exact List.Mem.head _ | exact List.Mem.tail _ (List.Mem.head _) | exact List.Mem.tail _ (List.Mem.tail _ (List.Mem.head _)) | exact List.Mem.tail _ (List.Mem.tail _ (List.Mem.tail _ (List.Mem.head _)))
          ·apply Eq.refl
          apply Exists.intro
          apply Exists.intro
          apply And.intro
          ·(go_simp;rfl)
          apply And.intro
          ·(go_simp;rfl)
          refine ⟨rfl,fun W hF hD=>?_,?_⟩
          ·obtain ⟨F,xs,_,hv,_⟩:=hD.at 0 rfl (by kernel_rfl)
           obtain ⟨A6,c6,rfl⟩:=own_form' hv
           exact ⟨_,_,_,rfl⟩)
     refine lxP_nil ?_ fun w9 hF9 hD9=>?_
     ·exact List.nodup_nil
     have f9:=hF9
     obtain ⟨_,hg9,hb9⟩:=hD9 _ (.head _)
     obtain ⟨_,xs,⟨cc,rfl⟩,hv9,_⟩:=hD9 _ (.tail _ (.head _))
     rw [hOVp] at hb9
     have b9:=b7.trans (f9.below sz7 hrB)
     go_wp2
     go_roundw
     case rel=>exact ⟨k+1,acc++[⟨[cc],K,y7⟩],_,by go_num,by omega,by omega,by simp;omega,Lib.hid (fun e he=>by
      rcases List.mem_append.1 he with he | he
      ·exact hall.out e he
      ·rw [List.mem_singleton.1 he];exact ⟨hy7,rfl,hKb.1,hKb.2⟩),hb9,by unfold OwnEnts;rw [List.length_append,rowsOf_append,rowsOf_one];exact hv9,b9⟩
     case measure=>simp [intOf];omega
   ·have hki5 : ¬ (k:Int)<5:=by omega
    clear fBk hpk hkc
    obtain ⟨A3,c3,rfl⟩:=own_form' hown
    have hz9:=z3.below hbel z3.lt
    have hokO:ObjOk ⟨2,[],acc,noId,[],0,[],noId,0,[]⟩:=⟨noId_len,noId_len,fun e he=>(hall.out e he).ok,by simp,by simp,by simp,by simp,by simp,by simp,by simp,by simp,by simp⟩
    have hOo:ObjB wr W3.heap.size ⟨2,[],acc,noId,[],0,[],noId,0,[]⟩ (.slice A3 acc.length c3) (.slice none 0 0):=⟨hO,noId_len,noId_len⟩
    have ld:=run_ldvO hOo hokO
    have hcs:(objC ⟨2,[],acc,noId,[],0,[],noId,0,[]⟩ (.slice A3 acc.length c3) (.slice none 0 0)).toArray.size=72:=by rw [List.size_toArray];exact objC_len hokO _ _
    have hc1:=objC_all ⟨2,[],acc,noId,[],0,[],noId,0,[]⟩ A3 none acc.length c3 0 0
    have hfin:Hid (∀ w',OwnEnts w' W3.heap.size (.slice A3 acc.length c3) acc→MkR w (.returned (.agg (objC ⟨2,[],acc,noId,[],0,[],noId,0,[]⟩ (.slice A3 acc.length c3) (.slice none 0 0)).toArray)) w'):=Lib.hid fun w' ho=>⟨_,A3,none,c3,0,rfl,⟨by show acc.length≤_;omega,fun e he=>by have:=(hall.out e he).name;omega,by simp,by simp,by simp,by simp⟩,hokO,own_low' ho b3.size,World.ownsRow_nil _ _ _ _⟩
    have b9:=bthen b3 b3.size hbel
    generalize (objC ⟨2,[],acc,noId,[],0,[],noId,0,[]⟩ (.slice A3 acc.length c3) (.slice none 0 0)).toArray=OR at *
    go_wp2_with (first
     | (refine wpList_store_row rfl 70 (.tmp 6) (.tmp 62) rfl W2.heap.size OR rfl rfl _ _ hz9 (hsz _ hcs) (hz72.trans hcs.symm) hc1 ?_))
    refine bodyPost_ret (results_cell_row rfl _ _ W2.heap.size _ _ _ _ rfl (setRow_heap _ _ _ _ _ _ hz9) Tryz.underlying70 rfl (hsz _ hcs)) rfl ⟨hfin.out _ (own_row hown hlt2 OR),below_setRow b9 hle2 _⟩
  ·have hki : ¬ (k:Int)<(x.refs.length:Int):=by omega
   clear fBk hpk hkc
   obtain ⟨A3,c3,rfl⟩:=own_form' hown
   have hz9:=z3.below hbel z3.lt
   have hokO:ObjOk ⟨2,[],acc,noId,[],0,[],noId,0,[]⟩:=⟨noId_len,noId_len,fun e he=>(hall.out e he).ok,by simp,by simp,by simp,by simp,by simp,by simp,by simp,by simp,by simp⟩
   have hOo:ObjB wr W3.heap.size ⟨2,[],acc,noId,[],0,[],noId,0,[]⟩ (.slice A3 acc.length c3) (.slice none 0 0):=⟨hO,noId_len,noId_len⟩
   have ld:=run_ldvO hOo hokO
   have hcs:(objC ⟨2,[],acc,noId,[],0,[],noId,0,[]⟩ (.slice A3 acc.length c3) (.slice none 0 0)).toArray.size=72:=by rw [List.size_toArray];exact objC_len hokO _ _
   have hc1:=objC_all ⟨2,[],acc,noId,[],0,[],noId,0,[]⟩ A3 none acc.length c3 0 0
   have hfin:Hid (∀ w',OwnEnts w' W3.heap.size (.slice A3 acc.length c3) acc→MkR w (.returned (.agg (objC ⟨2,[],acc,noId,[],0,[],noId,0,[]⟩ (.slice A3 acc.length c3) (.slice none 0 0)).toArray)) w'):=Lib.hid fun w' ho=>⟨_,A3,none,c3,0,rfl,⟨by show acc.length≤_;omega,fun e he=>by have:=(hall.out e he).name;omega,by simp,by simp,by simp,by simp⟩,hokO,own_low' ho b3.size,World.ownsRow_nil _ _ _ _⟩
   have b9:=bthen b3 b3.size hbel
   generalize (objC ⟨2,[],acc,noId,[],0,[],noId,0,[]⟩ (.slice A3 acc.length c3) (.slice none 0 0)).toArray=OR at *
   go_wp2_with (first
    | (refine wpList_store_row rfl 70 (.tmp 6) (.tmp 62) rfl W2.heap.size OR rfl rfl _ _ hz9 (hsz _ hcs) (hz72.trans hcs.symm) hc1 ?_))
   refine bodyPost_ret (results_cell_row rfl _ _ W2.heap.size _ _ _ _ rfl (setRow_heap _ _ _ _ _ _ hz9) Tryz.underlying70 rfl (hsz _ hcs)) rfl ⟨hfin.out _ (own_row hown hlt2 OR),below_setRow b9 hle2 _⟩
end Go.Proofs.YtfdfoplmijmnaaaGreatDoor
namespace Go.Proofs.YtfdfoplmijmnaaaGreatDoor
open Go.RowKit
theorem make1_calls {w:World} {vm:Value} {es:List DiL} (h:DocSt w vm es) (ids:List Txt) (hok : ∀ x∈ids,x.length=32) (hil:ids.length≤1000) (vi:Value) (hi:Ids w vi ids) (x:SdL) (hx:SdOk w x) (hr:x.refs.length≤10) (ht:x.text.length≤300) :
 Calls Tryz.prog 41 #[.agg #[vm],vi, .agg (sdC x).toArray] w fun e w'=>MkR w e w'∧Below w.heap.size w w':=by
 have h4:(x.kind.toNat:Int)%4=0∨(x.kind.toNat:Int)%4=1∨(x.kind.toNat:Int)%4=2∨(x.kind.toNat:Int)%4=3:=by omega
 rcases h4 with h4 | h4 | h4 | h4
 ·exact make_blob h ids hok hil vi hi x hx hr ht h4
 ·exact make_tree h ids hok hil vi hi x hx hr ht h4
 ·exact make_commit h ids hok hil vi hi x hx hr ht h4
 ·exact make_tag h ids hok hil vi hi x hx hr ht h4
def ldvSd (p:Addr):Sem Value:=loadVar 88 p
theorem ldvSd_eq (p:Addr):loadVar 88 p=ldvSd p:=rfl
theorem run_ldvSd {w:World} {g o:Nat} {e:SdL} (h:w.rangeAt g o (sdC e)):(ldvSd ⟨g,o,none⟩).run Tryz.prog w = .ok (.agg (sdC e).toArray) w:=run_loadVar_mid w g o 88 (sdC e) _ h Tryz.underlying88 rfl szSeed
attribute [local go_sem ↓] ldvI_eq ldvS_eq stvI_eq stvS_eq ldvSd_eq
/-- What make1 tells, amid a region. -/
def MkV (B:Nat) (v:Value) (F:Foot) (w:World):Prop := ∃ o A1 A2 k1 k2,v = .agg (objC o (.slice A1 o.ents.length k1) (.slice A2 o.pars.length k2)).toArray∧Small o∧ObjOk o∧ownR B 120 34 o.ents.length (rowsOf entC o.ents) (.slice A1 o.ents.length k1) F w∧ownR B 35 32 o.pars.length (rowsOf idC o.pars) (.slice A2 o.pars.length k2) F w
theorem MkV_stab (B:Nat) (v:Value):Stab (MkV B v):=fun F F' w w' hf ha ⟨o,A1,A2,k1,k2,e,h1,h2,h3,h4⟩=>⟨o,A1,A2,k1,k2,e,h1,h2,ownR_stab _ _ _ _ _ _ F F' w w' hf ha h3,ownR_stab _ _ _ _ _ _ F F' w w' hf ha h4⟩
def EncV (v:Value):Prop := ∃ t b,v = .tuple #[.string (B t), .bool b]∧t.length≤4096
theorem encD_V (o:ObjL):EncV (encD o):=by
 cases h:encO o with
 | none=>exact ⟨[],false,encD_none h,by simp⟩
 | some t=>
   refine ⟨t,true,encD_some h,?_⟩
   unfold encO at h
   split at h
   ·rename_i hc
    injection h with h
    rw [←h];exact hc.2
   ·cases h
theorem DocSt.one {w:World} {vm:Value} {es:List DiL} (h:DocSt w vm es):vm.oneCell'=true:=by
 obtain ⟨A,c,rfl⟩:=own_form' h.own
 rfl
theorem grow_id (w:World) (a b:Array Value) (T:TypeId) (c:Array Value) (S:TypeId):Blk (((w.alloc (.cells a T)).alloc (.cells b S)).setRow w.heap.size c) (w.heap.size+1) S b:=by
 unfold Blk
 rw [setRow_other _ _ _ _ (by omega)]
 have:=Blk.new (w.alloc (.cells a T)) S b
 rwa [size_alloc'] at this
/-- What Grow tells: some store, some ids. -/
def GrowR (w:World) (n:Nat) (e:Ending) (w':World):Prop := ∃ vm es vi ids,e = .returned (.tuple #[.agg #[vm],vi])∧DocSt w' vm es∧es.length≤n∧OwnIds w' w.heap.size vi ids∧ids.length≤n∧(∀ x∈ids,x.length=32)∧Apart vi vm es
set_option maxRecDepth 100000 in
set_option maxHeartbeats 16000000 in
theorem grow_calls (l:List SdL) (hl:l.length≤100) (hsm : ∀ x∈l,x.refs.length≤10∧x.text.length≤300) (va:Value) (w:World) (h:Seeds w va l) :
 Calls Tryz.prog 22 #[va] w fun e w'=>GrowR w l.length e w'∧Below w.heap.size w w':=by
 have hzI:=zeroIdV
 have hZ32:(u8s noId).size=32:=by rw [u8s_size,noId_len]
 have hbS:Tryz.prog.built 30 []=some #[.slice none 0 0]:=by kernel_rfl
 have hrb:=fun W=>run_build (P:=Tryz.prog) W _ _ _ hbS
 have hS0:(#[Value.slice none 0 0]:Array Value).size=1:=rfl
 have hS1:(#[Value.slice none 0 0]:Array Value).all (·.oneCell')=true:=by kernel_rfl
 obtain ⟨W1,hW1⟩ : ∃ W1,w.alloc (.cells #[.slice none 0 0] 30)=W1:=⟨_,rfl⟩
 have r1:Blk W1 w.heap.size 30 #[.slice none 0 0]:=by rw [←hW1];exact Blk.new _ _ _
 have b1:Below w.heap.size w W1:=by rw [←hW1];exact (Below.refl _ _).alloc (Nat.le_refl _) _
 have hlt0:=r1.lt
 have hat0:=h.at_
 have heach:=h.each
 obtain ⟨A,cap,rfl,hcap1,hcap2,hat⟩:=hat0
 clear h
 go_enter Tryz.func22,Tryz.ntmps22
 go_wp2_with (first
  | ((with_reducible refine lit_new 30 (.tmp 4) (.tmp 12) #[.slice none 0 0] 1 szDSt hS0 hS1 _ ?_ ?_ ?_ ?_)
     ·exact hS0
     ·rfl
     ·rfl
     intro W2 m2 b12))
 have hlt1:=m2.lt
 have hD2:DocSt W2 (.slice none 0 0) []:=⟨World.ownsRow_nil _ _ _ _,fun e he=>by simp at he,StoOk.nil⟩
 clear hrb hS0 hS1
 go_loopw [5,6] (fun v5 v6 wr => ∃ (k:Nat) (vm:Value) (es:List DiL) (ids:List Txt),v6 = .int .i64 k∧k≤l.length∧es.length≤k∧ids.length≤k∧Hid (∀ x∈ids,x.length=32)∧Blk wr W1.heap.size 30 #[vm]∧DocSt wr vm es∧OwnIds wr W2.heap.size v5 ids∧Apart v5 vm es∧Below W1.heap.size W1 wr∧W2.heap.size≤wr.heap.size) (fun _ v6 _=>l.length-(intOf v6).toNat)
 case atStart=>exact ⟨0,_,[],[],rfl,by omega,by simp,by simp,Lib.hid (fun x hx=>by simp at hx),m2,hD2,World.ownsRow_nil _ _ _ _,fun k hk=>by simp [Value.ownBlock] at hk,b12,Nat.le_refl _⟩
 case round=>
  obtain ⟨k,vm,es,ids,rfl,hk,hel,hil,hids,hM,hD,hown,hap,hbel,hsz2⟩:=hrel
  by_cases hlt:k<l.length
  ·have hki:(k:Int)<(l.length:Int):=by omega
   obtain ⟨ga,oa,rfl,hga,hca⟩:=hat (by omega)
   obtain ⟨x,hx⟩ : ∃ x,l[k]?=some x:=⟨_,List.getElem?_eq_getElem hlt⟩
   have hxm:=List.mem_of_getElem? hx
   obtain ⟨hx1,hx2⟩:=hsm x hxm
   have hxo:=heach x hxm
   have hbr:Below w.heap.size w wr:=bthen b1 b1.size hbel
   have fS:=fun W (hW:Below wr.heap.size wr W)=>run_ldvSd (rangeAt_below (hca k x hx) hga (bthen hbr hbr.size hW))
   have fM:=fun W (hW:Below wr.heap.size wr W)=>run_ldvS (hM.below hW hM.lt)
   have hiW:=fun W (hW:Below wr.heap.size wr W)=>SliceAt.of_own (fun e h=>idC_len (hids.out e h)) (own_below hown hW)
   have hmk:=fun W (hW:Below wr.heap.size wr W)=>make1_calls (hD.below hW) ids hids.out (by omega) _ (hiW W hW) x (hxo.below (bthen hbr hbr.size hW)) hx1 hx2
   have hlth:(k:Nat)<l.length:=hlt
   clear hx hca hat heach hsm hxm hxo hiW
   generalize (sdC x).toArray=SC at *
   go_wp2
   refine wp_region_go0 13 (by kernel_rfl) (by kernel_rfl) (by kernel_rfl) (by kernel_rfl) ?_
   simp only [exSp]
   iterate 13 apply Exists.intro
   repeat
    first
     | ((with_reducible apply lx0_ex)
        ·(go_simp;done)
        apply Exists.intro
        apply And.intro
        ·apply Eq.refl
        apply And.intro
        ·intro W hW hD
         have q0:=fM W hW
         have q1:=fS W hW
         go_simp
         rfl
        simp only [Act.put,List.setIfInBounds_toArray,List.set_cons_zero,List.set_cons_succ])
     | ((with_reducible apply lx0_pass)
        ·(first | rfl | (go_simp;done))
        ·apply Eq.refl
        simp only [Act.put,List.setIfInBounds_toArray,List.set_cons_zero,List.set_cons_succ])
     | ((with_reducible refine lx0_new (MkV wr.heap.size) rfl ?_ (MkV_stab _) ?_ ?_)
        ·(go_simp;done)
        ·intro W hW hD
         unfold doesAt Oper.wp execOp
         go_simp
         (with_reducible refine (hmk W hW).mono ?_)
         rintro e w' ⟨⟨o,A1,A2,k1,k2,rfl,h1,h2,h3,h4⟩,hb⟩
         exact ⟨hb,fun F f1 f2 f3=>⟨o,A1,A2,k1,k2,rfl,h1,h2,ownR_new hW.size h3 F f1 f2 f3,ownR_new hW.size h4 F f1 f2 f3⟩⟩
        intro v
        simp only [Act.put,List.setIfInBounds_toArray,List.set_cons_zero,List.set_cons_succ])
     | ((with_reducible refine lx0_new (fun v _ _=>EncV v) rfl ?_ (stab_pure EncV) ?_ ?_)
        ·(go_simp;done)
        ·intro W hW hD
         obtain ⟨F,o,A1,A2,k1,k2,rfl,h1,h2,h3,h4⟩:=hD.at 0 rfl (by kernel_rfl)
         have hc:=refEncode_calls o h1 A1 A2 k1 k2 W ⟨h2,SliceAt.of_own (fun e h=>entC_len (h2.ents e h)) h3.1,SliceAt.of_own (fun e h=>idC_len (h2.pars e h)) h4.1⟩
         unfold doesAt Oper.wp execOp
         go_simp
         (with_reducible refine hc.mono ?_)
         rintro e w' ⟨rfl,hb⟩
         exact ⟨hb,fun _ _ _ _=>encD_V o⟩
        intro v
        simp only [Act.put,List.setIfInBounds_toArray,List.set_cons_zero,List.set_cons_succ])
     | (first | (with_reducible apply lx_move') | (with_reducible apply lx_assign')
        ·apply Eq.refl
        apply Exists.intro
        apply And.intro
        ·(go_simp;rfl)
        simp only [Act.put,List.setIfInBounds_toArray,List.set_cons_zero,List.set_cons_succ])
     | ((with_reducible apply lx_extr')
        ·apply Eq.refl
        apply Exists.intro
        apply And.intro
        ·(go_simp;rfl)
        refine ⟨fun W hW hD=>?_,?_⟩
        ·obtain ⟨F,t,b,rfl,ht⟩:=hD.at 0 rfl (by kernel_rfl)
         exact ⟨_,rfl,by simp⟩
        simp only [Act.put,List.setIfInBounds_toArray,List.set_cons_zero,List.set_cons_succ])
   refine lx0_nil ?_ fun w6 hW6 hD6=>?_
   ·exact List.nodup_nil
   obtain ⟨_,t,b,rfl,htl⟩:=hD6 _ (.head _)
   simp only [extr2_0,extr2_1]
   have b6:=hbel.trans (hW6.mono hbel.size)
   have M6:=hM.below hW6 hM.lt
   have D6:=hD.below hW6
   have own6:=own_below hown hW6
   have sz6:W2.heap.size≤w6.heap.size:=Nat.le_trans hsz2 hW6.size
   clear hD6 hmk fS
   cases b
   ·go_wp2
    go_roundw
    case rel=>exact ⟨k+1,vm,es,ids,by go_num,by omega,by omega,by omega,hids,M6,D6,own6,hap,b6,sz6⟩
    case measure=>simp [intOf];omega
   ·have lM:=run_ldvS M6
    have hwi:=Lib.hid (docWith_calls D6 (by omega) t (by omega))
    have hpl:=putS_len (es.map (·.st)) t
    rw [List.length_map] at hpl
    have hpi:(putI t).length=32:=by
     unfold putI
     split
     ·rfl
     ·exact shaOf_length _
    obtain ⟨pn,hpn⟩ : ∃ pn,putI t=pn:=⟨_,rfl⟩
    obtain ⟨bf,hbf⟩ : ∃ bf,(decO t).isSome=bf:=⟨_,rfl⟩
    obtain ⟨PL,hPL⟩ : ∃ PL,putS (es.map (·.st)) t=PL:=⟨_,rfl⟩
    unfold WithR at hwi
    rw [hpn] at hpi hwi
    rw [hbf,hPL] at hwi
    rw [hPL] at hpl
    have hp32:(u8s pn).size=32:=by rw [u8s_size,hpi]
    have hpo:=u8s_one pn
    have hszI:(Tryz.prog.info? 35).map (·.size)=some (u8s pn).size:=by rw [hp32];exact sz32
    clear hpn hbf hPL
    go_upto_region 9 with (first
     | ((with_reducible refine hwi.out.mono ?_);rintro e w7 ⟨⟨vm7,es7,rfl,D7,hmap,hold, -⟩,b67⟩)
     | (refine wpList_store_row rfl 30 (.tmp 9) (.tmp 35) rfl w7.heap.size #[vm7] rfl rfl _ #[.slice none 0 0] ((Blk.new _ _ _).alloc _) szDSt rfl (by simp [D7.one]) ?_)
     | (refine wpList_store_row rfl 35 (.tmp 10) (.tmp 36) rfl (w7.heap.size+1) (u8s pn) rfl rfl _ (u8s noId) (grow_id _ _ _ _ _ _) hszI (by rw [hp32,hZ32]) hpo ?_))
    obtain ⟨W8,hW8⟩ : ∃ W8,(((w7.alloc (.cells #[.slice none 0 0] 30)).alloc (.cells (u8s noId) 35)).setRow w7.heap.size #[vm7]).setRow (w7.heap.size+1) (u8s pn)=W8:=⟨_,rfl⟩
    have b78:Below w7.heap.size w7 W8:=by
     rw [←hW8]
     exact below_setRow (below_setRow (((Below.refl _ _).alloc (Nat.le_refl _) _).alloc (by rw [size_alloc'];omega) _) (Nat.le_refl _) _) (by omega) _
    have g9:Blk W8 w7.heap.size 30 #[vm7]:=by
     rw [←hW8]
     unfold Blk
     rw [setRow_other _ _ _ _ (by omega)]
     exact setRow_heap _ _ _ _ _ _ ((Blk.new _ _ _).alloc _)
    have g10:Blk W8 (w7.heap.size+1) 35 (u8s pn):=by
     rw [←hW8]
     exact setRow_heap _ _ _ _ _ _ (grow_id _ _ _ _ _ _)
    rw [hW8]
    have b68:Below w6.heap.size w6 W8:=bthen b67 b67.size b78
    have b8:=b6.trans (b68.mono b6.size)
    have M8:=M6.below b68 M6.lt
    have D8:=D7.below b78
    have O8:=D6.below b68
    have own8:=own_below own6 b68
    have sz8:W2.heap.size≤W8.heap.size:=Nat.le_trans sz6 b68.size
    have hel7:es7.length≤es.length+1:=by rw [←hmap,List.length_map] at hpl;exact hpl
    have hap8:=hap.with_ own6 own8 D8 hold
    clear hwi hW8 hmap hold
    cases bf
    ·go_wp2
     go_roundw
     case rel=>exact ⟨k+1,vm,es,ids,by go_num,by omega,by omega,by omega,hids,M8,O8,own8,hap,b8,sz8⟩
     case measure=>simp [intOf];omega
    ·have l9:=run_ldvS g9
     have hno:=D8.blk_ne M8 (by decide) (by decide) (by decide)
     have D9:=D8.row hno #[vm7]
     have own9:=own_row own8 hlt1 #[vm7]
     have hne10:w7.heap.size+1≠W1.heap.size:=by have:=M6.lt;have:=b67.size;omega
     have g109:Blk (W8.setRow W1.heap.size #[vm7]) (w7.heap.size+1) 35 (u8s pn):=keep_row g10 hne10 _
     have l10:=run_ldvI_at (range_blk g109) hpi
     have M9:Blk (W8.setRow W1.heap.size #[vm7]) W1.heap.size 30 #[vm7]:=setRow_heap _ _ _ _ _ _ M8
     have b9:=below_setRow b8 (Nat.le_refl _) #[vm7]
     have sz9:W2.heap.size≤(W8.setRow W1.heap.size #[vm7]).heap.size:=by simpa using sz8
     have hid32:(u8s pn).size=32:=hp32
     have hidl:(u8s pn).size=1*32:=hp32
     have hid1 : ∀ u∈(u8s pn).toList,u.oneCell'=true:=idC_one pn
     have hids2:Hid (∀ z∈ids++[pn],z.length=32):=Lib.hid fun z hz=>by
      rcases List.mem_append.1 hz with hz | hz
      ·exact hids.out z hz
      ·rw [List.mem_singleton.1 hz];exact hpi
     have hrow:Hid (rowsOf idC (ids++[pn])=rowsOf idC ids++(u8s pn).toList):=Lib.hid (by rw [rowsOf_append,rowsOf_one];rfl)
     have hkl:ids.length+1≤9223372036854775807:=by omega
     have hm2:(ids.length+1)*32≤140737488355328:=by omega
     have hone7:(#[vm7]:Array Value).all (·.oneCell')=true:=by simp [D7.one]
     have hdM:=own_blk_ne own9 M9 (by decide)
     have hszS1:(Tryz.prog.info? 30).map (·.size)=some (#[vm7]:Array Value).size:=szDSt
     clear hpi g10 g109 g9 hp32
     generalize u8s pn=XC at *
     go_wp2_with (first
      | (refine wpList_store_row rfl 30 (.tmp 4) (.tmp 39) rfl W1.heap.size #[vm7] rfl rfl _ _ M8 hszS1 rfl hone7 ?_)
      | ((with_reducible refine lit_slice1 (.tmp 41) Tryz.idsTy XC hid32 (by omega) ?_ ?_);rfl)
      | (at_builtin
         (with_reducible refine lit_append_new (.tmp 40) (.tmp 42) 1 _ Tryz.idsTy own9 XC hidl hid1 hkl hm2 sz9 ?_ ?_ ?_);rfl;rfl
         intro v10 w10 hv10 hb10 hg10 hn10
         have b10:=b9.trans (hb10.mono (Nat.le_of_lt hlt1))
         have M10:=Blk.grown M9 hg10 hdM
         have D10:=D9.grown hg10 (fun k hk=>hap8 k hk)
         have hap10:=(Apart.newer hap8 D9 hn10)
         have hap10b:Apart v10 vm7 es7:=hap10
         have sz10:W2.heap.size≤w10.heap.size:=Nat.le_trans sz9 hg10.size
         clear hg10 hn10 hap10))
     go_roundw
     case rel=>exact ⟨k+1,vm7,es7,ids++[pn],by go_num,by omega,by omega,by simp;omega,hids2,M10,D10,by unfold OwnIds;rw [List.length_append,hrow.out];exact hv10,hap10b,b10,sz10⟩
     case measure=>simp [intOf];omega
  ·have hki : ¬ (k:Int)<(l.length:Int):=by omega
   have lM:=run_ldvS hM
   have rr:=r1.below hbel hlt0
   have hno:=hD.blk_ne rr (by decide) (by decide) (by decide)
   have hbr:Below w.heap.size w wr:=bthen b1 b1.size hbel
   have hszS1:(Tryz.prog.info? 30).map (·.size)=some (#[vm]:Array Value).size:=szDSt
   have hone7:(#[vm]:Array Value).all (·.oneCell')=true:=by simp [hD.one]
   clear hat heach hsm
   go_wp2_with (first
    | (refine wpList_store_row rfl 30 (.tmp 2) (.tmp 44) rfl w.heap.size #[vm] rfl rfl _ _ rr hszS1 rfl hone7 ?_))
   refine bodyPost_ret (results_row_tmp rfl _ _ w.heap.size _ _ _ _ rfl (setRow_heap _ _ _ _ _ _ rr) Tryz.underlying30 rfl hszS1) rfl ⟨⟨vm,es,_,ids,rfl,hD.row hno _,by omega,own_down (own_row hown (Nat.lt_trans hlt0 hlt1) _) (Nat.le_of_lt (Nat.lt_trans hlt0 hlt1)),by omega,hids.out,by exact hap⟩,below_setRow hbr (Nat.le_refl _) _⟩
end Go.Proofs.YtfdfoplmijmnaaaGreatDoor
namespace Go.Proofs.YtfdfoplmijmnaaaGreatDoor
open Go.RowKit
theorem find_self : ∀ {s:List StL} {x:StL},SortedK StL.id s→x∈s→s.find? (fun r=>r.id==x.id)=some x
 | [],x,_,hx=>by simp at hx
 | y::s,x,h,hx=>by
   rw [List.find?_cons]
   rcases List.mem_cons.1 hx with hx | hx
   ·rw [hx];simp
   ·rw [less_ne (sorted_head h x hx)]
    exact find_self (sorted_cons h) hx
theorem getS_self {s:List StL} {x:StL} (h:StoOk s) (hx:x∈s):getS s x.id=some x:=find_self h.sorted hx
theorem StIs.putI {x:StL} (h:StIs x):putI x.text=x.id:=by
 obtain ⟨h1,o,ho⟩:=h
 unfold Go.Proofs.YtfdfoplmijmnaaaGreatDoor.putI
 rw [ho];exact h1.symm
theorem StIs.putC {x:StL} (h:StIs x):putC x.text=0:=by
 obtain ⟨h1,o,ho⟩:=h
 unfold Go.Proofs.YtfdfoplmijmnaaaGreatDoor.putC
 rw [ho]
theorem StIs.putS {x:StL} (h:StIs x) (s:List StL):putS s x.text=if hasK StL.id s x.id then s else insK StL.id s x:=by
 obtain ⟨h1,o,ho⟩:=h
 unfold Go.Proofs.YtfdfoplmijmnaaaGreatDoor.putS
 rw [ho]
 simp only [←h1]
theorem sorted_split {s:List StL} {x:StL} {k:Nat} (h:SortedK StL.id s) (hx:s[k]?=some x):(∀ y∈s.take k,Op.bytesLess y.id x.id=true) ∧ ∀ y∈s.drop (k+1),Op.bytesLess x.id y.id=true:=by
 have hlt:=(List.getElem?_eq_some_iff.1 hx).1
 have e:s=s.take k++x::s.drop (k+1):=by
  rw [←(List.getElem?_eq_some_iff.1 hx).2,←List.drop_eq_getElem_cons hlt,List.take_append_drop]
 unfold SortedK at h
 rw [e,List.pairwise_append] at h
 exact ⟨fun y hy=>h.2.2 y hy x (by simp),fun y hy=>(List.pairwise_cons.1 h.2.1).1 y hy⟩
theorem takeWhile_full {α:Type} {p:α→Bool} : ∀ {l:List α},(∀ y∈l,p y=true)→l.takeWhile p=l
 | [],_=>rfl
 | y::l,h=>by rw [List.takeWhile_cons,if_pos (h y (by simp)),takeWhile_full fun z hz=>h z (by simp [hz])]
/-- Items are put one behind the other, from the first one; from the last one. -/
theorem putS_rise {s:List StL} (h:StoOk s) {k:Nat} {x:StL} (hx:s[k]?=some x):putS (s.take k) x.text=s.take (k+1):=by
 have hl:=(sorted_split h.sorted hx).1
 rw [(h.each x (List.mem_of_getElem? hx)).putS,if_neg,insK,show posK StL.id (s.take k) (StL.id x)=(s.take k).length by unfold posK;rw [takeWhile_full hl],List.take_length,List.drop_length,List.append_nil,List.take_add_one,hx]
 ·rfl
 ·unfold hasK
  rw [Bool.not_eq_true,List.any_eq_false]
  intro y hy
  rw [less_ne (hl y hy)]
  simp
theorem StoOk.take {s:List StL} (h:StoOk s) (k:Nat):StoOk (s.take k):=⟨fun x hx=>h.each x (List.mem_of_mem_take hx),h.sorted.sublist (List.take_sublist _ _),by rw [List.length_take];have:=h.few;omega⟩
end Go.Proofs.YtfdfoplmijmnaaaGreatDoor
