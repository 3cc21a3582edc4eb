/- Texts of this claim, laid together: GraR, DocW, DocO, LinkR, GraD, Less, IdSo, IdSm, DocI, HexP, Hex, Unhex, DocP, GsE, GsC. -/
import Derived.Test.YtlojebhcemfodaaGreatDoorMg
import Derived.Great.BuildSlice
import Derived.Deep.CutBlock
import Derived.Lib.Bytealg
import Derived.Deep.RegionHeld3
import Derived.StillTailTactics
import Derived.Great.FillDense
namespace Go.Proofs.YtlojebhcemfodaaGreatDoor
open Go.RowKit
attribute [local go_sem ↓] ldvI_eq ldvO_eq
theorem last_cases : ∀ (l:List Txt),l=[] ∨ ∃ t x,l=t++[x]
 | [] => .inl rfl
 | a::l => .inr (match last_cases l with
   | .inl h=>⟨[],a,by rw [h];rfl⟩
   | .inr ⟨t,x,h⟩=>⟨a::t,x,by rw [h];rfl⟩)
theorem links_len {o:ObjL} (h:Small o):(linksL o).length≤70:=by
 have h1:=h.ents
 have h2:=h.pars
 unfold linksL
 split
 ·rw [List.length_map];exact h1
 ·split
  ·rw [List.length_cons,List.length_map];omega
  ·split<;>simp
theorem linksR_ok {o:ObjL} (h:ObjOk o) : ∀ x∈linksL o,LinkOk x:=by
 show ∀ x∈linksL o,x.id.length=32
 intro x hx
 unfold linksL at hx
 split at hx
 ·obtain ⟨e,he,rfl⟩:=List.mem_map.1 hx
  exact (h.ents e he).id
 ·split at hx
  ·rcases List.mem_cons.1 hx with rfl | hx
   ·exact h.tree
   ·obtain ⟨p,hp,rfl⟩:=List.mem_map.1 hx
    exact h.pars p hp
  ·split at hx
   ·rw [List.mem_singleton.1 hx];exact h.target
   ·simp at hx
theorem cut_small {cut:List Txt} {n:Txt} {o:ObjL} (h:Small o):Small (cutO cut n o):=by
 unfold cutO
 split
 ·exact small_cut h
 ·exact h
theorem cut_ok {cut:List Txt} {n:Txt} {o:ObjL} (h:ObjOk o):ObjOk (cutO cut n o):=by
 unfold cutO
 split
 ·exact ok_cut h
 ·exact h
theorem dec_small {t:Txt} {o:ObjL} (h:decO t=some o):Small o:=small_enc (dec_back h).1
theorem objS_some {S:List StL} {n:Txt} {s:StL} {o:ObjL} (hg:getS S n=some s) (hd:decO s.text=some o):objS S n=some o:=by unfold objS;rw [hg];exact hd
theorem objS_none {S:List StL} {n:Txt} (hg:getS S n=none):objS S n=none:=by unfold objS;rw [hg]
theorem nextS_len {S:List StL} {cut:List Txt} (n:Txt):(nextS S cut n).length≤70:=by
 unfold nextS objS
 cases hg:getS S n with
 | none=>simp
 | some s=>
   simp only
   cases hd:decO s.text with
   | none=>simp
   | some o=>unfold nextO;rw [List.length_map];exact links_len (cut_small (dec_small hd))
theorem isS_mem {S:List StL} {n:Txt} (h:isS S n=true):n∈S.map StL.id:=by
 unfold isS objS at h
 cases hg:getS S n with
 | none=>rw [hg] at h;cases h
 | some s=>
   obtain ⟨h1,h2⟩:=getS_id hg
   exact List.mem_map.2 ⟨s,h1,h2⟩
theorem StkI.few {S:List StL} {cut ini todo inn out:List Txt} (h:StkI S cut ini todo inn out):inn.length≤S.length∧out.length≤ini.length+S.length*70:=by
 refine ⟨?_,?_⟩
 ·have:=nodup_len (rise_nodup h.ri) (m:=S.map StL.id) fun x hx=>isS_mem (h.i1 x hx).2
  rwa [List.length_map] at this
 ·exact Nat.le_trans (nodup_len (rise_nodup h.ro) fun x hx=>(h.o1 x hx).1.inU) (allU_len fun x _=>nextS_len _)
theorem insU_len_new {l:List Txt} {x:Txt} (h:RiseL l) (hi:inL l x=false):(insU l x).length=l.length+1:=by
 rw [←insU_put h hi];simp;omega
theorem link_idR {w:World} {g o:Nat} {y:LinkL} (h:w.rangeAt g o (linkC y)):w.rangeAt g o (u8s y.id).toList:=fun j u hu=>h j u (by
 unfold linkC
 rw [List.getElem?_append_left (List.getElem?_eq_some_iff.1 hu).1]
 exact hu)
theorem szLinkR : (Tryz.prog.info? 81).map (·.size)=some 33:=by kernel_rfl
theorem zeroLinkR (W:World):(zeroValue 81).run Tryz.prog W = .ok zLink W:=by
 obtain ⟨i,h1,h2,_⟩:=Tryz.linkTy.hi
 simp [zeroValue,typeInfo,h1,h2]
set_option maxRecDepth 100000 in
set_option maxHeartbeats 8000000 in
theorem graReach_calls {w:World} {base p:Nat} {vl:Value} {S:List StL} (hS:StoAt w base p vl S) (ini cut:List Txt) (hiok : ∀ x∈ini,x.length=32) (hcok : ∀ x∈cut,x.length=32) (hU:ini.length+S.length*70≤800000) (hcl:cut.length≤800000) (vf vc:Value) (hvf:Ids w vf ini) (hvc:Ids w vc cut) :
 Calls Tryz.prog 11 #[.pointer (some ⟨p,0,none⟩),vf,vc] w fun e w' => ∃ va vb a b,e = .returned (.tuple #[va,vb])∧RchIs S cut ini true a∧RchIs S cut ini false b∧OwnIds w' w.heap.size va a∧OwnIds w' w.heap.size vb b∧(∀ x∈a,x.length=32)∧(∀ x∈b,x.length=32)∧a.length≤S.length∧b.length≤ini.length+S.length*70∧Below w.heap.size w w':=by
 obtain ⟨W1,hW1⟩ : ∃ W1,w.alloc (.cells #[.slice none 0 0] 72)=W1:=⟨_,rfl⟩
 have n1:Blk W1 w.heap.size 72 #[.slice none 0 0]:=by rw [←hW1];exact Blk.new _ _ _
 have b1:Below w.heap.size w W1:=by rw [←hW1];exact (Below.refl _ _).alloc (Nat.le_refl _) _
 have e1:W1.heap.size=w.heap.size+1:=by rw [←hW1];exact size_alloc' _ _
 obtain ⟨W2,hW2⟩ : ∃ W2,W1.alloc (.cells #[.slice none 0 0] 72)=W2:=⟨_,rfl⟩
 have bb2:Below W1.heap.size W1 W2:=by rw [←hW2];exact (Below.refl _ _).alloc (Nat.le_refl _) _
 have m2:Blk W2 W1.heap.size 72 #[.slice none 0 0]:=by rw [←hW2];exact Blk.new _ _ _
 have b2:=bthen b1 b1.size bb2
 have n2:=n1.below bb2 n1.lt
 have hof:=Lib.hid (graOf_calls cut hcok (by omega) vc W2 (hvc.below b2))
 have hcln:=fun W (hW:Below w.heap.size w W)=>Lib.hid (cloneGids_calls ini hiok (by omega) vf W (hvf.below hW))
 have hsz2:=b2.size
 have hzi:=zeroIdV
 have hzo:=zeroObj
 have hzl:=zeroLinkR
 have hZ32:(u8s noId).size=32:=by rw [u8s_size];rfl
 have hz72:=zObj_size
 generalize u8s noId=Z at *
 obtain ⟨Af,cf,rfl,_⟩:=hvf
 obtain ⟨Ac,cc,rfl,_⟩:=hvc
 rw [e1] at m2
 go_enter Tryz.func11,Tryz.ntmps11
 go_wp2_with (first
  | ((with_reducible refine hof.out.mono ?_);rintro e w3 ⟨ve,rfl,hve,hb3⟩
     have b3:=bthen b2 hsz2 hb3
     have hcl3:=hcln w3 b3)
  | ((with_reducible refine hcl3.out.mono ?_);rintro e w4 ⟨vt,rfl,hvt,hb4⟩))
 have b4:=bthen b3 b3.size hb4
 have b24:=bthen hb3 hb3.size hb4
 have ha6:Ap ve vt:=fun k hk e=>by
  have h1:=own_lt hve k hk
  have h2:=own_ge hvt k e
  omega
 have hM:RcM w ve (sortU cut) ini [] [] vt (.slice none 0 0) (.slice none 0 0) w4:=⟨hiok,own_low' hvt b3.size,⟨n2.below b24 n2.lt,World.ownsRow_nil _ _ _ _,by simp,List.Pairwise.nil⟩,⟨m2.below b24 m2.lt,World.ownsRow_nil _ _ _ _,by simp,List.Pairwise.nil⟩,own_below (own_low' hve hsz2) hb4, .nil_l _ _ _, .nil_l _ _ _, .nil_l _ _ _, .nil_r _ _ _, .nil_r _ _ _,ha6,b4⟩
 have hst:StkI S cut ini ini [] [] := .start
 obtain ⟨Ae,ce,rfl⟩:=own_form' hve
 have hve0:Hid (sortU cut=sortU cut):=Lib.hid rfl
 clear hof hcln hvt hve hb4 hb3 b24 n2 m2 n1 hcl3
 have hcs:Hid (∀ x∈sortU cut,x.length=32):=Lib.hid fun x hx=>hcok x (((sortU_law cut).2 x).1 hx)
 have hcr:Hid (RiseL (sortU cut)):=Lib.hid (sortU_law cut).1
 have hcsl:(sortU cut).length≤800000:=Nat.le_trans (sortU_len cut) hcl
 have hcO:Hid (∀ n o,cutO (sortU cut) n o=cutO cut n o):=Lib.hid (cutO_sortU cut)
 generalize sortU cut=CS at *
 clear hve0
 go_loopg [11] (S.length*71+ini.length) (fun f vt wr => ∃ (todo inn out:List Txt) (vI vO:Value),f=(S.length-inn.length)*71+todo.length∧todo.length≤ini.length+inn.length*70∧StkI S cut ini todo inn out∧RcM w (.slice Ae CS.length ce) CS todo inn out vt vI vO wr)
 case atStart=>exact ⟨ini,[],[],_,_,by simp,by simp,hst,hM⟩
 case round=>
  clear hM hst b3 b4 b1 bb2 b2 hW1 hW2
  obtain ⟨todo,inn,out,vI,vO,hf,htl,hst,hM⟩:=hrel
  have hfew:=hst.few
  rcases last_cases todo with rfl | ⟨t,x,rfl⟩
  ·obtain ⟨At,ct,rfl⟩:=own_form' hM.t
   have cI:=fun W (hW:Below wr.heap.size wr W)=>(hM.below hW).i.c0
   have cO:=fun W (hW:Below wr.heap.size wr W)=>(hM.below hW).o.c0
   obtain ⟨hr1,hr2⟩:=hst.end_
   have hoI:=hM.i.own
   have hoO:=hM.o.own
   have hkI:=hM.i.ok
   have hkO:=hM.o.ok
   have hbel:=hM.bel
   obtain ⟨AI,cI',rfl⟩:=own_form' hoI
   obtain ⟨AO,cO',rfl⟩:=own_form' hoO
   clear hM hst
   go_wp2_with (fail)
   refine wp_region_class (C:=fun W=>Below wr.heap.size wr W) (by kernel_rfl) (by kernel_rfl) (Below.refl _ _).drew ?_
   repeat
    first
     | ((with_reducible refine wpQuiet_ex ?_ ?_)
        ·(go_simp;done)
        apply Exists.intro
        refine ⟨fun W hW=>?_,?_⟩
        ·first
          | (have q0:=cI W hW
             have q1:=cO W hW
             go_simp
             rfl)
        simp only [Act.put,List.setIfInBounds_toArray,List.set_cons_zero,List.set_cons_succ])
     | ((with_reducible refine wpQuiet_pass ?_ ?_)
        ·(first | rfl | (go_simp;done))
        simp only [Act.put,List.setIfInBounds_toArray,List.set_cons_zero,List.set_cons_succ])
   with_reducible refine wpQuiet_nil ?_
   intro w5 hW5
   go_wp2
   go_ret2
   exact ⟨_,_,inn,out,rfl,hr1,hr2,own_below hoI hW5,own_below hoO hW5,hkI,hkO,hfew.1,hfew.2,bthen hbel hbel.size hW5⟩
  ·have hxi:=hM.tok x (by simp)
   have htl2:t.length+1≤ini.length+inn.length*70:=by rw [List.length_append,List.length_singleton] at htl;exact htl
   have hf2:gk=(S.length-inn.length)*71+(t.length+1):=by rw [hf,List.length_append,List.length_singleton]
   clear hf htl
   have hrow:=Row.of_own (fun y hy=>idC_len (hM.tok y hy)) hM.t
   rw [List.length_append,List.length_singleton] at hrow
   rcases hrow with ⟨_,h⟩ | ⟨g,ct,rfl,_,hrow⟩
   ·simp at h
   have hMp:=hM.pop rfl
   have hw1:IntKind.i64.wrap ((t.length:Nat):Int)=(t.length:Int):=IntWalk.i64_in _ (by omega)
   have hl1:(ldvI ⟨g,t.length*32,none⟩).run Tryz.prog wr = .ok (.agg (u8s x)) wr:=run_ldvI_at (show World.rangeAt wr g (t.length*32) (u8s x).toList from hrow.at_ t.length x (by rw [List.getElem?_append_right (Nat.le_refl _),Nat.sub_self];rfl)) hxi
   have htc:=hrow.le
   rw [List.length_append,List.length_singleton] at htc
   have htc2:(t.length:Int)≤(ct:Int):=by omega
   have htc3:=hrow.top63
   have hx32:(u8s x).size=32:=by rw [u8s_size,hxi]
   have hx1:=u8s_one x
   have hld2 : ∀ W g,Blk W g 42 (u8s x)→(ldvI ⟨g,0,none⟩).run Tryz.prog W = .ok (.agg (u8s x)) W:=fun W g h=>run_ldvI_at (range_blk h) hxi
   have hbel:=hM.bel
   have hbs:=hbel.size
   have hob:=fun W (hW:Below wr.heap.size wr W)=>stoObject_calls (hS.below (bthen hbel hbs hW)) x hxi
   have hpI:w.heap.size<wr.heap.size:=hM.i.lt
   have hpO:w.heap.size+1<wr.heap.size:=hM.o.lt
   have hIlt:=own_lt hM.i.own
   clear hM hrow
   cases hG:getS S x with
   | none=>
     have hob2:Hid (∀ W,Below wr.heap.size wr W→Hid (Calls Tryz.prog 32 #[.pointer (some ⟨p,0,none⟩), .agg (u8s x)] W fun e w'=>e = .returned (.tuple #[.agg zObj, .bool false])∧Below W.heap.size W w')):=Lib.hid fun W hW=>Lib.hid (by
      have h:=hob W hW
      unfold ObjT at h
      rw [hG] at h
      exact h)
     have hns:isS S x=false:=by unfold isS;rw [objS_none hG];rfl
     have hst2:=hst.miss hns
     have hadd:=fun W (hW:Below wr.heap.size wr W)=>Lib.hid (setAdd_calls (hMp.below hW).o (Nat.le_trans hbs hW.size) (by omega) x hxi)
     have hzone:zObj.all (·.oneCell')=true:=zObj_one
     clear hob hG hst hns
     generalize zObj=ZO at *
     go_wp2_with (first
      | ((with_reducible refine lit_new 42 (.tmp 12) (.tmp 29) (u8s x) 32 sz32 hx32 hx1 _ ?_ ?_ ?_ ?_)
         ·first | exact hZ32 | rfl
         ·rfl
         ·rfl
         intro W2 hb2 hbl2
         have hl2:=hld2 W2 _ hb2
         have ho2:=hob2.out W2 hbl2)
      | ((with_reducible refine ho2.out.mono ?_);rintro e w3 ⟨rfl,hb3⟩
         have b3:=bthen hbl2 hbl2.size hb3
         have hi3:=hb2.below hb3 hb2.lt)
      | ((with_reducible refine lit_new 54 (.tmp 13) (.tmp 39) ZO 72 szObj hz72 hzone _ ?_ ?_ ?_ ?_)
         ·first | exact hz72 | rfl
         ·rfl
         ·rfl
         intro W4 hb4 hbl4
         have b4:=bthen b3 b3.size hbl4
         have hl4:=hld2 W4 _ (hi3.below hbl4 hi3.lt)
         have ha4:=hadd W4 b4)
      | ((with_reducible refine ha4.out.mono ?_);rintro e w5 ⟨rfl,vO5,hS5,hf5,hn5⟩))
     have hM5:=(hMp.below b4).out_ hS5 hf5 hn5
     clear hl1 hl2 hl4 hld2 hob2 hadd ha4 ho2 hS5 hf5 hn5
     go_roundg ((S.length-inn.length)*71+t.length)
     case rel=>exact ⟨t,inn,_,vI,vO5,rfl,by omega,hst2,hM5⟩
     case measure=>omega
   | some s=>
     obtain ⟨o,hdo⟩:=(hS.ok.each s (getS_id hG).1).2
     have hobj:=objS_some hG hdo
     have hns:isS S x=true:=by unfold isS;rw [hobj];rfl
     have hnx:nextS S cut x=(linksL (cutO CS x o)).map LinkL.id:=by unfold nextS;rw [hobj,hcO.out];rfl
     have hsm:=dec_small hdo
     have hob2:Hid (∀ W,Below wr.heap.size wr W→Hid (Calls Tryz.prog 32 #[.pointer (some ⟨p,0,none⟩), .agg (u8s x)] W fun e w'=>(∃ A1 A2 k1 k2,e = .returned (.tuple #[.agg (objC o (.slice A1 o.ents.length k1) (.slice A2 o.pars.length k2)).toArray, .bool true])∧ObjV w' (.slice A1 o.ents.length k1) (.slice A2 o.pars.length k2) o∧OwnEnts w' W.heap.size (.slice A1 o.ents.length k1) o.ents∧OwnIds w' W.heap.size (.slice A2 o.pars.length k2) o.pars)∧Below W.heap.size W w')):=Lib.hid fun W hW=>Lib.hid (by
      refine (hob W hW).mono fun e w' ⟨h,hb⟩=>⟨?_,hb⟩
      unfold ObjT at h
      rw [hG] at h
      obtain ⟨o',A1,A2,k1,k2,h1,h2,h3,h4,h5⟩:=h
      rw [hdo] at h1
      injection h1 with h1
      subst h1
      exact ⟨A1,A2,k1,k2,h2,h3,h4,h5⟩)
     have hadd:=fun W (hW:Below wr.heap.size wr W)=>Lib.hid (setAdd_calls (hMp.below hW).i (Nat.le_trans hbs hW.size) (by omega) x hxi)
     clear hob hobj hG
     cases hin:inL inn x with
     | true=>
       have hst2:=hst.seen (inL_iff.1 hin)
       have hiu:Hid (insU inn x=inn):=Lib.hid (insU_in hst.ri hin)
       rw [hin] at hadd
       clear hst hnx hin
       go_wp2_with (first
        | ((with_reducible refine lit_new 42 (.tmp 12) (.tmp 29) (u8s x) 32 sz32 hx32 hx1 _ ?_ ?_ ?_ ?_)
           ·first | exact hZ32 | rfl
           ·rfl
           ·rfl
           intro W2 hb2 hbl2
           have hl2:=hld2 W2 _ hb2
           have ho2:=hob2.out W2 hbl2)
        | ((with_reducible refine ho2.out.mono ?_);rintro e w3 ⟨⟨A1,A2,k1,k2,rfl,hv3,oe3,op3⟩,hb3⟩
           have b3:=bthen hbl2 hbl2.size hb3
           have hi3:=hb2.below hb3 hb2.lt
           have hc72:(objC o (.slice A1 o.ents.length k1) (.slice A2 o.pars.length k2)).toArray.size=72:=by rw [List.size_toArray,objC_len hv3.ok]
           have hcone:=objC_all o A1 A2 o.ents.length k1 o.pars.length k2)
        | ((with_reducible refine lit_new 54 (.tmp 13) (.tmp 39) (objC o (.slice A1 o.ents.length k1) (.slice A2 o.pars.length k2)).toArray 72 szObj hc72 hcone _ ?_ ?_ ?_ ?_)
           ·first | exact hz72 | rfl
           ·rfl
           ·rfl
           intro W4 hb4 hbl4
           have b4:=bthen b3 b3.size hbl4
           have hl4:=hld2 W4 _ (hi3.below hbl4 hi3.lt)
           have ha4:=hadd W4 b4)
        | ((with_reducible refine ha4.out.mono ?_);rintro e w5 ⟨rfl,vI5,hS5,hf5,hn5⟩))
       rw [hiu.out] at hS5
       have hM5:=(hMp.below b4).in_ hS5 hf5 hn5
       clear hl1 hl2 hl4 hld2 hob2 hadd ha4 ho2 hS5 hf5 hn5 hiu
       go_roundg ((S.length-inn.length)*71+t.length)
       case rel=>exact ⟨t,inn,out,vI5,vO,rfl,by omega,hst2,hM5⟩
       case measure=>omega
     | false=>
       have hst2:=hst.new hns
       have hil:=insU_len_new hst.ri hin
       rw [hin] at hadd
       rw [hnx] at hst2
       have hfew2:=hst2.few
       have hlk70:(linksL (cutO CS x o)).length≤70:=links_len (cut_small hsm)
       have hlok:Hid (ObjOk o → ∀ y∈linksL (cutO CS x o),LinkOk y):=Lib.hid fun h y hy=>linksR_ok (cut_ok h) y hy
       have hlc:=fun A1 A2 k1 k2 W (h1:Ids W (.slice Ae CS.length ce) CS) (h2:ObjV W (.slice A1 o.ents.length k1) (.slice A2 o.pars.length k2) o)=>Lib.hid (graLinks_calls o hsm x hxi CS hcs.out hcr.out (by omega) (.slice Ae CS.length ce) A1 A2 k1 k2 W h1 h2)
       obtain ⟨NI,hNI⟩ : ∃ NI,insU inn x=NI:=⟨_,rfl⟩
       rw [hNI] at hil hst2 hfew2 hadd
       obtain ⟨Lk,hLk⟩ : ∃ Lk,linksL (cutO CS x o)=Lk:=⟨_,rfl⟩
       rw [hLk] at hst2 hlk70 hlok hlc
       clear hst hnx hin hNI hLk hns hdo
       go_wp2_with (first
        | ((with_reducible refine lit_new 42 (.tmp 12) (.tmp 29) (u8s x) 32 sz32 hx32 hx1 _ ?_ ?_ ?_ ?_)
           ·first | exact hZ32 | rfl
           ·rfl
           ·rfl
           intro W2 hb2 hbl2
           have hl2:=hld2 W2 _ hb2
           have ho2:=hob2.out W2 hbl2)
        | ((with_reducible refine ho2.out.mono ?_);rintro e w3 ⟨⟨A1,A2,k1,k2,rfl,hv3,oe3,op3⟩,hb3⟩
           have b3:=bthen hbl2 hbl2.size hb3
           have hi3:=hb2.below hb3 hb2.lt
           have hc72:(objC o (.slice A1 o.ents.length k1) (.slice A2 o.pars.length k2)).toArray.size=72:=by rw [List.size_toArray,objC_len hv3.ok]
           have hcone:=objC_all o A1 A2 o.ents.length k1 o.pars.length k2)
        | ((with_reducible refine lit_new 54 (.tmp 13) (.tmp 39) (objC o (.slice A1 o.ents.length k1) (.slice A2 o.pars.length k2)).toArray 72 szObj hc72 hcone _ ?_ ?_ ?_ ?_)
           ·first | exact hz72 | rfl
           ·rfl
           ·rfl
           intro W4 hb4 hbl4
           have b4:=bthen b3 b3.size hbl4
           have hi4:=hi3.below hbl4 hi3.lt
           have hl4:=hld2 W4 _ hi4
           have hok4:=hv3.ok
           have oe4:=own_below oe3 hbl4
           have op4:=own_below op3 hbl4
           have hszW:=hbl2.size
           have hsz3:=hb3.size
           have ha4:=hadd W4 b4)
        | ((with_reducible refine ha4.out.mono ?_);rintro e w5 ⟨rfl,vI5,hS5,hf5,hn5⟩
           have hM5:=(hMp.below b4).in_ hS5 hf5 hn5
           have hnot : ∀ k,wr.heap.size≤k→some k ∉ [some w.heap.size,vI.ownBlock]:=fun k hk hm=>by
            simp only [List.mem_cons,List.not_mem_nil,or_false] at hm
            rcases hm with h | h
            ·injection h with h;omega
            ·have:=hIlt k h.symm;omega
           have hi5:=hf5.blk hi4 (hnot _ (Nat.le_refl _))
           have hO5:ObjB w5 w3.heap.size o (.slice A1 o.ents.length k1) (.slice A2 o.pars.length k2):=⟨hf5.blk hb4 (hnot _ (by omega)),hok4.tree,hok4.target⟩
           have oe5:=hf5.own oe4 fun k hk=>hnot k (by have:=own_ge oe4 k hk;omega)
           have op5:=hf5.own op4 fun k hk=>hnot k (by have:=own_ge op4 k hk;omega)
           have hv5:ObjV w5 (.slice A1 o.ents.length k1) (.slice A2 o.pars.length k2) o:=⟨hok4,SliceAt.of_own (fun e h=>entC_len (hok4.ents e h)) oe5,SliceAt.of_own (fun e h=>idC_len (hok4.pars e h)) op5⟩
           have hl5:=hld2 w5 _ hi5
           have hlo5:=run_ldvO hO5 hok4
           have hlc5:=hlc A1 A2 k1 k2 w5 (SliceAt.of_own (fun y hy=>idC_len (hcs.out y hy)) hM5.e) hv5)
        | ((with_reducible refine hlc5.out.mono ?_);rintro e w6 ⟨vl6,rfl,hol6,hb6⟩
           obtain ⟨Al,cl,rfl⟩:=own_form' hol6))
       have hM6:=hM5.below hb6
       have hlok6:=hlok.out hok4
       have hapl:Ap (.slice (some ⟨g,0,none⟩) t.length ct) (.slice Al Lk.length cl):=fun k hk e=>by
        have h1:=own_lt hM5.t k hk
        have h2:=own_ge hol6 k e
        omega
       have hzl33:zLink.cells.size=33:=zLink_cells
       obtain ⟨ZL,hZL⟩ : ∃ ZL,zLink = .agg ZL:=⟨_,rfl⟩
       rw [hZL] at hzl hzl33
       have hzl33:ZL.size=33:=hzl33
       have hM0:RcM w (.slice Ae CS.length ce) CS (t++(Lk.take 0).map LinkL.id) NI out (.slice (some ⟨g,0,none⟩) t.length ct) vI5 vO w6:=by rw [List.take_zero,List.map_nil,List.append_nil];exact hM6
       clear hl1 hl2 hl4 hl5 hlo5 hlc5 hld2 hob2 hadd ha4 ho2 hS5 hf5 hn5 hlc hM5 hM6 hMp oe3 oe4 oe5 op3 op4 op5 hv3 hv5 hO5 hi3 hi4 hi5 hb2 hb4 hnot hlok hZL hc72 hcone hok4 hsm
       go_loopg [11,53] Lk.length (fun f vt vj wq => ∃ j:Nat,vj = .int .i64 j∧j+f=Lk.length∧RcM w (.slice Ae CS.length ce) CS (t++(Lk.take j).map LinkL.id) NI out vt vI5 vO wq∧OwnLinks wq w5.heap.size (.slice Al Lk.length cl) Lk∧Ap vt (.slice Al Lk.length cl))
       case atStart=>exact ⟨0,rfl,by omega,hM0,hol6,hapl⟩
       case round=>
        clear hM0 hol6 hapl hb6
        obtain ⟨j,rfl,hjf,hMj,hol,hap⟩:=hrel
        cases gk with
        | zero=>
          have hki : ¬ (j:Int)<(Lk.length:Int):=by omega
          obtain rfl:j=Lk.length:=by omega
          rw [List.take_length] at hMj
          clear hol hap
          go_wp2_with (fail)
          go_roundg ((S.length-NI.length)*71+(t++Lk.map LinkL.id).length)
          case rel=>exact ⟨_,NI,out,vI5,vO,rfl,by rw [List.length_append,List.length_map];omega,hst2,hMj⟩
          case measure=>rw [List.length_append,List.length_map];have:=hfew2.1;omega
        | succ f=>
          have hki:(j:Int)<(Lk.length:Int):=by omega
          have hjl:j<Lk.length:=by omega
          obtain ⟨gl,ol,cl',hle,hgl,hra⟩:=(OwnLinks.links hlok6 hol).at_ hjl
          injection hle with e1 e2 e3
          subst e1 e3
          obtain ⟨y,hy⟩ : ∃ y,Lk[j]?=some y:=⟨_,List.getElem?_eq_getElem hjl⟩
          have hyg:Lk[j]=y:=by rw [List.getElem?_eq_getElem hjl] at hy;injection hy
          rw [hyg] at hra
          have hyok:LinkOk y:=hlok6 y (List.mem_of_getElem? hy)
          have hyi:y.id.length=32:=hyok
          have hy33:(linkC y).toArray.size=33:=by rw [List.size_toArray,linkC_len hyok]
          have hyone:(linkC y).toArray.all (·.oneCell')=true:=Array.all_eq_true_iff_forall_mem.2 fun u hu=>linkC_one y u (by simpa using hu)
          have hysz:(Tryz.prog.info? 81).map (·.size)=some (linkC y).length:=by rw [linkC_len hyok];exact szLinkR
          have hldy : ∀ W g,Blk W g 81 (linkC y).toArray→(ldvI ⟨g,0,none⟩).run Tryz.prog W = .ok (.agg (u8s y.id)) W:=fun W g h=>by
           have h2:=range_blk h
           rw [List.toList_toArray] at h2
           exact run_ldvI_at (link_idR h2) hyi
          have hy32:(u8s y.id).size=32:=by rw [u8s_size,hyi]
          have hy132:(u8s y.id).size=1*32:=hy32
          have hy1 : ∀ u∈(u8s y.id).toList,u.oneCell'=true:=idC_one y.id
          have hnxt:Hid (t++(Lk.take (j+1)).map LinkL.id=(t++(Lk.take j).map LinkL.id)++[y.id]):=Lib.hid (by rw [List.take_add_one,hy,List.map_append,List.append_assoc];rfl)
          obtain ⟨T,hT⟩ : ∃ T,t++(Lk.take j).map LinkL.id=T:=⟨_,rfl⟩
          have hTl:T.length≤810000:=by rw [←hT,List.length_append,List.length_map,List.length_take];omega
          rw [hT] at hMj hnxt
          have hbsj:=hMj.bel.size
          obtain ⟨At,ct',rfl⟩:=own_form' hMj.t
          have hTk:T.length+1≤9223372036854775807:=by omega
          have hTb:(T.length+1)*32≤140737488355328:=by omega
          have hlen2:Hid ((T++[y.id]).length=T.length+1):=Lib.hid (by rw [List.length_append];rfl)
          have hrow2:Hid (rowsOf idC (T++[y.id])=rowsOf idC T++(u8s y.id).toList):=Lib.hid (by rw [rowsOf_append,rowsOf_one];rfl)
          have hTok:Hid (∀ z∈T++[y.id],z.length=32):=Lib.hid fun z hz=>(List.mem_append.1 hz).elim (hMj.tok z) fun h=>by rw [List.mem_singleton.1 h];exact hyi
          clear hy hyg hT hlok6
          go_wp2_with (first
           | (refine wpList_load_mid rfl 81 (.tmp 55) rfl gl (ol+j*33) rfl (linkC y) _ hra Tryz.underlying81 rfl hysz ?_)
           | ((with_reducible refine lit_new 81 (.tmp 16) (.tmp 56) (linkC y).toArray 33 szLinkR hy33 hyone _ ?_ ?_ ?_ ?_)
              ·first | exact hzl33 | rfl
              ·rfl
              ·rfl
              intro W7 hb7 hbl7
              have hly:=hldy W7 _ hb7
              have hM7:=hMj.below hbl7
              have hol7:=own_below hol hbl7
              have hsz7:=Nat.le_trans hbsj hbl7.size)
           | ((with_reducible refine lit_slice1 (.tmp 59) Tryz.idsTy (u8s y.id) hy32 (by omega) ?_ ?_);rfl)
           | ((with_reducible refine lit_append_new (.tmp 57) (.tmp 60) 1 _ Tryz.idsTy hM7.t (u8s y.id) hy132 hy1 hTk hTb hsz7 ?_ ?_ ?_);rfl;rfl
              intro v8 w8 ho8 hb8 hg8 hn8))
          have ho9:OwnIds w8 w.heap.size v8 (T++[y.id]):=by unfold OwnIds;rw [hlen2.out,hrow2.out];exact ho8
          have hM8:=hM7.push hTok.out ho9 hg8 hn8
          rw [←hnxt.out] at hM8
          have hol8:=(Far.of_grown hg8).own hol7 fun k hk hm=>hap k (List.mem_singleton.1 hm).symm hk
          have hap8:=hap.newer hn8 (own_lt hol7)
          clear hM7 hMj hol hol7 hly hldy ho8 ho9 hra hap hb7
          go_roundg f
          case rel=>exact ⟨j+1,by go_num,by omega,hM8,hol8,hap8⟩
          case measure=>omega
end Go.Proofs.YtlojebhcemfodaaGreatDoor
namespace Go.Proofs.YtlojebhcemfodaaGreatDoor
open Go.RowKit
/-- An item of the document's store: its object's slices with it. -/
structure DiL where
 st:StL
 o:ObjL
 ve:Value
 vp:Value
def ditC (e:DiL):List Value:=(u8s e.st.id).toList ++ .string (B e.st.text)::objC e.o e.ve e.vp
/-- What holds of each: its object is what its text tells. -/
structure DitOk (w:World) (e:DiL):Prop where
 dec:decO e.st.text=some e.o
 id:e.st.id.length=32
 ok:ObjOk e.o
 oe:OwnEnts w 0 e.ve e.o.ents
 op:OwnIds w 0 e.vp e.o.pars
theorem DitOk.val {w:World} {e:DiL} (h:DitOk w e):ObjV w e.ve e.vp e.o:=⟨h.ok,SliceAt.of_own (fun x hx=>entC_len (h.ok.ents x hx)) h.oe,SliceAt.of_own (fun x hx=>idC_len (h.ok.pars x hx)) h.op⟩
theorem DitOk.below {w w':World} {e:DiL} (h:DitOk w e) (hb:Below w.heap.size w w'):DitOk w' e:=⟨h.dec,h.id,h.ok,own_below h.oe hb,own_below h.op hb⟩
theorem DitOk.forms {w:World} {e:DiL} (h:DitOk w e) : ∃ A1 A2 k1 k2,e.ve = .slice A1 e.o.ents.length k1∧e.vp = .slice A2 e.o.pars.length k2:=by
 obtain ⟨A1,k1,e1,_⟩:=h.val.ents
 obtain ⟨A2,k2,e2,_⟩:=h.val.pars
 exact ⟨A1,A2,k1,k2,e1,e2⟩
theorem ditC_len {w:World} {e:DiL} (h:DitOk w e):(ditC e).length=105:=by
 unfold ditC
 rw [List.length_append,u8s_lenS,h.id,List.length_cons,objC_len h.val.ok]
theorem ditC_one {w:World} {e:DiL} (h:DitOk w e) : ∀ u∈ditC e,u.oneCell'=true:=by
 obtain ⟨A1,A2,k1,k2,e1,e2⟩:=h.forms
 intro u hu
 unfold ditC at hu
 rw [e1,e2] at hu
 rcases List.mem_append.1 hu with hu | hu
 ·exact u8v_one e.st.id u (by simpa [u8s] using hu)
 ·rcases List.mem_cons.1 hu with rfl | hu
  ·rfl
  ·have:=Array.all_eq_true_iff_forall_mem.1 (objC_all e.o A1 A2 e.o.ents.length k1 e.o.pars.length k2) u (by simpa using hu)
   exact this
def zDit : Value := .agg ((u8s noId).toList ++ .string (B [])::objC zeroO (.slice none 0 0) (.slice none 0 0)).toArray
theorem Tryz.ditTy : SliceTy Tryz.prog 26 62 zDit 105 232:=⟨Tryz.underlying26,info_parts (by kernel_rfl),by kernel_rfl,by omega⟩
theorem szDit : (Tryz.prog.info? 62).map (·.size)=some 105:=by kernel_rfl
section
variable {w:World} {g o:Nat} {e:DiL}
theorem dit_id (h:w.rangeAt g o (ditC e)):w.rangeAt g o (u8s e.st.id).toList:=fun j u hu=>h j u (by
 unfold ditC
 rw [List.getElem?_append_left (List.getElem?_eq_some_iff.1 hu).1]
 exact hu)
theorem dit_rest (h:w.rangeAt g o (ditC e)) (hid:e.st.id.length=32):w.rangeAt g (o+32) (.string (B e.st.text)::objC e.o e.ve e.vp):=fun j u hu=>by
 have:=h (32+j) u (by
  unfold ditC
  rw [List.getElem?_append_right (by rw [u8s_lenS,hid];omega),u8s_lenS,hid,Nat.add_sub_cancel_left]
  exact hu)
 rwa [←Nat.add_assoc] at this
theorem dit_text (h:w.rangeAt g o (ditC e)) (hid:e.st.id.length=32):w.cell? ⟨g,o+32,none⟩=some (.string (B e.st.text)):=by
 have:=dit_rest h hid 0 _ rfl
 rwa [Nat.add_zero] at this
theorem dit_obj (h:w.rangeAt g o (ditC e)) (hid:e.st.id.length=32):w.rangeAt g (o+33) (objC e.o e.ve e.vp):=fun j u hu=>by
 have:=dit_rest h hid (1+j) u (by
  rw [show 1+j=j+1 from by omega,List.getElem?_cons_succ]
  exact hu)
 rwa [show o+32+(1+j)=o+33+j from by omega] at this
theorem dit_kind (h:w.rangeAt g o (ditC e)) (hid:e.st.id.length=32):w.cell? ⟨g,o+33,none⟩=some (.int .i64 e.o.kind):=by
 have:=dit_obj h hid 0 _ rfl
 rwa [Nat.add_zero] at this
end
/-- A slice value reads as the document's items. -/
abbrev OwnDits (w:World) (B:Nat) (v:Value) (l:List DiL):Prop:=w.ownsRow B 62 105 v l.length (rowsOf ditC l)
structure DocSt (w:World) (vm:Value) (es:List DiL):Prop where
 own:OwnDits w 0 vm es
 each : ∀ e∈es,DitOk w e
 ok:StoOk (es.map (·.st))
theorem DocSt.at_ {w:World} {vm:Value} {es:List DiL} (h:DocSt w vm es):SliceAt w 105 ditC vm es:=SliceAt.of_own (fun e he=>ditC_len (h.each e he)) h.own
theorem DocSt.below {w w':World} {vm:Value} {es:List DiL} (h:DocSt w vm es) (hb:Below w.heap.size w w'):DocSt w' vm es:=⟨own_below h.own hb,fun e he=>(h.each e he).below hb,h.ok⟩
theorem DocSt.few {w:World} {vm:Value} {es:List DiL} (h:DocSt w vm es):es.length≤500000:=by have:=h.ok.few;rwa [List.length_map] at this
/-- Where an id stands in the document's store. -/
def AtR (es:List DiL) (n:Txt) (e:Ending):Prop:=(∃ (k:Nat) (x:DiL),e = .returned (.int .i64 k)∧es[k]?=some x∧getS (es.map (·.st)) n=some x.st)∨(e = .returned (.int .i64 (-1))∧getS (es.map (·.st)) n=none)
theorem getS_drop {s:List StL} {k:Nat} {x:StL} {n:Txt} (hx:s[k]?=some x):getS (s.drop k) n=if x.id=n then some x else getS (s.drop (k+1)) n:=by
 have hlt:=(List.getElem?_eq_some_iff.1 hx).1
 have he:=(List.getElem?_eq_some_iff.1 hx).2
 rw [List.drop_eq_getElem_cons hlt,he]
 unfold getS
 rw [List.find?_cons]
 by_cases h:x.id=n
 ·rw [if_pos h];simp [h]
 ·rw [if_neg h]
  have:(x.id==n)=false:=by simpa using h
  rw [this]
set_option maxRecDepth 100000 in
set_option maxHeartbeats 2000000 in
theorem docAt_calls {w:World} {vm:Value} {es:List DiL} (h:DocSt w vm es) (n:Txt) (hn:n.length=32) :
 Calls Tryz.prog 46 #[.agg #[vm], .agg (u8s n)] w fun e w'=>AtR es n e∧Below w.heap.size w w':=by
 have hfew:=h.few
 have heach:=h.each
 obtain ⟨A,cap,rfl,hcap1,hcap2,hat⟩:=h.at_
 obtain ⟨W1,hW1⟩ : ∃ W1,w.alloc (.cells #[.slice A es.length cap] 28)=W1:=⟨_,rfl⟩
 have s1:Blk W1 w.heap.size 28 #[.slice A es.length cap]:=by rw [←hW1];exact Blk.new _ _ _
 have b1:Below w.heap.size w W1:=by rw [←hW1];exact (Below.refl _ _).alloc (Nat.le_refl _) _
 obtain ⟨W2,hW2⟩ : ∃ W2,W1.alloc (.cells (u8s n) 42)=W2:=⟨_,rfl⟩
 have n2:Blk W2 W1.heap.size 42 (u8s n):=by rw [←hW2];exact Blk.new _ _ _
 have bb2:Below W1.heap.size W1 W2:=by rw [←hW2];exact (Below.refl _ _).alloc (Nat.le_refl _) _
 have s2:=s1.below bb2 s1.lt
 have b2:=bthen b1 b1.size bb2
 have hG0:Hid (getS ((es.map (·.st)).drop 0) n=getS (es.map (·.st)) n):=rfl
 have hsI:(Tryz.prog.info? 42).map (·.size)=some (u8s n).toList.length:=by rw [u8s_lenS,hn];exact sz32
 have hag:Value.agg (u8s n) = .agg (u8s n).toList.toArray:=by rw [Array.toArray_toList]
 unfold AtR
 generalize getS (es.map (·.st)) n=G at *
 clear h
 go_enter Tryz.func46,Tryz.ntmps46
 go_wp2
 go_loopw [5] (fun vi wr => ∃ k:Nat,vi = .int .i64 k∧k≤es.length∧Hid (getS ((es.map (·.st)).drop k) n=G)∧Below W2.heap.size W2 wr) (fun vi _=>es.length-(intOf vi).toNat)
 case atStart=>exact ⟨0,rfl,by omega,hG0,Below.refl _ _⟩
 case round=>
  obtain ⟨k,rfl,hk,hrel,hbel⟩:=hrel
  have hbr:=bthen b2 b2.size hbel
  have c0:wr.cell? ⟨w.heap.size,0,none⟩=some (.slice A es.length cap):=(s2.below hbel s2.lt).cell 0
  clear hW1 hW2
  by_cases hlt:k<es.length
  ·have hki:(k:Int)<(es.length:Int):=by omega
   obtain ⟨ga,oa,rfl,hga,hca⟩:=hat (by omega)
   obtain ⟨x,hx⟩ : ∃ x,es[k]?=some x:=⟨_,List.getElem?_eq_getElem hlt⟩
   have hxid:=(heach x (List.mem_of_getElem? hx)).id
   have hxr:=dit_id (hca k x hx)
   have hgd:=getS_drop (n:=n) (show (es.map (·.st))[k]?=some x.st by rw [List.getElem?_map,hx];rfl)
   have hsx:(Tryz.prog.info? 42).map (·.size)=some (u8s x.st.id).toList.length:=by rw [u8s_lenS,hxid];exact sz32
   have heq:=fun W=>run_eql_id W x.st.id n hxid hn
   obtain ⟨bo,hbo⟩ : ∃ bo,decide (x.st.id=n)=bo:=⟨_,rfl⟩
   rw [hbo] at heq
   have hbo:=Lib.hid hbo
   have hxh:=Lib.hid hx
   clear hx hca hat heach
   go_wp2
   refine wp_region_class (C:=fun W=>Below W2.heap.size W2 W) (by kernel_rfl) (by kernel_rfl) hbel.drew ?_
   repeat
    first
     | ((with_reducible refine wpQuiet_ex ?_ ?_)
        ·(go_simp;done)
        apply Exists.intro
        refine ⟨fun W hW=>?_,?_⟩
        ·first
          | exact quiet_load_mid _ _ rfl ga (oa+k*105) rfl (u8s x.st.id).toList _ (rangeAt_below hxr hga (bthen b2 b2.size hW)) Tryz.underlying42 rfl hsx rfl
          | exact quiet_load_mid _ _ rfl W1.heap.size 0 rfl (u8s n).toList _ (range_blk (n2.below hW n2.lt)) Tryz.underlying42 rfl hsI rfl
          | (have q0:W.cell? ⟨w.heap.size,0,none⟩=some (.slice (some ⟨ga,oa,none⟩) es.length cap):=(s2.below hW s2.lt).cell 0
             have q1:=heq W
             rw [←Array.toArray_toList (xs:=u8s x.st.id),←Array.toArray_toList (xs:=u8s n)] at q1
             go_simp
             first
              | rfl)
        simp only [Act.put,List.setIfInBounds_toArray,List.set_cons_zero,List.set_cons_succ])
     | ((with_reducible refine wpQuiet_pass ?_ ?_)
        ·(first | rfl | (go_simp;done))
        simp only [Act.put,List.setIfInBounds_toArray,List.set_cons_zero,List.set_cons_succ])
   with_reducible refine wpQuiet_nil ?_
   intro w5 hW5
   have hb5:=bthen b2 b2.size hW5
   have hgd2:=hrel.out
   rw [←List.map_drop] at hgd hgd2
   rw [hgd2] at hgd
   cases bo
   rotate_left
   ·have hxn:x.st.id=n:=of_decide_eq_true hbo.out
    rw [if_pos hxn] at hgd
    have hgd:Hid (G=some x.st):=hgd
    clear hgd2 hxn hrel hG0
    go_wp2
    go_ret
    exact ⟨.inl ⟨k,x,rfl,hxh.out,hgd.out⟩,hb5⟩
   ·have hxn : ¬ x.st.id=n:=of_decide_eq_false hbo.out
    rw [if_neg hxn] at hgd
    have hgd:Hid (getS ((es.map (·.st)).drop (k+1)) n=G):=by show _=_;exact hgd.symm
    clear hgd2 hxn hrel hG0
    go_wp2
    go_roundw
    case rel=>exact ⟨k+1,by go_num,by omega,hgd,hW5⟩
    case measure=>simp [intOf];omega
  ·have hki : ¬ (k:Int)<(es.length:Int):=by omega
   have hGn:Hid (G=none):=by
    show _=_
    rw [←hrel.out,List.drop_eq_nil_of_le (by rw [List.length_map];omega)]
    rfl
   clear hrel hG0 hat
   go_wp2
   go_ret
   exact ⟨.inr ⟨rfl,hGn.out⟩,hbr⟩
end Go.Proofs.YtlojebhcemfodaaGreatDoor
namespace Go.Proofs.YtlojebhcemfodaaGreatDoor
open Go.RowKit
attribute [local go_sem ↓] ldvI_eq ldvO_eq
/-- A store's value and an id, boxed. -/
theorem boxSt {w:World} (vm:Value) (n:Txt) (hn:n.length=32) : ∃ W1 W2,w.alloc (.cells #[vm] 28)=W1∧W1.alloc (.cells (u8s n) 42)=W2∧Below w.heap.size w W2∧w.heap.size<W1.heap.size∧W1.heap.size<W2.heap.size ∧
 ∀ W,Below W2.heap.size W2 W→W.cell? ⟨w.heap.size,0,none⟩=some vm∧W.heap[w.heap.size]?=some (.cells #[vm] 28 (0,0))∧(ldvI ⟨W1.heap.size,0,none⟩).run Tryz.prog W = .ok (.agg (u8s n)) W:=by
 obtain ⟨W1,hW1⟩ : ∃ W1,w.alloc (.cells #[vm] 28)=W1:=⟨_,rfl⟩
 have s1:Blk W1 w.heap.size 28 #[vm]:=by rw [←hW1];exact Blk.new _ _ _
 have b1:Below w.heap.size w W1:=by rw [←hW1];exact (Below.refl _ _).alloc (Nat.le_refl _) _
 obtain ⟨W2,hW2,bb2,n2,ld⟩:=boxId W1 n hn
 refine ⟨W1,W2,hW1,hW2,bthen b1 b1.size bb2,s1.lt,n2.lt,fun W hW=>⟨?_,?_,ld W hW⟩⟩
 ·exact ((s1.below bb2 s1.lt).below hW (Nat.lt_of_lt_of_le s1.lt bb2.size)).cell 0
 ·exact (s1.below bb2 s1.lt).below hW (Nat.lt_of_lt_of_le s1.lt bb2.size)
theorem szDSt : (Tryz.prog.info? 28).map (·.size)=some 1:=by kernel_rfl
def ldvS (p:Addr):Sem Value:=loadVar 28 p
theorem ldvS_eq (p:Addr):loadVar 28 p=ldvS p:=rfl
attribute [local go_sem ↓] ldvS_eq
theorem run_ldvS {w:World} {g:Nat} {vm:Value} (h:w.heap[g]?=some (.cells #[vm] 28 (0,0))):(ldvS ⟨g,0,none⟩).run Tryz.prog w = .ok (.agg #[vm]) w:=
 run_loadVar_row w g _ _ _ _ _ h Tryz.underlying28 rfl szDSt
section
variable {w:World} {vm:Value} {es:List DiL}
set_option maxRecDepth 100000 in
set_option maxHeartbeats 1000000 in
theorem docKind_calls (h:DocSt w vm es) (n:Txt) (hn:n.length=32) :
 Calls Tryz.prog 44 #[.agg #[vm], .agg (u8s n)] w fun e w'=>e = .returned (.int .i64 (kindS (es.map (·.st)) n))∧Below w.heap.size w w':=by
 obtain ⟨W1,W2,hW1,hW2,b2,hl1,hl2,hf⟩:=boxSt (w:=w) vm n hn
 obtain ⟨c2,r2,q2⟩:=hf W2 (Below.refl _ _)
 have l2:=run_ldvS r2
 have ha:=docAt_calls (h.below b2) n hn
 unfold AtR at ha
 obtain ⟨r,hr⟩ : ∃ r,Hid (kindS (es.map (·.st)) n=r):=⟨_,Lib.hid rfl⟩
 rw [hr.out]
 have hrv:=hr.out
 unfold kindS at hrv
 clear hr
 have heach:=h.each
 have hfew:=h.few
 obtain ⟨A,cap,rfl,hcap1,hcap2,hat⟩:=h.at_
 generalize u8s n=NC at *
 cases hG:getS (es.map (·.st)) n with
 | none=>
   rw [hG] at ha
   have ha:Calls Tryz.prog 46 #[.agg #[.slice A es.length cap], .agg NC] W2 fun e w'=>e = .returned (.int .i64 (-1))∧Below W2.heap.size W2 w':=ha.mono fun e w' ⟨h1,h2⟩=>by
    rcases h1 with ⟨k,x,_,_,hx⟩ | ⟨he,_⟩
    ·cases hx
    ·exact ⟨he,h2⟩
   have ha:=Lib.hid ha
   rw [hG] at hrv
   have hrv:Hid (r=0):=hrv.symm
   clear hG hf h heach hat
   go_enter Tryz.func44,Tryz.ntmps44
   go_wp2_with (first
    | ((with_reducible refine ha.out.mono ?_);rintro e w3 ⟨rfl,hb3⟩))
   go_ret
   exact ⟨by rw [hrv.out];rfl,bthen b2 b2.size hb3⟩
 | some y=>
   rw [hG] at ha
   have ha:Calls Tryz.prog 46 #[.agg #[.slice A es.length cap], .agg NC] W2 fun e w'=>(∃ (k:Nat) (x:DiL),e = .returned (.int .i64 k)∧es[k]?=some x∧y=x.st)∧Below W2.heap.size W2 w':=ha.mono fun e w' ⟨h1,h2⟩=>by
    rcases h1 with ⟨k,x,he,hx0,hx⟩ | ⟨_,hx⟩
    ·exact ⟨⟨k,x,he,hx0,by injection hx⟩,h2⟩
    ·cases hx
   have ha:=Lib.hid ha
   rw [hG] at hrv
   simp only at hrv
   have hrv:Hid (∀ o,decO y.text=some o→r=o.kind):=fun o ho=>by rw [ho] at hrv;exact hrv.symm
   clear hG h
   go_enter Tryz.func44,Tryz.ntmps44
   go_wp2_with (first
    | ((with_reducible refine ha.out.mono ?_);rintro e w3 ⟨⟨k,x,rfl,hx,rfl⟩,hb3⟩
       have hlt:=(List.getElem?_eq_some_iff.1 hx).1
       have hk0 : ¬ (k:Int)<0:=by omega
       have hki:(k:Int)<(es.length:Int):=by omega
       obtain ⟨ga,oa,rfl,hga,hca⟩:=hat (by omega)
       have hd:=heach x (List.mem_of_getElem? hx)
       have b3:=bthen b2 b2.size hb3
       have k3:=dit_kind (rangeAt_below (hca k x hx) hga b3) hd.id
       have c3:=(hf w3 hb3).1
       have hdx:=Lib.hid hd.dec
       clear hx hca hat heach hd hf))
   all_goals try (exfalso;omega)
   go_ret
   exact ⟨by rw [hrv.out _ hdx.out];rfl,b3⟩
/-- What the document's Object tells. -/
def ObjG (s:List StL) (n:Txt) (w':World) (e:Ending):Prop:=match getS s n with
 | some x => ∃ o A1 A2 k1 k2,decO x.text=some o∧e = .returned (.agg (objC o (.slice A1 o.ents.length k1) (.slice A2 o.pars.length k2)).toArray)∧ObjV w' (.slice A1 o.ents.length k1) (.slice A2 o.pars.length k2) o
 | none=>e = .returned (.agg zObj)
theorem ObjG.below {s:List StL} {n:Txt} {w w':World} {e:Ending} (h:ObjG s n w e) (hb:Below w.heap.size w w'):ObjG s n w' e:=by
 unfold ObjG at h ⊢
 cases hG:getS s n with
 | none=>rw [hG] at h;exact h
 | some x=>
   rw [hG] at h
   obtain ⟨o,A1,A2,k1,k2,h1,h2,h3⟩:=h
   exact ⟨o,A1,A2,k1,k2,h1,h2,h3.below hb⟩
set_option maxRecDepth 100000 in
set_option maxHeartbeats 2000000 in
/-- The object's slices lie where the store's do. -/
theorem docObjectW_calls {w0:World} (h0:DocSt w0 vm es) (hb0:Below w0.heap.size w0 w) (n:Txt) (hn:n.length=32) :
 Calls Tryz.prog 21 #[.agg #[vm], .agg (u8s n)] w fun e w'=>ObjG (es.map (·.st)) n w0 e∧Below w.heap.size w w':=by
 have h:=h0.below hb0
 have heach0:=h0.each
 clear h0 hb0
 have hzo:=zeroObj
 have hz72:=zObj_size
 have hrb:=fun W=>run_build (P:=Tryz.prog) W _ _ _ built_zObj
 have hsz : ∀ cs:Array Value,cs.size=72→(Tryz.prog.info? 54).map (·.size)=some cs.size:=fun cs h=>by rw [h];exact szObj
 have hzone:zObj.all (·.oneCell')=true:=objC_all zeroO none none 0 0 0 0
 obtain ⟨W1,W2,hW1,hW2,b2,hl1,hl2,hf⟩:=boxSt (w:=w) vm n hn
 obtain ⟨W3,hW3⟩ : ∃ W3,W2.alloc (.cells zObj 54)=W3:=⟨_,rfl⟩
 have z3:Blk W3 W2.heap.size 54 zObj:=by rw [←hW3];exact Blk.new _ _ _
 have bb3:Below W2.heap.size W2 W3:=by rw [←hW3];exact (Below.refl _ _).alloc (Nat.le_refl _) _
 have b3:=bthen b2 b2.size bb3
 obtain ⟨c3,r3,q3⟩:=hf W3 bb3
 have l3:=run_ldvS r3
 have hle2:=b2.size
 have ha:=docAt_calls (h.below b3) n hn
 unfold AtR at ha
 unfold ObjG
 have heach:=h.each
 have hfew:=h.few
 obtain ⟨A,cap,rfl,hcap1,hcap2,hat⟩:=h.at_
 generalize u8s n=NC at *
 generalize zObj=ZO at *
 cases hG:getS (es.map (·.st)) n with
 | none=>
   rw [hG] at ha
   have ha:Calls Tryz.prog 46 #[.agg #[.slice A es.length cap], .agg NC] W3 fun e w'=>e = .returned (.int .i64 (-1))∧Below W3.heap.size W3 w':=ha.mono fun e w' ⟨h1,h2⟩=>by
    rcases h1 with ⟨k,x,_,_,hx⟩ | ⟨he,_⟩
    ·cases hx
    ·exact ⟨he,h2⟩
   have ha:=Lib.hid ha
   clear hG hf h heach heach0 hat
   go_enter Tryz.func21,Tryz.ntmps21
   go_wp2_with (first
    | ((with_reducible refine ha.out.mono ?_);rintro e w4 ⟨rfl,hb4⟩
       have b4:=bthen b3 b3.size hb4
       have z4:=z3.below hb4 z3.lt)
    | (refine wpList_store_row rfl 54 (.tmp 4) (.tmp 11) rfl W2.heap.size ZO rfl rfl _ _ z4 (hsz ZO hz72) rfl hzone ?_))
   refine bodyPost_ret (results_cell_row rfl _ _ W2.heap.size _ _ _ _ rfl (setRow_heap _ _ _ _ _ _ z4) Tryz.underlying54 rfl (hsz ZO hz72)) rfl ⟨rfl,below_setRow b4 hle2 _⟩
 | some y=>
   rw [hG] at ha
   have ha:Calls Tryz.prog 46 #[.agg #[.slice A es.length cap], .agg NC] W3 fun e w'=>(∃ (k:Nat) (x:DiL),e = .returned (.int .i64 k)∧es[k]?=some x∧y=x.st)∧Below W3.heap.size W3 w':=ha.mono fun e w' ⟨h1,h2⟩=>by
    rcases h1 with ⟨k,x,he,hx0,hx⟩ | ⟨_,hx⟩
    ·exact ⟨⟨k,x,he,hx0,by injection hx⟩,h2⟩
    ·cases hx
   have ha:=Lib.hid ha
   clear hG h
   go_enter Tryz.func21,Tryz.ntmps21
   go_wp2_with (first
    | ((with_reducible refine ha.out.mono ?_);rintro e w4 ⟨⟨k,x,rfl,hx,rfl⟩,hb4⟩
       have hlt:=(List.getElem?_eq_some_iff.1 hx).1
       have hk0 : ¬ (k:Int)<0:=by omega
       have hki:(k:Int)<(es.length:Int):=by omega
       obtain ⟨ga,oa,rfl,hga,hca⟩:=hat (by omega)
       have hd:=heach x (List.mem_of_getElem? hx)
       have b4:=bthen b3 b3.size hb4
       have z4:=z3.below hb4 z3.lt
       have ld4:(ldvO ⟨ga,oa+k*105+33,none⟩).run Tryz.prog w4 = .ok (.agg (objC x.o x.ve x.vp).toArray) w4:=run_loadVar_mid (P:=Tryz.prog) w4 ga (oa+k*105+33) 54 (objC x.o x.ve x.vp) _ (dit_obj (rangeAt_below (hca k x hx) hga b4) hd.id) Tryz.underlying54 rfl (by rw [objC_len hd.val.ok];exact szObj)
       have c4:=(hf w4 (bthen bb3 bb3.size hb4)).1
       obtain ⟨A1,A2,k1,k2,e1,e2⟩:=hd.forms
       have hval:=(heach0 x (List.mem_of_getElem? hx)).val
       rw [e1,e2] at ld4 hval
       have hdx:=Lib.hid hd.dec
       have hc72:(objC x.o (.slice A1 x.o.ents.length k1) (.slice A2 x.o.pars.length k2)).toArray.size=72:=by rw [List.size_toArray,objC_len hval.ok]
       have hcone:=objC_all x.o A1 A2 x.o.ents.length k1 x.o.pars.length k2
       clear hx hca hat heach heach0 hd hf e1 e2)
    | (refine wpList_store_row rfl 54 (.tmp 4) (.tmp 17) rfl W2.heap.size (objC x.o (.slice A1 x.o.ents.length k1) (.slice A2 x.o.pars.length k2)).toArray rfl rfl _ _ z4 (hsz _ hc72) (hz72.trans hc72.symm) hcone ?_))
   all_goals try (exfalso;omega)
   have bF:=below_setRow b4 hle2 (objC x.o (.slice A1 x.o.ents.length k1) (.slice A2 x.o.pars.length k2)).toArray
   refine bodyPost_ret (results_cell_row rfl _ _ W2.heap.size _ _ _ _ rfl (setRow_heap _ _ _ _ _ _ z4) Tryz.underlying54 rfl (hsz _ hc72)) rfl ⟨⟨x.o,A1,A2,k1,k2,hdx.out,rfl,hval⟩,bF⟩
theorem docObject_calls (h:DocSt w vm es) (n:Txt) (hn:n.length=32) :
 Calls Tryz.prog 21 #[.agg #[vm], .agg (u8s n)] w fun e w'=>ObjG (es.map (·.st)) n w' e∧Below w.heap.size w w':=(docObjectW_calls h (Below.refl _ _) n hn).mono fun _ _ ⟨q1,q2⟩=>⟨q1.below q2,q2⟩
end
end Go.Proofs.YtlojebhcemfodaaGreatDoor
namespace Go.Proofs.YtlojebhcemfodaaGreatDoor
open Go.RowKit
attribute [local go_sem ↓] ldvI_eq
section
variable {V:Nat→Value} {base:Nat} {vo:Value} {acc:List LinkL} {x:LinkL} {i:Nat} {v:Value} {w w':World}
end
structure LnkC (w0:World) (vo:Value) (acc:List LinkL) (listed:Array Bool) (w:World):Prop where
 bel:Below w0.heap.size w0 w
 own:listed.getD 15 false=false→OwnLinks w w0.heap.size vo acc
section
variable {w0 w w':World} {vo:Value} {acc:List LinkL} {listed:Array Bool}
theorem LnkC.same (h:LnkC w0 vo acc listed w) {i:Nat} (hsz:listed.size=17) (hi:i<17) (h6:i≠15):LnkC w0 vo acc (listed.setIfInBounds i true) w:=
 ⟨h.bel,fun hl=>h.own (by rwa [getD_set (by omega),if_neg (fun e=>h6 e.symm)] at hl)⟩
theorem LnkC.alloc (h:LnkC w0 vo acc listed w) (o:Obj):LnkC w0 vo acc listed (w.alloc o):=⟨h.bel.alloc h.bel.size o,fun hl=>World.ownsRow.alloc (h.own hl) o⟩
theorem LnkC.drew (h:LnkC w0 vo acc listed w):LnkC w0 vo acc listed w.drew:=⟨h.bel.drew,h.own⟩
theorem LnkC.fresh (h:LnkC w0 vo acc listed w) (hl:listed.getD 15 false=false):some w.heap.size≠vo.ownBlock:=fun e=>by
 have:=(World.ownsRow.lt (h.own hl) _ e.symm).2
 omega
theorem LnkC.grown (_:LnkC w0 vo acc listed w) (hsz:listed.size=17) (_:15<17) (_:listed.getD 15 false=false) (hb:Below w0.heap.size w0 w') (_:w.grownBy w' vo.ownBlock):LnkC w0 vo acc (listed.setIfInBounds 15 true) w':=
 ⟨hb,fun hl'=>by rw [getD_set (by omega),if_pos rfl] at hl';cases hl'⟩
end
end Go.Proofs.YtlojebhcemfodaaGreatDoor
namespace Go.Proofs.YtlojebhcemfodaaGreatDoor
open Go.RowKit
attribute [local go_sem ↓] ldvI_eq ldvO_eq ldvS_eq
theorem dec_kind4 {t:Txt} {o:ObjL} (h:decO t=some o):o.kind=1∨o.kind=2∨o.kind=3∨o.kind=4:=by
 have h1:=(dec_back h).1
 unfold encO at h1
 split at h1
 ·rename_i h2
  exact may_kind h2.1
 ·cases h1
def linksS (S:List StL) (n:Txt):List LinkL:=match objS S n with
 | some o=>linksL o
 | none=>[]
/-- What the first j links come to, all or the first one. -/
def keptK (c:Bool) (L:List LinkL) (j:Nat):List Txt:=(L.take (if c=true then Nat.min j 1 else j)).map LinkL.id
theorem keptK_end {S:List StL} {cut:List Txt} {n:Txt} {b:Bool} (hb:b=(decide (kindS S n=3)&&inL cut n)):keptK b (linksS S n) (linksS S n).length=nextS S cut n:=by
 have hk:kindS S n=match objS S n with | some o=>o.kind | none=>0:=by
  unfold kindS objS
  cases getS S n with
  | none=>rfl
  | some s=>rfl
 rw [hk] at hb
 unfold linksS nextS keptK
 cases ho:objS S n with
 | none=>simp
 | some o=>
   rw [ho] at hb
   simp only at hb ⊢
   unfold nextO cutO
   by_cases hc:o.kind=3∧inL cut n=true
   ·rw [if_pos hc]
    have:b=true:=by rw [hb];simp [hc.1,hc.2]
    subst this
    have h3:linksL o=⟨o.tree,2⟩::parLinks o.pars:=links_three hc.1
    have h4:linksL { o with pars:=[] }=[⟨o.tree,2⟩]:=by rw [links_three (o:={ o with pars:=[] }) hc.1];rfl
    rw [h3,h4]
    simp only [if_true,List.length_cons]
    rw [show Nat.min ((parLinks o.pars).length+1) 1=1 from Nat.min_eq_right (by omega)]
    rfl
   ·rw [if_neg hc]
    have:b=false:=by
     rw [hb]
     cases h:inL cut n
     ·simp
     ·have : ¬ o.kind=3:=fun e=>hc ⟨e,h⟩
      simp [this]
    subst this
    simp
section
variable {w:World} {vm:Value} {es:List DiL}
end
end Go.Proofs.YtlojebhcemfodaaGreatDoor
namespace Go.Proofs.YtlojebhcemfodaaGreatDoor
open Go.RowKit
theorem bytesLess_at {a b:List UInt8} (k:Nat) (ha:k<a.length) (hb:k<b.length) (he:a.take k=b.take k) (hne:a.getD k 0≠b.getD k 0) :
 Op.bytesLess a b=decide (((a.getD k 0).toNat:Int)<((b.getD k 0).toNat:Int)):=by
 induction k generalizing a b with
 | zero=>
   cases a with
   | nil=>simp at ha
   | cons x a=>
     cases b with
     | nil=>simp at hb
     | cons y b=>
       have hxy:x≠y:=hne
       rw [Op.bytesLess,Bool.eq_iff_iff]
       simp only [Bool.or_eq_true,Bool.and_eq_true,decide_eq_true_eq,beq_iff_eq,hxy,false_and,or_false,List.getD_cons_zero,UInt8.lt_iff_toNat_lt]
       omega
 | succ k ih=>
   cases a with
   | nil=>simp at ha
   | cons x a=>
     cases b with
     | nil=>simp at hb
     | cons y b=>
       simp only [List.take_succ_cons,List.cons.injEq] at he
       obtain ⟨rfl,he⟩:=he
       have:=ih (a:=a) (b:=b) (by simpa using ha) (by simpa using hb) he hne
       rw [Op.bytesLess]
       simp only [List.getD_cons_succ,beq_self_eq_true,Bool.true_and,UInt8.lt_irrefl,decide_false,Bool.false_or]
       exact this
theorem bytesLess_self (a:List UInt8):Op.bytesLess a a=false:=by
 induction a with
 | nil=>rfl
 | cons x a ih=>rw [Op.bytesLess,ih];simp
set_option maxRecDepth 100000 in
set_option maxHeartbeats 1000000 in
theorem less_calls (a b:List UInt8) (ha:a.length=32) (hb:b.length=32) (w:World) :
 Calls Tryz.prog 152 #[.agg (u8s a), .agg (u8s b)] w fun e w'=>e = .returned (.bool (Op.bytesLess a b))∧Below w.heap.size w w':=by
 have h0:Blk ((w.alloc (.cells (u8s a) 42)).alloc (.cells (u8s b) 42)) w.heap.size 42 (u8s a):=(Blk.new w _ _).alloc _
 have h1:Blk ((w.alloc (.cells (u8s a) 42)).alloc (.cells (u8s b) 42)) (w.heap.size+1) 42 (u8s b):=blk_at2 _ _ _ _
 have bb:Below w.heap.size w ((w.alloc (.cells (u8s a) 42)).alloc (.cells (u8s b) 42)):=((Below.refl _ _).alloc (Nat.le_refl _) _).alloc (by simp) _
 have s0:=fun n=>str_of_id _ ha h0 n
 have s1:=fun n=>str_of_id _ hb h1 n
 go_enter Tryz.func152,Tryz.ntmps152
 go_wp2
 go_quiet (fail)
 go_wp2
 go_ret
 exact ⟨rfl,bdrewN bb nq⟩
set_option maxRecDepth 100000 in
set_option maxHeartbeats 1000000 in
theorem refLess_calls (a b:List UInt8) (ha:a.length=32) (hb:b.length=32) (w:World) :
 Calls Tryz.prog 45 #[.agg (u8s a), .agg (u8s b)] w fun e w'=>e = .returned (.bool (Op.bytesLess a b))∧Below w.heap.size w w':=by
 have h0:Blk ((w.alloc (.cells (u8s a) 42)).alloc (.cells (u8s b) 42)) w.heap.size 42 (u8s a):=(Blk.new w _ _).alloc _
 have h1:Blk ((w.alloc (.cells (u8s a) 42)).alloc (.cells (u8s b) 42)) (w.heap.size+1) 42 (u8s b):=blk_at2 _ _ _ _
 have bb:Below w.heap.size w ((w.alloc (.cells (u8s a) 42)).alloc (.cells (u8s b) 42)):=((Below.refl _ _).alloc (Nat.le_refl _) _).alloc (by simp) _
 obtain ⟨r,hr⟩ : ∃ r,Hid (Op.bytesLess a b=r):=⟨_,rfl⟩
 rw [hr.out]
 go_enter Tryz.func45,Tryz.ntmps45
 go_wp2
 go_loopw [5] (fun i wr => ∃ k:Nat,i = .int .i64 k∧k≤32∧Hid (a.take k=b.take k)∧Blk wr w.heap.size 42 (u8s a)∧Blk wr (w.heap.size+1) 42 (u8s b)∧Below w.heap.size w wr) (fun i _=>32-(intOf i).toNat)
 case atStart=>exact ⟨0,rfl,by omega,rfl,h0,h1,bb⟩
 case round=>
  clear h0 h1 bb
  obtain ⟨k,rfl,hk,hek,h0,h1,hbel⟩:=hrel
  have hbs:=h1.lt
  by_cases hlt:k<32
  ·have hki:(k:Int)<32:=by omega
   have hat:=fun hne=>Lib.hid (bytesLess_at k (by omega) (by omega) hek.out (a:=a) (b:=b) hne)
   have hc0:wr.cell? ⟨w.heap.size,k,none⟩=some (.int .u8 ((a.getD k 0).toNat:Nat)):=by rw [h0.cell,u8s_get a k (by omega)]
   have hc1:wr.cell? ⟨w.heap.size+1,k,none⟩=some (.int .u8 ((b.getD k 0).toNat:Nat)):=by rw [h1.cell,u8s_get b k (by omega)]
   have hnx:Hid (a.getD k 0=b.getD k 0→a.take (k+1)=b.take (k+1)):=by
    intro he
    rw [List.take_add_one,List.take_add_one,hek.out]
    congr 1
    simp only [List.getD,List.getElem?_eq_getElem (show k<a.length by omega),List.getElem?_eq_getElem (show k<b.length by omega),Option.getD_some] at he
    rw [List.getElem?_eq_getElem (show k<a.length by omega),List.getElem?_eq_getElem (show k<b.length by omega),he]
   generalize a.getD k 0=x at *
   generalize b.getD k 0=y at *
   by_cases hxy:x=y
   ·have hn:=Lib.hid (hnx.out hxy)
    have hx1:((x.toNat:Int) != (y.toNat:Int))=false:=by rw [hxy];simp
    clear hat hnx hxy
    go_wp2
    go_quiet (fail)
    go_wp2
    go_roundw
    case rel=>exact ⟨k+1,by go_num,by omega,hn,h0.drewN nq,h1.drewN nq,bdrewN hbel nq⟩
    case measure=>simp [intOf];omega
   ·have hx1:((x.toNat:Int) != (y.toNat:Int))=true:=by
     simp only [bne_iff_ne,ne_eq]
     exact fun h=>hxy (UInt8.toNat_inj.1 (by omega))
    have hres:=hat hxy
    have hrr:Hid (r=decide (x.toNat<y.toNat)):=by show _=_;rw [←hr.out,hres.out];exact decide_eq_decide.2 Int.ofNat_lt
    clear hat hnx hxy hres
    go_wp2
    go_quiet (fail)
    have hc0':(wr.drewN nq).cell? ⟨w.heap.size,k,none⟩=some (.int .u8 (x.toNat:Nat)):=hc0
    have hc1':(wr.drewN nq).cell? ⟨w.heap.size+1,k,none⟩=some (.int .u8 (y.toNat:Nat)):=hc1
    have hbel':=bdrewN hbel nq
    clear hc0 hc1 h0 h1 hbel
    generalize wr.drewN nq=wo at *
    go_wp2
    go_quiet (fail)
    go_wp2
    go_ret
    exact ⟨by rw [hrr.out];rfl,bdrewN hbel' nq⟩
  ·have hk32:k=32:=by omega
   have hki : ¬ (k:Int)<32:=by omega
   have hrr:Hid (r=false):=by
    have:=hek.out
    rw [hk32,List.take_of_length_le (by omega),List.take_of_length_le (by omega)] at this
    show _=_
    rw [←hr.out,this,bytesLess_self]
   clear hk32
   go_wp2
   go_ret
   exact ⟨by rw [hrr.out];rfl,hbel⟩
end Go.Proofs.YtlojebhcemfodaaGreatDoor
namespace Go.Proofs.YtlojebhcemfodaaGreatDoor
open Go.RowKit
attribute [local go_sem ↓] ldvI_eq
theorem idsK {l:List Txt} (h : ∀ x∈l,x.length=32) : ∀ x∈l,(idC x).length=32:=fun x hx=>idC_len (h x hx)
end Go.Proofs.YtlojebhcemfodaaGreatDoor
namespace Go.Proofs.YtlojebhcemfodaaGreatDoor
open Go.RowKit
attribute [local go_sem ↓] ldvI_eq
/-- What lies there while two lists of ids are looked at. -/
structure TwoC (w:World) (ga oa gb ob:Nat) (x:Txt) (w':World):Prop where
 a_:w'.rangeAt ga oa (idC x)
 b_:w'.rangeAt gb ob (idC x)
 bel:Below w.heap.size w w'
theorem TwoC.drew {w:World} {ga oa gb ob:Nat} {x:Txt} {w':World} (h:TwoC w ga oa gb ob x w'):TwoC w ga oa gb ob x w'.drew:=⟨h.a_,h.b_,h.bel.drew⟩
theorem quiet_neq_idC {C:World→Prop} {W:World} {a:Act} {d:Option Tmp} {rt t':TypeId} {pos:String} {af:Array Edge} {gd:Option (Nat×Bool)} {x y:Operand} (p:Txt) (hp:p.length=32)
 (hx:a.eval x = .agg (idC p).toArray) (hy:a.eval y = .agg (idC p).toArray):Oper.quietUpon Tryz.prog C W (.bool false) ((execOp a.eval { dst:=d,op := .binOp .neq 42 x y t',type:=rt,pos:=pos,after:=af,guard:=gd }).run Tryz.prog W):=by
 have e:(idC p).toArray=u8s p:=by simp [idC]
 rw [e] at hx hy
 unfold execOp
 simp only [hx,hy,Sem.run_bind,run_eqGuard_agg _ _ _ _ _ _ _ Tryz.eqGuardType42,run_neq_id W p p hp hp,Result.andThen_ok,decide_true,Bool.not_true]
 exact ⟨rfl,rfl⟩
set_option maxRecDepth 100000 in
set_option maxHeartbeats 2000000 in
theorem refSame02_calls (l:List Txt) (hok : ∀ x∈l,x.length=32) (va vb:Value) (w:World) (ha:Ids w va l) (hb:Ids w vb l) :
 Calls Tryz.prog 13 #[va,vb] w fun e w'=>e = .returned (.bool true)∧Below w.heap.size w w':=by
 have hla:=ha.len
 obtain ⟨A,capa,rfl,ha1,ha2,hata⟩:=ha
 obtain ⟨B',capb,rfl,hb1,hb2,hatb⟩:=hb
 go_enter Tryz.func13,Tryz.ntmps13
 go_wp2
 go_loopw [5] (fun i wr => ∃ k:Nat,i = .int .i64 k∧k≤l.length∧Below w.heap.size w wr) (fun i _=>l.length-(intOf i).toNat)
 case atStart=>exact ⟨0,rfl,by omega,Below.refl _ _⟩
 case round=>
  obtain ⟨k,rfl,hk,hbel⟩:=hrel
  by_cases hlt:k<l.length
  ·have hki:(k:Int)<(l.length:Int):=by omega
   obtain ⟨ga,oa,rfl,hga,hca⟩:=hata (by omega)
   obtain ⟨gb,ob,rfl,hgb,hcb⟩:=hatb (by omega)
   obtain ⟨x,hx⟩ : ∃ x,l[k]?=some x:=⟨_,List.getElem?_eq_getElem hlt⟩
   have hxok:=hok x (List.mem_of_getElem? hx)
   have hS:TwoC w ga (oa+k*32) gb (ob+k*32) x wr:=⟨rangeAt_below (hca k x hx) hga hbel,rangeAt_below (hcb k x hx) hgb hbel,hbel⟩
   have hsz:(Tryz.prog.info? 42).map (·.size)=some (idC x).length:=by rw [idC_len hxok];exact sz32
   clear hx hata hatb hca hcb hbel hok
   go_wp2
   refine wp_region_class (C:=TwoC w ga (oa+k*32) gb (ob+k*32) x) (by kernel_rfl) (by kernel_rfl) hS.drew ?_
   repeat
    first
     | ((with_reducible refine wpQuiet_ex ?_ ?_)
        ·(go_simp;done)
        apply Exists.intro
        refine ⟨fun W hW=>?_,?_⟩
        ·first
          | exact quiet_load_mid _ _ rfl ga (oa+k*32) rfl (idC x) _ hW.a_ Tryz.underlying42 rfl hsz rfl
          | exact quiet_load_mid _ _ rfl gb (ob+k*32) rfl (idC x) _ hW.b_ Tryz.underlying42 rfl hsz rfl
          | ((with_reducible refine quiet_neq_idC x hxok ?_ ?_)<;>rfl)
          | (go_simp
             first
              | rfl)
        simp only [Act.put,List.setIfInBounds_toArray,List.set_cons_zero,List.set_cons_succ])
     | ((with_reducible refine wpQuiet_pass ?_ ?_)
        ·(first | rfl | (go_simp;done))
        simp only [Act.put,List.setIfInBounds_toArray,List.set_cons_zero,List.set_cons_succ])
   with_reducible refine wpQuiet_nil ?_
   intro w5 hW5
   go_wp2
   go_roundw
   case rel=>exact ⟨k+1,by go_num,by omega,hW5.bel⟩
   case measure=>simp [intOf];omega
  ·have hki : ¬ (k:Int)<(l.length:Int):=by omega
   go_wp2
   go_ret
   exact ⟨rfl,hbel⟩
end Go.Proofs.YtlojebhcemfodaaGreatDoor
namespace Go.Proofs.YtlojebhcemfodaaGreatDoor
open Go.RowKit
attribute [local go_sem ↓] ldvI_eq
end Go.Proofs.YtlojebhcemfodaaGreatDoor
namespace Go.Proofs.YtlojebhcemfodaaGreatDoor
/-- A figure's number; 16: it is none. -/
def figN (c:UInt8):Nat:=if 48≤c.toNat∧c.toNat≤57 then c.toNat-48 else if 97≤c.toNat∧c.toNat≤102 then c.toNat-87 else 16
/-- Is it a text of an id? -/
def fg (s:List UInt8) (i:Nat):Nat:=figN (s.getD i 0)
def Figs (s:List UInt8) (i:Nat):Prop := ∀ j,j<i→fg s j<16
theorem Figs.step {s:List UInt8} {i:Nat} (h:Figs s i) (hi:fg s i<16):Figs s (i+1):=fun j hj=>by
 rcases Nat.lt_or_ge j i with h1 | h1
 ·exact h j h1
 ·rw [show j=i from by omega];exact hi
end Go.Proofs.YtlojebhcemfodaaGreatDoor
namespace Go.Proofs.YtlojebhcemfodaaGreatDoor
open Go.RowKit
--FI
end Go.Proofs.YtlojebhcemfodaaGreatDoor
namespace Go.Proofs.YtlojebhcemfodaaGreatDoor
open Go.RowKit
--FI
end Go.Proofs.YtlojebhcemfodaaGreatDoor
namespace Go.Proofs.YtlojebhcemfodaaGreatDoor
open Go.RowKit
theorem results_row2_tmp {P:Program} {fn:Func} {p q r:Tmp} {ty ty':TypeId} (h:fn.results = #[.cell p ty, .cell q ty', .tmp r]) (tmps:Array Value) (w:World) (g g':Nat) (t t':TypeId) (cs cs':Array Value) (fr fr':Nat×Nat) (d d':TypeDesc)
 (hp:tmps.getD p undef = .pointer (some ⟨g,0,none⟩)) (hg:w.heap[g]?=some (.cells cs t fr)) (hq:tmps.getD q undef = .pointer (some ⟨g',0,none⟩)) (hg':w.heap[g']?=some (.cells cs' t' fr'))
 (hu:P.underlying ty=some d) (hd:(match d with | .struct _ | .array _ _=>true | _=>false)=true) (hi:(P.info? ty).map (·.size)=some cs.size)
 (hu':P.underlying ty'=some d') (hd':(match d' with | .struct _ | .array _ _=>true | _=>false)=true) (hi':(P.info? ty').map (·.size)=some cs'.size) :
 (results fn tmps).run P w = .ok (.tuple #[.agg cs, .agg cs',tmps.getD r undef]) w:=by
 have hp':tmps[p]?.getD undef = .pointer (some ⟨g,0,none⟩):=by simpa using hp
 have hq':tmps[q]?.getD undef = .pointer (some ⟨g',0,none⟩):=by simpa using hq
 simp [results,h,hp',hq',asAddr,run_loadVar_row w g t ty cs fr d hg hu hd hi,run_loadVar_row w g' t' ty' cs' fr' d' hg' hu' hd' hi']
theorem built_docSt (A:Option Addr) (n c:Nat):Tryz.prog.built 28 [(0, .slice A n c)]=some #[.slice A n c]:=by kernel_rfl
set_option maxRecDepth 100000 in
theorem built_dit {w:World} (e:DiL) (he:DitOk w e):Tryz.prog.built 62 [(0, .agg (u8s e.st.id)),(1, .string (B e.st.text)),(2, .agg (objC e.o e.ve e.vp).toArray)]=some (ditC e).toArray:=by
 obtain ⟨it,hi,hz,hs,hb⟩:=Tryz.ditTy.hi
 have hpl:(match Tryz.prog.underlying 62 with | some (.struct fields)=>fields.toList.mapM (fun f=>(Tryz.prog.info? f.type).map fun i=>(f.offset,i.size)) | _=>none)=some [(0,32),(32,1),(33,72)]:=by kernel_rfl
 have hu:=Tryz.underlying62
 rw [hu] at hpl
 unfold Program.built
 rw [hi,hu]
 simp only [hz]
 simp only at hpl
 rw [hpl]
 have hid:=he.id
 have hO:=objC_len he.val.ok e.ve e.vp
 have e0:(Value.agg (u8s e.st.id)).cells=u8s e.st.id:=rfl
 have e1:(Value.string (B e.st.text)).cells = #[.string (B e.st.text)]:=rfl
 have e2:(Value.agg (objC e.o e.ve e.vp).toArray).cells=(objC e.o e.ve e.vp).toArray:=rfl
 have f1 : ∀ c:Array Value,Array.foldl (fun cs (x:Value×Nat)=>cs.setIfInBounds (32+x.snd) x.fst) c (#[.string (B e.st.text)]:Array Value).zipIdx=c.setIfInBounds 32 (.string (B e.st.text)):=fun c=>rfl
 have f0 : ∀ c:Array Value,Array.foldl (fun cs (x:Value×Nat)=>cs.setIfInBounds (0+x.snd) x.fst) c (u8s e.st.id).zipIdx=(u8s e.st.id).toList.zipIdx.foldl (fun cs (x:Value×Nat)=>cs.setIfInBounds (0+x.snd) x.fst) c:=fun c=>by
  rw [←Array.foldl_toList,Array.toList_zipIdx]
 have f2 : ∀ c:Array Value,Array.foldl (fun cs (x:Value×Nat)=>cs.setIfInBounds (33+x.snd) x.fst) c (objC e.o e.ve e.vp).toArray.zipIdx=(objC e.o e.ve e.vp).zipIdx.foldl (fun cs (x:Value×Nat)=>cs.setIfInBounds (33+x.snd) x.fst) c:=fun c=>by
  rw [←Array.foldl_toList,Array.toList_zipIdx,List.toList_toArray]
 have g0:(#[(0,32),(32,1),(33,72)]:Array (Nat×Nat))[0]?=some (0,32):=rfl
 have g1:(#[(0,32),(32,1),(33,72)]:Array (Nat×Nat))[1]?=some (32,1):=rfl
 have g2:(#[(0,32),(32,1),(33,72)]:Array (Nat×Nat))[2]?=some (33,72):=rfl
 obtain ⟨Z,hZ⟩ : ∃ Z,Z=zDit.cells:=⟨_,rfl⟩
 have hZl:Z.size=105:=by rw [hZ];rfl
 have hidl:(u8s e.st.id).toList.length=32:=by rw [u8s_lenS,hid]
 have h1:(u8s e.st.id).toList.zipIdx.foldl (fun cs (x:Value×Nat)=>cs.setIfInBounds (0+x.snd) x.fst) Z=([]++((u8s e.st.id).toList++Z.toList.drop 32)).toArray:=by
  refine fold_mid 0 _ [] (u8s e.st.id).toList (Z.toList.drop 32) rfl (by rw [List.length_drop,hidl,Array.length_toList,hZl]) (fun i hi=>absurd hi (by omega)) (fun i=>?_)
  rw [hidl,List.getElem?_drop,Array.getElem?_toList,Nat.zero_add]
 have hd32:Z.toList.drop 32=Z.toList[32]'(by rw [Array.length_toList,hZl];omega)::Z.toList.drop 33:=List.drop_eq_getElem_cons (by rw [Array.length_toList,hZl];omega)
 have h2:(([]:List Value)++((u8s e.st.id).toList++Z.toList.drop 32)).toArray.setIfInBounds 32 (.string (B e.st.text))=((u8s e.st.id).toList++Value.string (B e.st.text)::Z.toList.drop 33).toArray:=by
  rw [List.nil_append,List.setIfInBounds_toArray,List.set_append_right _ _ (by omega),hidl,hd32]
  rfl
 have h3:(objC e.o e.ve e.vp).zipIdx.foldl (fun cs (x:Value×Nat)=>cs.setIfInBounds (33+x.snd) x.fst) ((u8s e.st.id).toList++Value.string (B e.st.text)::Z.toList.drop 33).toArray=(((u8s e.st.id).toList++[Value.string (B e.st.text)])++(objC e.o e.ve e.vp++[])).toArray:=by
  refine fold_mid 33 _ ((u8s e.st.id).toList++[Value.string (B e.st.text)]) (objC e.o e.ve e.vp) [] (by rw [List.length_append,hidl];rfl) ?_ (fun i hi=>?_) (fun i=>?_)
  ·rw [List.size_toArray,List.length_append,hidl,List.length_cons,List.length_drop,Array.length_toList,hZl,hO];rfl
  ·rw [List.getElem?_toArray,show (u8s e.st.id).toList++Value.string (B e.st.text)::Z.toList.drop 33=((u8s e.st.id).toList++[Value.string (B e.st.text)])++Z.toList.drop 33 from by simp,List.getElem?_append_left (by rw [List.length_append,hidl];exact hi)]
  ·rw [List.getElem?_toArray,hO,List.getElem?_eq_none (by rw [List.length_append,hidl,List.length_cons,List.length_drop,Array.length_toList,hZl];omega)]
   rfl
 simp only [Instr.fill,g0,g1,g2,e0,e1,e2]
 rw [←hZ,f0,if_neg (by simp [u8s_size,hid,hZl]),h1,f1,if_neg (by simp [hidl,hZl]),h2,f2,if_neg (by simp [hidl,hZl,hO]),h3]
 congr 1
 unfold ditC
 simp
/-- The document's list while it is laid anew: k items seen; nw stands at p. -/
def accL (es:List DiL) (nw:DiL) (p k:Nat):List DiL:=if p<k then es.take p++[nw]++(es.take k).drop p else es.take k
theorem acc_before {es:List DiL} {nw x:DiL} {p k:Nat} (hx:es[k]?=some x) (h:k<p):accL es nw p (k+1)=accL es nw p k++[x]:=by
 unfold accL
 rw [if_neg (by omega),if_neg (by omega),List.take_add_one,hx]
 rfl
theorem acc_at {es:List DiL} {nw x:DiL} {p:Nat} (hx:es[p]?=some x):accL es nw p (p+1)=accL es nw p p++[nw]++[x]:=by
 have hlt:=(List.getElem?_eq_some_iff.1 hx).1
 unfold accL
 rw [if_pos (by omega),if_neg (by omega),List.take_add_one,hx]
 congr 1
 rw [List.drop_append,List.drop_eq_nil_of_le (by rw [List.length_take];omega),List.length_take,Nat.min_eq_left (by omega),Nat.sub_self]
 rfl
theorem acc_behind {es:List DiL} {nw x:DiL} {p k:Nat} (hx:es[k]?=some x) (h:p<k):accL es nw p (k+1)=accL es nw p k++[x]:=by
 have hlt:=(List.getElem?_eq_some_iff.1 hx).1
 unfold accL
 rw [if_pos (by omega),if_pos h,List.take_add_one,hx,List.drop_append_of_le_length (by rw [List.length_take];omega),List.append_assoc,List.append_assoc,List.append_assoc]
 rfl
theorem acc_end {es:List DiL} {nw:DiL} {p:Nat} (h:p<es.length):accL es nw p es.length=es.take p++[nw]++es.drop p:=by
 unfold accL
 rw [if_pos h,List.take_length]
theorem acc_last {es:List DiL} {nw:DiL}:accL es nw es.length es.length++[nw]=es.take es.length++[nw]++es.drop es.length:=by
 unfold accL
 rw [if_neg (by omega),List.drop_length,List.append_nil]
theorem acc_len (es:List DiL) (nw:DiL) (p k:Nat):(accL es nw p k).length≤es.length+1:=by
 unfold accL
 split
 ·simp only [List.length_append,List.length_take,List.length_drop,List.length_cons,List.length_nil];omega
 ·rw [List.length_take];omega
theorem OwnDits.more {w:World} {B:Nat} {v:Value} {l:List DiL} {x:DiL} (h:w.ownsRow B 62 105 v (l.length+1) (rowsOf ditC l++(ditC x).toArray.toList)):OwnDits w B v (l++[x]):=by
 unfold OwnDits
 rw [rowsOf_append,rowsOf_one,List.length_append]
 rwa [List.toList_toArray] at h
end Go.Proofs.YtlojebhcemfodaaGreatDoor
namespace Go.Proofs.YtlojebhcemfodaaGreatDoor
open Go.RowKit
attribute [local go_sem ↓] ldvO_eq
theorem fold_at (q:Nat) (c0:Array Value) (pre:List Value) (l:List Value) (hq:pre.length=q) (h0:c0.size=q+l.length) (hp : ∀ i,i<q→c0[i]?=pre[i]?) :
 (l.zipIdx 0).foldl (fun cs (x:Value×Nat)=>cs.setIfInBounds (q+x.2) x.1) c0=(pre++l).toArray:=by
 obtain ⟨h1,h2⟩:=Great.foldl_set q l 0 c0
 apply Array.ext_getElem?
 intro k
 rw [h2 k]
 by_cases hk:k<q
 ·rw [if_neg (by omega),hp k hk]
  simp [List.getElem?_append_left (show k<pre.length by omega)]
 ·by_cases hk2:k<q+l.length
  ·rw [if_pos ⟨by omega,by omega,by omega⟩]
   simp [List.getElem?_append_right (show pre.length≤k by omega),hq]
  ·rw [if_neg (by omega),Array.getElem?_eq_none (by omega)]
   symm
   rw [Array.getElem?_eq_none (by simp;omega)]
theorem zEnt_cells : zEnt.cells.size=34:=rfl
set_option maxRecDepth 100000 in
theorem built_entry (n:Txt) (k:Int) (id:Txt) (hid:id.length=32):Tryz.prog.built 134 [(1, .int .i64 k),(0, .string (B n)),(2, .agg (u8s id))]=some (entC ⟨n,k,id⟩).toArray:=by
 obtain ⟨it,hi,hz,hs,hb⟩:=Tryz.entTy.hi
 have hpl:(match Tryz.prog.underlying 134 with | some (.struct fields)=>fields.toList.mapM (fun f=>(Tryz.prog.info? f.type).map fun i=>(f.offset,i.size)) | _=>none)=some [(0,1),(1,1),(2,32)]:=by kernel_rfl
 have hu:=Tryz.underlying134
 rw [hu] at hpl
 unfold Program.built
 rw [hi,hu]
 simp only [hz]
 simp only at hpl
 rw [hpl]
 have h34:=zEnt_cells
 have e0:(Value.string (B n)).cells = #[.string (B n)]:=rfl
 have e1:(Value.int .i64 k).cells = #[.int .i64 k]:=rfl
 have e2:(Value.agg (u8s id)).cells=u8s id:=rfl
 have f0 : ∀ c:Array Value,Array.foldl (fun cs (x:Value×Nat)=>cs.setIfInBounds (0+x.snd) x.fst) c (#[.string (B n)]:Array Value).zipIdx=c.setIfInBounds 0 (.string (B n)):=fun c=>rfl
 have f1 : ∀ c:Array Value,Array.foldl (fun cs (x:Value×Nat)=>cs.setIfInBounds (1+x.snd) x.fst) c (#[.int .i64 k]:Array Value).zipIdx=c.setIfInBounds 1 (.int .i64 k):=fun c=>rfl
 have f2 : ∀ c:Array Value,Array.foldl (fun cs (x:Value×Nat)=>cs.setIfInBounds (2+x.snd) x.fst) c (u8s id).zipIdx=(id.map u8v).zipIdx.foldl (fun cs (x:Value×Nat)=>cs.setIfInBounds (2+x.snd) x.fst) c:=fun c=>by
  rw [←Array.foldl_toList,Array.toList_zipIdx]
  rfl
 have g0:(#[(0,1),(1,1),(2,32)]:Array (Nat×Nat))[0]?=some (0,1):=rfl
 have g1:(#[(0,1),(1,1),(2,32)]:Array (Nat×Nat))[1]?=some (1,1):=rfl
 have g2:(#[(0,1),(1,1),(2,32)]:Array (Nat×Nat))[2]?=some (2,32):=rfl
 have hfin:(id.map u8v).zipIdx.foldl (fun cs (x:Value×Nat)=>cs.setIfInBounds (2+x.snd) x.fst) ((zEnt.cells.setIfInBounds 1 (.int .i64 k)).setIfInBounds 0 (.string (B n)))=(entC ⟨n,k,id⟩).toArray:=by
  rw [fold_at 2 _ [.string (B n), .int .i64 k] (id.map u8v) rfl (by rw [Array.size_setIfInBounds,Array.size_setIfInBounds,h34,List.length_map,hid]) (fun i hi=>by
   rw [Array.getElem?_setIfInBounds,Array.getElem?_setIfInBounds]
   match i,hi with
   | 0,_=>simp [h34]
   | 1,_=>simp [h34])]
  unfold entC
  rw [show (u8s id).toList=id.map u8v from by simp [u8s]]
  rfl
 simp only [Instr.fill,g0,g1,g2,e0,e1,e2]
 rw [f1,if_neg (by simp [h34]),f0,if_neg (by simp [h34]),f2,if_neg (by simp [u8s_size,hid,h34]),hfin]
theorem takeN_le (s:Txt):(takeN s).2≤s.length∧(takeN s).1.length≤s.length:=by
 by_cases h:(getN s).2=0
 ·rw [takeN_zero h];simp
 ·by_cases h2:s.length-(getN s).2<(getN s).1
  ·rw [takeN_short h h2];simp
  ·rw [takeN_yes h (by omega)]
   have:=getN_le s
   simp
   omega
/-- What lies there while an object is guessed: the result's cells, and all that was. -/
structure GsI (w:World) (W:World):Prop where
 z:Blk W w.heap.size 54 zObj
 bel:Below w.heap.size w W
theorem GsI.below {w W W':World} (h:GsI w W) (hb:Below W.heap.size W W'):GsI w W':=⟨h.z.below hb h.z.lt,bthen h.bel h.bel.size hb⟩
theorem GsI.low {w W W':World} {B0:Nat} (h:GsI w W) (hB:w.heap.size<B0) (hb:Below B0 W W'):GsI w W':=⟨(hb.block _ hB).trans h.z,h.bel.trans (hb.mono (Nat.le_of_lt hB))⟩
theorem GsI.set_ {w W:World} (h:GsI w W) {g o:Nat} (hg:w.heap.size<g) (v:Value):GsI w (W.setCell ⟨g,o,none⟩ v):=⟨h.z.far (by simp;omega) v,h.bel.setCell (Nat.le_of_lt hg) v⟩
theorem GsI.cells_ {w W:World} (h:GsI w W) {g o:Nat} (hg:w.heap.size<g) (vs:List Value):GsI w (W.setCells g o vs):=
 ⟨(Far.cells (S:=[some g]) (g:=g) (.inl (by simp)) vs o W (Far.refl _ W)).blk h.z (by simp;omega),h.bel.trans ((Far.cells (S:=[some g]) (g:=g) (.inl (by simp)) vs o W (Far.refl _ W)).below h.bel.size (fun k hk=>by simp at hk;omega))⟩
/-- What guess returns. -/
def GsR (o:ObjL) (w:World) (e:Ending) (w':World):Prop:=(∃ A1 A2 k1 k2,e = .returned (.agg (objC o (.slice A1 o.ents.length k1) (.slice A2 o.pars.length k2)).toArray)∧ObjV w' (.slice A1 o.ents.length k1) (.slice A2 o.pars.length k2) o∧OwnEnts w' w.heap.size (.slice A1 o.ents.length k1) o.ents∧OwnIds w' w.heap.size (.slice A2 o.pars.length k2) o.pars)∧Below w.heap.size w w'
/-- The object is read out and returned. -/
theorem GsR.of {w W:World} {B0:Nat} {o:ObjL} {ve vp:Value} (ho:ObjOk o) (hz:GsI w W) (he:OwnEnts W B0 ve o.ents) (hp:OwnIds W B0 vp o.pars) (hB:w.heap.size<B0) :
 GsR o w (.returned (.agg (objC o ve vp).toArray)) (W.setRow w.heap.size (objC o ve vp).toArray):=by
 have hv:=objV_row ho he hp hB (objC o ve vp).toArray
 obtain ⟨A1,k1,e1,_⟩:=hv.ents
 obtain ⟨A2,k2,e2,_⟩:=hv.pars
 subst e1 e2
 exact ⟨⟨A1,A2,k1,k2,rfl,hv,own_low' (own_row he hB _) (Nat.le_of_lt hB),own_low' (own_row hp hB _) (Nat.le_of_lt hB)⟩,below_setRow hz.bel (Nat.le_refl _) _⟩
theorem zero_smallG : Small zeroO:=⟨by decide,by simp [zeroO],by decide,by decide,by decide,by decide⟩
theorem zero_okG (w:World):ObjV w (.slice none 0 0) (.slice none 0 0) zeroO:=⟨⟨noId_len,noId_len,by simp [zeroO],by simp [zeroO],by decide,by decide,by decide,by decide,by decide,by decide,by decide,by decide⟩,SliceAt.nil,SliceAt.nil⟩
theorem objC_all' (o:ObjL) {ve vp:Value} {W:World} {B0:Nat} (he:OwnEnts W B0 ve o.ents) (hp:OwnIds W B0 vp o.pars):(objC o ve vp).toArray.all (·.oneCell')=true:=by
 obtain ⟨A1,k1,rfl⟩:=own_form' he
 obtain ⟨A2,k2,rfl⟩:=own_form' hp
 exact objC_all o A1 A2 _ k1 _ k2
end Go.Proofs.YtlojebhcemfodaaGreatDoor
namespace Go.Proofs.YtlojebhcemfodaaGreatDoor
open Go.RowKit
attribute [local go_sem ↓] ldvO_eq
theorem ObjB.drewN {w:World} {g:Nat} {o:ObjL} {ve vp:Value} (h:ObjB w g o ve vp) (n:Nat):ObjB (w.drewN n) g o ve vp:=⟨h.blk.drewN n,h.tr,h.ta⟩
theorem GsI.drewN {w W:World} (h:GsI w W) (n:Nat):GsI w (W.drewN n):=⟨h.z.drewN n,bdrewN h.bel n⟩
theorem plainO_ok (n:Int) (hn:0≤n) (hn2:n<256) (t:Txt) (ht:t.length≤5000):ObjOk ⟨n,t,[],noId,[],0,[],noId,0,[]⟩:=
 ⟨noId_len,noId_len,(fun _ h=>by cases h),(fun _ h=>by cases h),by show t.length≤_;omega,by simp,by simp,by simp,by show _≤n;omega,by show n≤_;omega,by simp,by simp⟩
theorem tagO_ok (i:Txt) (hi:i.length=32) (n:Int) (hn:0≤n) (hn2:n<256) (t:Txt) (ht:t.length≤5000):ObjOk ⟨4,[],[],noId,[],0,[],i,n,t⟩:=
 ⟨noId_len,hi,(fun _ h=>by cases h),(fun _ h=>by cases h),by simp,by simp,by show t.length≤_;omega,by simp,by simp,by simp,by show _≤n;omega,by show n≤_;omega⟩
set_option maxRecDepth 100000 in
set_option maxHeartbeats 4000000 in
theorem guess_blob (c:UInt8) (q:Txt) (hl:q.length≤5000) (hk:c.toNat=1) (hn0 : ¬ (takeN q).2=0) (w:World):Calls Tryz.prog 91 #[.string (B (c::q))] w fun e w'=>GsR ⟨1,(takeN q).1,[],noId,[],0,[],noId,0,[]⟩ w e w':=by
 have HK:=Lib.hid hk
 clear hk
 have hzv:=zeroObj
 have hzl:zObj.size=72:=zObj_size
 have htl:(takeN q).1.length≤q.length:=(takeN_le q).2
 have htk : ∀ W,Calls Tryz.prog 108 #[.string (B q)] W fun e w'=>e = .returned (.tuple #[.string (B (takeN q).1), .int .i64 (takeN q).2])∧W=w':=fun W=>(refTake_calls q (by omega) W).mono fun _ _ h=>⟨h.1,h.2.symm⟩
 generalize (takeN q).1=t at *
 generalize (takeN q).2=kn at *
 have hki:((kn:Int)==0)=false:=by simp;omega
 have hex:(B (c::q)).extract 1 (q.length+1)=B q:=by
  rw [extract_B]
  simp
 obtain ⟨W1,hW1⟩ : ∃ W1,w.alloc (.cells zObj 54)=W1:=⟨_,rfl⟩
 have hx1:Blk W1 w.heap.size 54 zObj:=by rw [←hW1];exact Blk.new _ _ _
 have b1:Below w.heap.size w W1:=by rw [←hW1];exact (Below.refl _ _).alloc (Nat.le_refl _) _
 have hs1:w.heap.size<W1.heap.size:=by rw [←hW1];simp
 have htk:=Lib.hid htk
 have hc0:0≤(c.toNat:Int):=by omega
 have hc1:(c.toNat:Int)<256:=by have:=c.toNat_lt;omega
 have hbd:=built_kobj (c.toNat:Int)
 have e72:(objC ⟨c.toNat,[],[],noId,[],0,[],noId,0,[]⟩ (.slice none 0 0) (.slice none 0 0)).toArray.size=72:=by rw [List.size_toArray];unfold objC;simp only [List.length_cons,List.length_append,u8s_len,noId_len,List.length_nil]
 have eone:(objC ⟨c.toNat,[],[],noId,[],0,[],noId,0,[]⟩ (.slice none 0 0) (.slice none 0 0)).toArray.all (·.oneCell')=true:=by kernel_rfl
 obtain ⟨X,hX⟩ : ∃ X,Hid ((⟨1,t,[],noId,[],0,[],noId,0,[]⟩:ObjL)=X):=⟨_,Lib.hid rfl⟩
 rw [hX.out]
 go_enter Tryz.func91,Tryz.ntmps91
 go_upto_if 26 with (first
  | ((with_reducible refine lit_build1 hbd ?_ ?_);rfl)
  | ((with_reducible refine lit_new 54 (.tmp 3) (.tmp 18) (objC ⟨c.toNat,[],[],noId,[],0,[],noId,0,[]⟩ (.slice none 0 0) (.slice none 0 0)).toArray 72 szObj e72 eone _ ?_ ?_ ?_ ?_)
     ·first | exact hzl | rfl
     ·rfl
     ·rfl
     intro W2 hb2 hbl2
     have hO2:ObjB W2 W1.heap.size ⟨c.toNat,[],[],noId,[],0,[],noId,0,[]⟩ (.slice none 0 0) (.slice none 0 0):=⟨hb2,noId_len,noId_len⟩
     have hI2:GsI w W2:=⟨hx1.below hbl2 hx1.lt,bthen b1 b1.size hbl2⟩
     have hgOB:W1.heap.size<W2.heap.size:=hb2.lt
     have tk2:=htk.out W2
     have tk2:=Lib.hid tk2
     clear hx1 b1 hb2 hbl2)
  | ((with_reducible refine tk2.out.mono ?_);rintro e w3 ⟨rfl,rfl⟩
     clear tk2))
 have ck:=hO2.kind
 simp only at ck
 have hsO:=hs1
 clear hW1 hbd e72 eone hs1
 generalize W1.heap.size=gO at *
 obtain ⟨BB,hBB⟩ : ∃ BB,BB=W2.heap.size:=⟨_,rfl⟩
 rw [←hBB] at hgOB
 have hnE:OwnEnts W2 BB (.slice none 0 0) []:=World.ownsRow_nil _ _ _ _
 have hnP:OwnIds W2 BB (.slice none 0 0) []:=World.ownsRow_nil _ _ _ _
 have hBs:BB≤W2.heap.size:=by omega
 have hwB:w.heap.size<BB:=by omega
 clear hBB
 rw [HK.out] at hO2 ck
 have hki2:(c.toNat:Int)=1:=by rw [HK.out];rfl
 clear hc0 hc1
 have f1:=hO2.fr 1
 have d1:=hO2.data
 have hO3:ObjB _ gO ⟨1,t,[],noId,[],0,[],noId,0,[]⟩ _ _:=hO2.setData t
 have hI3:=hI2.set_ (o:=1) hsO (.string (B t))
 have hnE3:=own_set (p:=⟨gO,1,none⟩) hnE hgOB (.string (B t))
 have hnP3:=own_set (p:=⟨gO,1,none⟩) hnP hgOB (.string (B t))
 have hok:ObjOk (⟨1,t,[],noId,[],0,[],noId,0,[]⟩:ObjL):=plainO_ok 1 (by omega) (by omega) t (by omega)
 have hzF:=hI3.z
 have hfin:=Lib.hid (GsR.of hok hI3 hnE3 hnP3 hwB)
 have hq:=run_ldvO hO3 hok
 have hc72:(objC (⟨1,t,[],noId,[],0,[],noId,0,[]⟩:ObjL) (.slice none 0 0) (.slice none 0 0)).toArray.size=72:=by rw [List.size_toArray,objC_len hok]
 have hcone:=objC_all' (⟨1,t,[],noId,[],0,[],noId,0,[]⟩:ObjL) hnE3 hnP3
 clear hI3 hI2 hO2 hO3 hnE hnP hnE3 hnP3
 generalize hcs:(objC (⟨1,t,[],noId,[],0,[],noId,0,[]⟩:ObjL) (.slice none 0 0) (.slice none 0 0)).toArray=cs at *
 have HC:=Lib.hid hcs
 clear hcs
 have hcsz:(Tryz.prog.info? 54).map (·.size)=some cs.size:=by rw [hc72];exact szObj
 go_wp2_with (first
  | (refine wpList_store_row rfl 54 (.tmp 2) (.tmp 138) rfl w.heap.size cs rfl rfl _ _ hzF hcsz (by rw [hzl,hc72]) hcone ?_))
 exact bodyPost_ret (results_cell_row rfl _ _ w.heap.size _ _ _ _ rfl (setRow_heap _ _ _ _ _ _ hzF) Tryz.underlying54 rfl hcsz) rfl (by rw [←hX.out];exact hfin.out)
set_option maxRecDepth 100000 in
set_option maxHeartbeats 4000000 in
theorem guess_other (c:UInt8) (q:Txt) (hl:q.length≤5000) (hk:c.toNat≠1∧c.toNat≠2∧c.toNat≠3∧c.toNat≠4) (hn0 : ¬ (takeN q).2=0) (w:World):Calls Tryz.prog 91 #[.string (B (c::q))] w fun e w'=>GsR (nObj c.toNat) w e w':=by
 have HK:=Lib.hid hk
 clear hk
 have hzv:=zeroObj
 have hzl:zObj.size=72:=zObj_size
 have htl:(takeN q).1.length≤q.length:=(takeN_le q).2
 have htk : ∀ W,Calls Tryz.prog 108 #[.string (B q)] W fun e w'=>e = .returned (.tuple #[.string (B (takeN q).1), .int .i64 (takeN q).2])∧W=w':=fun W=>(refTake_calls q (by omega) W).mono fun _ _ h=>⟨h.1,h.2.symm⟩
 generalize (takeN q).1=t at *
 generalize (takeN q).2=kn at *
 have hki:((kn:Int)==0)=false:=by simp;omega
 have hex:(B (c::q)).extract 1 (q.length+1)=B q:=by
  rw [extract_B]
  simp
 obtain ⟨W1,hW1⟩ : ∃ W1,w.alloc (.cells zObj 54)=W1:=⟨_,rfl⟩
 have hx1:Blk W1 w.heap.size 54 zObj:=by rw [←hW1];exact Blk.new _ _ _
 have b1:Below w.heap.size w W1:=by rw [←hW1];exact (Below.refl _ _).alloc (Nat.le_refl _) _
 have hs1:w.heap.size<W1.heap.size:=by rw [←hW1];simp
 have htk:=Lib.hid htk
 have hc0:0≤(c.toNat:Int):=by omega
 have hc1:(c.toNat:Int)<256:=by have:=c.toNat_lt;omega
 have hbd:=built_kobj (c.toNat:Int)
 have e72:(objC ⟨c.toNat,[],[],noId,[],0,[],noId,0,[]⟩ (.slice none 0 0) (.slice none 0 0)).toArray.size=72:=by rw [List.size_toArray];unfold objC;simp only [List.length_cons,List.length_append,u8s_len,noId_len,List.length_nil]
 have eone:(objC ⟨c.toNat,[],[],noId,[],0,[],noId,0,[]⟩ (.slice none 0 0) (.slice none 0 0)).toArray.all (·.oneCell')=true:=by kernel_rfl
 obtain ⟨X,hX⟩ : ∃ X,Hid (nObj c.toNat=X):=⟨_,Lib.hid rfl⟩
 rw [hX.out]
 go_enter Tryz.func91,Tryz.ntmps91
 go_upto_if 26 with (first
  | ((with_reducible refine lit_build1 hbd ?_ ?_);rfl)
  | ((with_reducible refine lit_new 54 (.tmp 3) (.tmp 18) (objC ⟨c.toNat,[],[],noId,[],0,[],noId,0,[]⟩ (.slice none 0 0) (.slice none 0 0)).toArray 72 szObj e72 eone _ ?_ ?_ ?_ ?_)
     ·first | exact hzl | rfl
     ·rfl
     ·rfl
     intro W2 hb2 hbl2
     have hO2:ObjB W2 W1.heap.size ⟨c.toNat,[],[],noId,[],0,[],noId,0,[]⟩ (.slice none 0 0) (.slice none 0 0):=⟨hb2,noId_len,noId_len⟩
     have hI2:GsI w W2:=⟨hx1.below hbl2 hx1.lt,bthen b1 b1.size hbl2⟩
     have hgOB:W1.heap.size<W2.heap.size:=hb2.lt
     have tk2:=htk.out W2
     have tk2:=Lib.hid tk2
     clear hx1 b1 hb2 hbl2)
  | ((with_reducible refine tk2.out.mono ?_);rintro e w3 ⟨rfl,rfl⟩
     clear tk2))
 have ck:=hO2.kind
 simp only at ck
 have hsO:=hs1
 clear hW1 hbd e72 eone hs1
 generalize W1.heap.size=gO at *
 obtain ⟨BB,hBB⟩ : ∃ BB,BB=W2.heap.size:=⟨_,rfl⟩
 rw [←hBB] at hgOB
 have hnE:OwnEnts W2 BB (.slice none 0 0) []:=World.ownsRow_nil _ _ _ _
 have hnP:OwnIds W2 BB (.slice none 0 0) []:=World.ownsRow_nil _ _ _ _
 have hBs:BB≤W2.heap.size:=by omega
 have hwB:w.heap.size<BB:=by omega
 clear hBB
 have k1:((c.toNat:Int)==1)=false:=by have:=HK.out.1;simp;omega
 have k2:((c.toNat:Int)==2)=false:=by have:=HK.out.2.1;simp;omega
 have k3:((c.toNat:Int)==3)=false:=by have:=HK.out.2.2.1;simp;omega
 have k4:((c.toNat:Int)==4)=false:=by have:=HK.out.2.2.2;simp;omega
 have hok:ObjOk (⟨c.toNat,[],[],noId,[],0,[],noId,0,[]⟩:ObjL):=plainO_ok c.toNat hc0 hc1 [] (by simp)
 have hzF:=hI2.z
 have hfin:=Lib.hid (GsR.of hok hI2 hnE hnP hwB)
 have hq:=run_ldvO hO2 hok
 have hc72:(objC (⟨c.toNat,[],[],noId,[],0,[],noId,0,[]⟩:ObjL) (.slice none 0 0) (.slice none 0 0)).toArray.size=72:=by rw [List.size_toArray,objC_len hok]
 have hcone:=objC_all' (⟨c.toNat,[],[],noId,[],0,[],noId,0,[]⟩:ObjL) hnE hnP
 clear hI2 hO2 hnE hnP
 generalize hcs:(objC (⟨c.toNat,[],[],noId,[],0,[],noId,0,[]⟩:ObjL) (.slice none 0 0) (.slice none 0 0)).toArray=cs at *
 have HC:=Lib.hid hcs
 clear hcs
 have hcsz:(Tryz.prog.info? 54).map (·.size)=some cs.size:=by rw [hc72];exact szObj
 go_wp2_with (first
  | (refine wpList_store_row rfl 54 (.tmp 2) (.tmp 138) rfl w.heap.size cs rfl rfl _ _ hzF hcsz (by rw [hzl,hc72]) hcone ?_))
 exact bodyPost_ret (results_cell_row rfl _ _ w.heap.size _ _ _ _ rfl (setRow_heap _ _ _ _ _ _ hzF) Tryz.underlying54 rfl hcsz) rfl (by rw [←hX.out];exact hfin.out)
set_option maxRecDepth 100000 in
set_option maxHeartbeats 4000000 in
theorem guess_tag (c:UInt8) (q:Txt) (hl:q.length≤5000) (hk:c.toNat=4) (hn0 : ¬ (takeN q).2=0) (w:World):Calls Tryz.prog 91 #[.string (B (c::q))] w fun e w'=>GsR (gTag (takeN q).1) w e w':=by
 have HK:=Lib.hid hk
 clear hk
 have hzv:=zeroObj
 have hzl:zObj.size=72:=zObj_size
 have htl:(takeN q).1.length≤q.length:=(takeN_le q).2
 have htk : ∀ W,Calls Tryz.prog 108 #[.string (B q)] W fun e w'=>e = .returned (.tuple #[.string (B (takeN q).1), .int .i64 (takeN q).2])∧W=w':=fun W=>(refTake_calls q (by omega) W).mono fun _ _ h=>⟨h.1,h.2.symm⟩
 generalize (takeN q).1=t at *
 generalize (takeN q).2=kn at *
 have hki:((kn:Int)==0)=false:=by simp;omega
 have hex:(B (c::q)).extract 1 (q.length+1)=B q:=by
  rw [extract_B]
  simp
 obtain ⟨W1,hW1⟩ : ∃ W1,w.alloc (.cells zObj 54)=W1:=⟨_,rfl⟩
 have hx1:Blk W1 w.heap.size 54 zObj:=by rw [←hW1];exact Blk.new _ _ _
 have b1:Below w.heap.size w W1:=by rw [←hW1];exact (Below.refl _ _).alloc (Nat.le_refl _) _
 have hs1:w.heap.size<W1.heap.size:=by rw [←hW1];simp
 have htk:=Lib.hid htk
 have hc0:0≤(c.toNat:Int):=by omega
 have hc1:(c.toNat:Int)<256:=by have:=c.toNat_lt;omega
 have hbd:=built_kobj (c.toNat:Int)
 have e72:(objC ⟨c.toNat,[],[],noId,[],0,[],noId,0,[]⟩ (.slice none 0 0) (.slice none 0 0)).toArray.size=72:=by rw [List.size_toArray];unfold objC;simp only [List.length_cons,List.length_append,u8s_len,noId_len,List.length_nil]
 have eone:(objC ⟨c.toNat,[],[],noId,[],0,[],noId,0,[]⟩ (.slice none 0 0) (.slice none 0 0)).toArray.all (·.oneCell')=true:=by kernel_rfl
 obtain ⟨X,hX⟩ : ∃ X,Hid (gTag t=X):=⟨_,Lib.hid rfl⟩
 rw [hX.out]
 go_enter Tryz.func91,Tryz.ntmps91
 go_upto_if 26 with (first
  | ((with_reducible refine lit_build1 hbd ?_ ?_);rfl)
  | ((with_reducible refine lit_new 54 (.tmp 3) (.tmp 18) (objC ⟨c.toNat,[],[],noId,[],0,[],noId,0,[]⟩ (.slice none 0 0) (.slice none 0 0)).toArray 72 szObj e72 eone _ ?_ ?_ ?_ ?_)
     ·first | exact hzl | rfl
     ·rfl
     ·rfl
     intro W2 hb2 hbl2
     have hO2:ObjB W2 W1.heap.size ⟨c.toNat,[],[],noId,[],0,[],noId,0,[]⟩ (.slice none 0 0) (.slice none 0 0):=⟨hb2,noId_len,noId_len⟩
     have hI2:GsI w W2:=⟨hx1.below hbl2 hx1.lt,bthen b1 b1.size hbl2⟩
     have hgOB:W1.heap.size<W2.heap.size:=hb2.lt
     have tk2:=htk.out W2
     have tk2:=Lib.hid tk2
     clear hx1 b1 hb2 hbl2)
  | ((with_reducible refine tk2.out.mono ?_);rintro e w3 ⟨rfl,rfl⟩
     clear tk2))
 have ck:=hO2.kind
 simp only at ck
 have hsO:=hs1
 clear hW1 hbd e72 eone hs1
 generalize W1.heap.size=gO at *
 obtain ⟨BB,hBB⟩ : ∃ BB,BB=W2.heap.size:=⟨_,rfl⟩
 rw [←hBB] at hgOB
 have hnE:OwnEnts W2 BB (.slice none 0 0) []:=World.ownsRow_nil _ _ _ _
 have hnP:OwnIds W2 BB (.slice none 0 0) []:=World.ownsRow_nil _ _ _ _
 have hBs:BB≤W2.heap.size:=by omega
 have hwB:w.heap.size<BB:=by omega
 clear hBB
 rw [HK.out] at hO2 ck
 have hki2:(c.toNat:Int)=4:=by rw [HK.out];rfl
 clear hc0 hc1
 have hXX:Hid ((⟨4,[],[],noId,[],0,[],idG (t.drop 1),(t.headD 0).toNat,(takeN ((t.drop 1).drop 32)).1⟩:ObjL)=X):=hX.out
 clear hX
 have hX:=hXX
 clear hXX
 have hc8:(t.headD 0).toNat<256:=(t.headD 0).toNat_lt
 have hb1 : ∀ W,Calls Tryz.prog 109 #[.string (B t), .int .i64 1] W fun e w'=>e = .returned (.string (B (t.drop 1))) ∧ ∃ nq,w'=W.drewN nq:=fun W=>behind_calls t 1 (by omega) (by omega) W
 have hd1:(t.drop 1).length≤t.length:=by rw [List.length_drop];omega
 have hd2:((t.drop 1).drop 32).length≤t.length:=by rw [List.length_drop,List.length_drop];omega
 have hb2 : ∀ W,Calls Tryz.prog 109 #[.string (B (t.drop 1)), .int .i64 32] W fun e w'=>e = .returned (.string (B ((t.drop 1).drop 32))) ∧ ∃ nq,w'=W.drewN nq:=fun W=>behind_calls (t.drop 1) 32 (by omega) (by omega) W
 have hgi:=fun W=>Lib.hid (gid_calls (t.drop 1) (by omega) W)
 have hi32:=idG_len (t.drop 1)
 have htk2 : ∀ W,Calls Tryz.prog 108 #[.string (B ((t.drop 1).drop 32))] W fun e w'=>e = .returned (.tuple #[.string (B (takeN ((t.drop 1).drop 32)).1), .int .i64 (takeN ((t.drop 1).drop 32)).2])∧W=w':=fun W=>(refTake_calls ((t.drop 1).drop 32) (by omega) W).mono fun _ _ h=>⟨h.1,h.2.symm⟩
 have hnl:=(takeN_le ((t.drop 1).drop 32)).2
 have hb1:=Lib.hid hb1
 have hb2:=Lib.hid hb2
 have htk2:=Lib.hid htk2
 generalize takeN ((t.drop 1).drop 32)=NM at *
 generalize (t.drop 1).drop 32=R2 at *
 generalize idG (t.drop 1)=ID at *
 generalize t.drop 1=R1 at *
 cases t with
 | nil=>
   go_upto_region 35 with (first
    | ((with_reducible refine (hb1.out _).mono ?_);rintro e w3 ⟨rfl,nq,rfl⟩
       have hO3:=(hO2).drewN nq
       have hI3:=(hI2).drewN nq)
    | ((with_reducible refine (hgi _).out.mono ?_);rintro e w4 ⟨rfl,hb4⟩
       have hO4:=hO3.below hb4
       have hI4:=hI3.below hb4
       have ht4:=hO4.there 38 32 (by omega)
       clear hO3 hI3)
    | ((with_reducible refine lit_store_id (.tmp 130) (.tmp 129) gO 38 ID hi32 ht4 ?_ ?_ ?_);rfl;rfl
       have hO5:=hO4.setTarget ID hi32
       have hI5:=hI4.cells_ (o:=38) hsO (u8s ID).toList
       clear hO4 hI4 ht4)
    | ((with_reducible refine (hb2.out _).mono ?_);rintro e w6 ⟨rfl,nq2,rfl⟩
       have hO6:=hO5.drewN nq2
       have hI6:=hI5.drewN nq2
       have f71:=hO6.fr 71
       have c71:=hO6.name
       clear hO5 hI5)
    | ((with_reducible refine (htk2.out _).mono ?_);rintro e w7 ⟨rfl,rfl⟩
       have hO7:=hO6.setName NM.1
       have hI7:=hI6.set_ (o:=71) hsO (.string (B NM.1))
       clear hO6 hI6))
   have hE7 : ∀ W,OwnEnts W BB (.slice none 0 0) []:=fun W=>World.ownsRow_nil _ _ _ _
   have hP7 : ∀ W,OwnIds W BB (.slice none 0 0) []:=fun W=>World.ownsRow_nil _ _ _ _
   have hok:ObjOk (⟨4,[],[],noId,[],0,[],ID,0,NM.1⟩:ObjL):=tagO_ok ID hi32 0 (by omega) (by omega) NM.1 (by omega)
   have hzF:=hI7.z
   have hfin:=Lib.hid (GsR.of hok hI7 (hE7 _) (hP7 _) hwB)
   have hq:=run_ldvO hO7 hok
   have hc72:(objC (⟨4,[],[],noId,[],0,[],ID,0,NM.1⟩:ObjL) (.slice none 0 0) (.slice none 0 0)).toArray.size=72:=by rw [List.size_toArray,objC_len hok]
   have hcone:=objC_all' (⟨4,[],[],noId,[],0,[],ID,0,NM.1⟩:ObjL) (hE7 W2) (hP7 W2)
   clear hI7 hO7 hE7 hP7
   generalize hcs:(objC (⟨4,[],[],noId,[],0,[],ID,0,NM.1⟩:ObjL) (.slice none 0 0) (.slice none 0 0)).toArray=cs at *
   have HC:=Lib.hid hcs
   clear hcs
   have hcsz:(Tryz.prog.info? 54).map (·.size)=some cs.size:=by rw [hc72];exact szObj
   go_wp2_with (first
    | (refine wpList_store_row rfl 54 (.tmp 2) (.tmp 138) rfl w.heap.size cs rfl rfl _ _ hzF hcsz (by rw [hzl,hc72]) hcone ?_))
   exact bodyPost_ret (results_cell_row rfl _ _ w.heap.size _ _ _ _ rfl (setRow_heap _ _ _ _ _ _ hzF) Tryz.underlying54 rfl hcsz) rfl (by rw [←hX.out];exact hfin.out)
 | cons d t1=>
   have f70:=hO2.fr 70
   have c70:=hO2.of_
   have hd0:0≤(d.toNat:Int):=by omega
   have hd1:(d.toNat:Int)<256:=by have:=d.toNat_lt;omega
   have hOa:=hO2.setOf d.toNat
   have hIa:=hI2.set_ (o:=70) hsO (.int .i64 d.toNat)
   go_upto_region 35 with (first
    | ((with_reducible refine (hb1.out _).mono ?_);rintro e w3 ⟨rfl,nq,rfl⟩
       have hO3:=(hOa).drewN nq
       have hI3:=(hIa).drewN nq)
    | ((with_reducible refine (hgi _).out.mono ?_);rintro e w4 ⟨rfl,hb4⟩
       have hO4:=hO3.below hb4
       have hI4:=hI3.below hb4
       have ht4:=hO4.there 38 32 (by omega)
       clear hO3 hI3)
    | ((with_reducible refine lit_store_id (.tmp 130) (.tmp 129) gO 38 ID hi32 ht4 ?_ ?_ ?_);rfl;rfl
       have hO5:=hO4.setTarget ID hi32
       have hI5:=hI4.cells_ (o:=38) hsO (u8s ID).toList
       clear hO4 hI4 ht4)
    | ((with_reducible refine (hb2.out _).mono ?_);rintro e w6 ⟨rfl,nq2,rfl⟩
       have hO6:=hO5.drewN nq2
       have hI6:=hI5.drewN nq2
       have f71:=hO6.fr 71
       have c71:=hO6.name
       clear hO5 hI5)
    | ((with_reducible refine (htk2.out _).mono ?_);rintro e w7 ⟨rfl,rfl⟩
       have hO7:=hO6.setName NM.1
       have hI7:=hI6.set_ (o:=71) hsO (.string (B NM.1))
       clear hO6 hI6))
   have hE7 : ∀ W,OwnEnts W BB (.slice none 0 0) []:=fun W=>World.ownsRow_nil _ _ _ _
   have hP7 : ∀ W,OwnIds W BB (.slice none 0 0) []:=fun W=>World.ownsRow_nil _ _ _ _
   have hok:ObjOk (⟨4,[],[],noId,[],0,[],ID,d.toNat,NM.1⟩:ObjL):=tagO_ok ID hi32 d.toNat hd0 hd1 NM.1 (by omega)
   have hzF:=hI7.z
   have hfin:=Lib.hid (GsR.of hok hI7 (hE7 _) (hP7 _) hwB)
   have hq:=run_ldvO hO7 hok
   have hc72:(objC (⟨4,[],[],noId,[],0,[],ID,d.toNat,NM.1⟩:ObjL) (.slice none 0 0) (.slice none 0 0)).toArray.size=72:=by rw [List.size_toArray,objC_len hok]
   have hcone:=objC_all' (⟨4,[],[],noId,[],0,[],ID,d.toNat,NM.1⟩:ObjL) (hE7 W2) (hP7 W2)
   clear hI7 hO7 hE7 hP7
   generalize hcs:(objC (⟨4,[],[],noId,[],0,[],ID,d.toNat,NM.1⟩:ObjL) (.slice none 0 0) (.slice none 0 0)).toArray=cs at *
   have HC:=Lib.hid hcs
   clear hcs
   have hcsz:(Tryz.prog.info? 54).map (·.size)=some cs.size:=by rw [hc72];exact szObj
   go_wp2_with (first
    | (refine wpList_store_row rfl 54 (.tmp 2) (.tmp 138) rfl w.heap.size cs rfl rfl _ _ hzF hcsz (by rw [hzl,hc72]) hcone ?_))
   exact bodyPost_ret (results_cell_row rfl _ _ w.heap.size _ _ _ _ rfl (setRow_heap _ _ _ _ _ _ hzF) Tryz.underlying54 rfl hcsz) rfl (by rw [←hX.out];exact hfin.out)
end Go.Proofs.YtlojebhcemfodaaGreatDoor
