/- Texts of this claim, laid together: GraR, DocW, DocO, LinkR, GraD, Less. -/
import Derived.Test.YtlojebhcemfodaaGreatDoorMg
import Derived.Great.BuildSlice
namespace Go.Proofs.YtlojebhcemfodaaGreatDoor
open Go.RowKit
attribute [local go_sem ↓] ldvI_eq ldvO_eq
theorem last_cases : ∀ (l:List Txt),l=[] ∨ ∃ t x,l=t++[x]
 | [] => .inl rfl
 | a::l => .inr (match last_cases l with
   | .inl h=>⟨[],a,by rw [h];rfl⟩
   | .inr ⟨t,x,h⟩=>⟨a::t,x,by rw [h];rfl⟩)
theorem links_len {o:ObjL} (h:Small o):(linksL o).length≤70:=by
 have h1:=h.ents
 have h2:=h.pars
 unfold linksL
 split
 ·rw [List.length_map];exact h1
 ·split
  ·rw [List.length_cons,List.length_map];omega
  ·split<;>simp
theorem linksR_ok {o:ObjL} (h:ObjOk o) : ∀ x∈linksL o,LinkOk x:=by
 show ∀ x∈linksL o,x.id.length=32
 intro x hx
 unfold linksL at hx
 split at hx
 ·obtain ⟨e,he,rfl⟩:=List.mem_map.1 hx
  exact (h.ents e he).id
 ·split at hx
  ·rcases List.mem_cons.1 hx with rfl | hx
   ·exact h.tree
   ·obtain ⟨p,hp,rfl⟩:=List.mem_map.1 hx
    exact h.pars p hp
  ·split at hx
   ·rw [List.mem_singleton.1 hx];exact h.target
   ·simp at hx
theorem cut_small {cut:List Txt} {n:Txt} {o:ObjL} (h:Small o):Small (cutO cut n o):=by
 unfold cutO
 split
 ·exact small_cut h
 ·exact h
theorem cut_ok {cut:List Txt} {n:Txt} {o:ObjL} (h:ObjOk o):ObjOk (cutO cut n o):=by
 unfold cutO
 split
 ·exact ok_cut h
 ·exact h
theorem dec_small {t:Txt} {o:ObjL} (h:decO t=some o):Small o:=small_enc (dec_back h).1
theorem objS_some {S:List StL} {n:Txt} {s:StL} {o:ObjL} (hg:getS S n=some s) (hd:decO s.text=some o):objS S n=some o:=by unfold objS;rw [hg];exact hd
theorem objS_none {S:List StL} {n:Txt} (hg:getS S n=none):objS S n=none:=by unfold objS;rw [hg]
theorem nextS_len {S:List StL} {cut:List Txt} (n:Txt):(nextS S cut n).length≤70:=by
 unfold nextS objS
 cases hg:getS S n with
 | none=>simp
 | some s=>
   simp only
   cases hd:decO s.text with
   | none=>simp
   | some o=>unfold nextO;rw [List.length_map];exact links_len (cut_small (dec_small hd))
theorem isS_mem {S:List StL} {n:Txt} (h:isS S n=true):n∈S.map StL.id:=by
 unfold isS objS at h
 cases hg:getS S n with
 | none=>rw [hg] at h;cases h
 | some s=>
   obtain ⟨h1,h2⟩:=getS_id hg
   exact List.mem_map.2 ⟨s,h1,h2⟩
theorem StkI.few {S:List StL} {cut ini todo inn out:List Txt} (h:StkI S cut ini todo inn out):inn.length≤S.length∧out.length≤ini.length+S.length*70:=by
 refine ⟨?_,?_⟩
 ·have:=nodup_len (rise_nodup h.ri) (m:=S.map StL.id) fun x hx=>isS_mem (h.i1 x hx).2
  rwa [List.length_map] at this
 ·exact Nat.le_trans (nodup_len (rise_nodup h.ro) fun x hx=>(h.o1 x hx).1.inU) (allU_len fun x _=>nextS_len _)
theorem insU_len_new {l:List Txt} {x:Txt} (h:RiseL l) (hi:inL l x=false):(insU l x).length=l.length+1:=by
 rw [←insU_put h hi];simp;omega
theorem link_idR {w:World} {g o:Nat} {y:LinkL} (h:w.rangeAt g o (linkC y)):w.rangeAt g o (u8s y.id).toList:=fun j u hu=>h j u (by
 unfold linkC
 rw [List.getElem?_append_left (List.getElem?_eq_some_iff.1 hu).1]
 exact hu)
theorem szLinkR : (Tryz.prog.info? 81).map (·.size)=some 33:=by kernel_rfl
theorem zeroLinkR (W:World):(zeroValue 81).run Tryz.prog W = .ok zLink W:=by
 obtain ⟨i,h1,h2,_⟩:=Tryz.linkTy.hi
 simp [zeroValue,typeInfo,h1,h2]
set_option maxRecDepth 100000 in
set_option maxHeartbeats 8000000 in
theorem graReach_calls {w:World} {base p:Nat} {vl:Value} {S:List StL} (hS:StoAt w base p vl S) (ini cut:List Txt) (hiok : ∀ x∈ini,x.length=32) (hcok : ∀ x∈cut,x.length=32) (hU:ini.length+S.length*70≤800000) (hcl:cut.length≤800000) (vf vc:Value) (hvf:Ids w vf ini) (hvc:Ids w vc cut) :
 Calls Tryz.prog 11 #[.pointer (some ⟨p,0,none⟩),vf,vc] w fun e w' => ∃ va vb a b,e = .returned (.tuple #[va,vb])∧RchIs S cut ini true a∧RchIs S cut ini false b∧OwnIds w' w.heap.size va a∧OwnIds w' w.heap.size vb b∧(∀ x∈a,x.length=32)∧(∀ x∈b,x.length=32)∧a.length≤S.length∧b.length≤ini.length+S.length*70∧Below w.heap.size w w':=by
 obtain ⟨W1,hW1⟩ : ∃ W1,w.alloc (.cells #[.slice none 0 0] 72)=W1:=⟨_,rfl⟩
 have n1:Blk W1 w.heap.size 72 #[.slice none 0 0]:=by rw [←hW1];exact Blk.new _ _ _
 have b1:Below w.heap.size w W1:=by rw [←hW1];exact (Below.refl _ _).alloc (Nat.le_refl _) _
 have e1:W1.heap.size=w.heap.size+1:=by rw [←hW1];exact size_alloc' _ _
 obtain ⟨W2,hW2⟩ : ∃ W2,W1.alloc (.cells #[.slice none 0 0] 72)=W2:=⟨_,rfl⟩
 have bb2:Below W1.heap.size W1 W2:=by rw [←hW2];exact (Below.refl _ _).alloc (Nat.le_refl _) _
 have m2:Blk W2 W1.heap.size 72 #[.slice none 0 0]:=by rw [←hW2];exact Blk.new _ _ _
 have b2:=bthen b1 b1.size bb2
 have n2:=n1.below bb2 n1.lt
 have hof:=Lib.hid (graOf_calls cut hcok (by omega) vc W2 (hvc.below b2))
 have hcln:=fun W (hW:Below w.heap.size w W)=>Lib.hid (cloneGids_calls ini hiok (by omega) vf W (hvf.below hW))
 have hsz2:=b2.size
 have hzi:=zeroIdV
 have hzo:=zeroObj
 have hzl:=zeroLinkR
 have hZ32:(u8s noId).size=32:=by rw [u8s_size];rfl
 have hz72:=zObj_size
 generalize u8s noId=Z at *
 obtain ⟨Af,cf,rfl,_⟩:=hvf
 obtain ⟨Ac,cc,rfl,_⟩:=hvc
 rw [e1] at m2
 go_enter Tryz.func11,Tryz.ntmps11
 go_wp2_with (first
  | ((with_reducible refine hof.out.mono ?_);rintro e w3 ⟨ve,rfl,hve,hb3⟩
     have b3:=bthen b2 hsz2 hb3
     have hcl3:=hcln w3 b3)
  | ((with_reducible refine hcl3.out.mono ?_);rintro e w4 ⟨vt,rfl,hvt,hb4⟩))
 have b4:=bthen b3 b3.size hb4
 have b24:=bthen hb3 hb3.size hb4
 have ha6:Ap ve vt:=fun k hk e=>by
  have h1:=own_lt hve k hk
  have h2:=own_ge hvt k e
  omega
 have hM:RcM w ve (sortU cut) ini [] [] vt (.slice none 0 0) (.slice none 0 0) w4:=⟨hiok,own_low' hvt b3.size,⟨n2.below b24 n2.lt,World.ownsRow_nil _ _ _ _,by simp,List.Pairwise.nil⟩,⟨m2.below b24 m2.lt,World.ownsRow_nil _ _ _ _,by simp,List.Pairwise.nil⟩,own_below (own_low' hve hsz2) hb4, .nil_l _ _ _, .nil_l _ _ _, .nil_l _ _ _, .nil_r _ _ _, .nil_r _ _ _,ha6,b4⟩
 have hst:StkI S cut ini ini [] [] := .start
 obtain ⟨Ae,ce,rfl⟩:=own_form' hve
 have hve0:Hid (sortU cut=sortU cut):=Lib.hid rfl
 clear hof hcln hvt hve hb4 hb3 b24 n2 m2 n1 hcl3
 have hcs:Hid (∀ x∈sortU cut,x.length=32):=Lib.hid fun x hx=>hcok x (((sortU_law cut).2 x).1 hx)
 have hcr:Hid (RiseL (sortU cut)):=Lib.hid (sortU_law cut).1
 have hcsl:(sortU cut).length≤800000:=Nat.le_trans (sortU_len cut) hcl
 have hcO:Hid (∀ n o,cutO (sortU cut) n o=cutO cut n o):=Lib.hid (cutO_sortU cut)
 generalize sortU cut=CS at *
 clear hve0
 go_loopg [11] (S.length*71+ini.length) (fun f vt wr => ∃ (todo inn out:List Txt) (vI vO:Value),f=(S.length-inn.length)*71+todo.length∧todo.length≤ini.length+inn.length*70∧StkI S cut ini todo inn out∧RcM w (.slice Ae CS.length ce) CS todo inn out vt vI vO wr)
 case atStart=>exact ⟨ini,[],[],_,_,by simp,by simp,hst,hM⟩
 case round=>
  clear hM hst b3 b4 b1 bb2 b2 hW1 hW2
  obtain ⟨todo,inn,out,vI,vO,hf,htl,hst,hM⟩:=hrel
  have hfew:=hst.few
  rcases last_cases todo with rfl | ⟨t,x,rfl⟩
  ·obtain ⟨At,ct,rfl⟩:=own_form' hM.t
   have cI:=fun W (hW:Below wr.heap.size wr W)=>(hM.below hW).i.c0
   have cO:=fun W (hW:Below wr.heap.size wr W)=>(hM.below hW).o.c0
   obtain ⟨hr1,hr2⟩:=hst.end_
   have hoI:=hM.i.own
   have hoO:=hM.o.own
   have hkI:=hM.i.ok
   have hkO:=hM.o.ok
   have hbel:=hM.bel
   obtain ⟨AI,cI',rfl⟩:=own_form' hoI
   obtain ⟨AO,cO',rfl⟩:=own_form' hoO
   clear hM hst
   go_wp2_with (fail)
   refine wp_region_class (C:=fun W=>Below wr.heap.size wr W) (by kernel_rfl) (by kernel_rfl) (Below.refl _ _).drew ?_
   repeat
    first
     | ((with_reducible refine wpQuiet_ex ?_ ?_)
        ·(go_simp;done)
        apply Exists.intro
        refine ⟨fun W hW=>?_,?_⟩
        ·first
          | (have q0:=cI W hW
             have q1:=cO W hW
             go_simp
             rfl)
        simp only [Act.put,List.setIfInBounds_toArray,List.set_cons_zero,List.set_cons_succ])
     | ((with_reducible refine wpQuiet_pass ?_ ?_)
        ·(first | rfl | (go_simp;done))
        simp only [Act.put,List.setIfInBounds_toArray,List.set_cons_zero,List.set_cons_succ])
   with_reducible refine wpQuiet_nil ?_
   intro w5 hW5
   go_wp2
   go_ret2
   exact ⟨_,_,inn,out,rfl,hr1,hr2,own_below hoI hW5,own_below hoO hW5,hkI,hkO,hfew.1,hfew.2,bthen hbel hbel.size hW5⟩
  ·have hxi:=hM.tok x (by simp)
   have htl2:t.length+1≤ini.length+inn.length*70:=by rw [List.length_append,List.length_singleton] at htl;exact htl
   have hf2:gk=(S.length-inn.length)*71+(t.length+1):=by rw [hf,List.length_append,List.length_singleton]
   clear hf htl
   have hrow:=Row.of_own (fun y hy=>idC_len (hM.tok y hy)) hM.t
   rw [List.length_append,List.length_singleton] at hrow
   rcases hrow with ⟨_,h⟩ | ⟨g,ct,rfl,_,hrow⟩
   ·simp at h
   have hMp:=hM.pop rfl
   have hw1:IntKind.i64.wrap ((t.length:Nat):Int)=(t.length:Int):=IntWalk.i64_in _ (by omega)
   have hl1:(ldvI ⟨g,t.length*32,none⟩).run Tryz.prog wr = .ok (.agg (u8s x)) wr:=run_ldvI_at (show World.rangeAt wr g (t.length*32) (u8s x).toList from hrow.at_ t.length x (by rw [List.getElem?_append_right (Nat.le_refl _),Nat.sub_self];rfl)) hxi
   have htc:=hrow.le
   rw [List.length_append,List.length_singleton] at htc
   have htc2:(t.length:Int)≤(ct:Int):=by omega
   have htc3:=hrow.top63
   have hx32:(u8s x).size=32:=by rw [u8s_size,hxi]
   have hx1:=u8s_one x
   have hld2 : ∀ W g,Blk W g 42 (u8s x)→(ldvI ⟨g,0,none⟩).run Tryz.prog W = .ok (.agg (u8s x)) W:=fun W g h=>run_ldvI_at (range_blk h) hxi
   have hbel:=hM.bel
   have hbs:=hbel.size
   have hob:=fun W (hW:Below wr.heap.size wr W)=>stoObject_calls (hS.below (bthen hbel hbs hW)) x hxi
   have hpI:w.heap.size<wr.heap.size:=hM.i.lt
   have hpO:w.heap.size+1<wr.heap.size:=hM.o.lt
   have hIlt:=own_lt hM.i.own
   clear hM hrow
   cases hG:getS S x with
   | none=>
     have hob2:Hid (∀ W,Below wr.heap.size wr W→Hid (Calls Tryz.prog 32 #[.pointer (some ⟨p,0,none⟩), .agg (u8s x)] W fun e w'=>e = .returned (.tuple #[.agg zObj, .bool false])∧Below W.heap.size W w')):=Lib.hid fun W hW=>Lib.hid (by
      have h:=hob W hW
      unfold ObjT at h
      rw [hG] at h
      exact h)
     have hns:isS S x=false:=by unfold isS;rw [objS_none hG];rfl
     have hst2:=hst.miss hns
     have hadd:=fun W (hW:Below wr.heap.size wr W)=>Lib.hid (setAdd_calls (hMp.below hW).o (Nat.le_trans hbs hW.size) (by omega) x hxi)
     have hzone:zObj.all (·.oneCell')=true:=zObj_one
     clear hob hG hst hns
     generalize zObj=ZO at *
     go_wp2_with (first
      | ((with_reducible refine lit_new 42 (.tmp 12) (.tmp 29) (u8s x) 32 sz32 hx32 hx1 _ ?_ ?_ ?_ ?_)
         ·first | exact hZ32 | rfl
         ·rfl
         ·rfl
         intro W2 hb2 hbl2
         have hl2:=hld2 W2 _ hb2
         have ho2:=hob2.out W2 hbl2)
      | ((with_reducible refine ho2.out.mono ?_);rintro e w3 ⟨rfl,hb3⟩
         have b3:=bthen hbl2 hbl2.size hb3
         have hi3:=hb2.below hb3 hb2.lt)
      | ((with_reducible refine lit_new 54 (.tmp 13) (.tmp 39) ZO 72 szObj hz72 hzone _ ?_ ?_ ?_ ?_)
         ·first | exact hz72 | rfl
         ·rfl
         ·rfl
         intro W4 hb4 hbl4
         have b4:=bthen b3 b3.size hbl4
         have hl4:=hld2 W4 _ (hi3.below hbl4 hi3.lt)
         have ha4:=hadd W4 b4)
      | ((with_reducible refine ha4.out.mono ?_);rintro e w5 ⟨rfl,vO5,hS5,hf5,hn5⟩))
     have hM5:=(hMp.below b4).out_ hS5 hf5 hn5
     clear hl1 hl2 hl4 hld2 hob2 hadd ha4 ho2 hS5 hf5 hn5
     go_roundg ((S.length-inn.length)*71+t.length)
     case rel=>exact ⟨t,inn,_,vI,vO5,rfl,by omega,hst2,hM5⟩
     case measure=>omega
   | some s=>
     obtain ⟨o,hdo⟩:=(hS.ok.each s (getS_id hG).1).2
     have hobj:=objS_some hG hdo
     have hns:isS S x=true:=by unfold isS;rw [hobj];rfl
     have hnx:nextS S cut x=(linksL (cutO CS x o)).map LinkL.id:=by unfold nextS;rw [hobj,hcO.out];rfl
     have hsm:=dec_small hdo
     have hob2:Hid (∀ W,Below wr.heap.size wr W→Hid (Calls Tryz.prog 32 #[.pointer (some ⟨p,0,none⟩), .agg (u8s x)] W fun e w'=>(∃ A1 A2 k1 k2,e = .returned (.tuple #[.agg (objC o (.slice A1 o.ents.length k1) (.slice A2 o.pars.length k2)).toArray, .bool true])∧ObjV w' (.slice A1 o.ents.length k1) (.slice A2 o.pars.length k2) o∧OwnEnts w' W.heap.size (.slice A1 o.ents.length k1) o.ents∧OwnIds w' W.heap.size (.slice A2 o.pars.length k2) o.pars)∧Below W.heap.size W w')):=Lib.hid fun W hW=>Lib.hid (by
      refine (hob W hW).mono fun e w' ⟨h,hb⟩=>⟨?_,hb⟩
      unfold ObjT at h
      rw [hG] at h
      obtain ⟨o',A1,A2,k1,k2,h1,h2,h3,h4,h5⟩:=h
      rw [hdo] at h1
      injection h1 with h1
      subst h1
      exact ⟨A1,A2,k1,k2,h2,h3,h4,h5⟩)
     have hadd:=fun W (hW:Below wr.heap.size wr W)=>Lib.hid (setAdd_calls (hMp.below hW).i (Nat.le_trans hbs hW.size) (by omega) x hxi)
     clear hob hobj hG
     cases hin:inL inn x with
     | true=>
       have hst2:=hst.seen (inL_iff.1 hin)
       have hiu:Hid (insU inn x=inn):=Lib.hid (insU_in hst.ri hin)
       rw [hin] at hadd
       clear hst hnx hin
       go_wp2_with (first
        | ((with_reducible refine lit_new 42 (.tmp 12) (.tmp 29) (u8s x) 32 sz32 hx32 hx1 _ ?_ ?_ ?_ ?_)
           ·first | exact hZ32 | rfl
           ·rfl
           ·rfl
           intro W2 hb2 hbl2
           have hl2:=hld2 W2 _ hb2
           have ho2:=hob2.out W2 hbl2)
        | ((with_reducible refine ho2.out.mono ?_);rintro e w3 ⟨⟨A1,A2,k1,k2,rfl,hv3,oe3,op3⟩,hb3⟩
           have b3:=bthen hbl2 hbl2.size hb3
           have hi3:=hb2.below hb3 hb2.lt
           have hc72:(objC o (.slice A1 o.ents.length k1) (.slice A2 o.pars.length k2)).toArray.size=72:=by rw [List.size_toArray,objC_len hv3.ok]
           have hcone:=objC_all o A1 A2 o.ents.length k1 o.pars.length k2)
        | ((with_reducible refine lit_new 54 (.tmp 13) (.tmp 39) (objC o (.slice A1 o.ents.length k1) (.slice A2 o.pars.length k2)).toArray 72 szObj hc72 hcone _ ?_ ?_ ?_ ?_)
           ·first | exact hz72 | rfl
           ·rfl
           ·rfl
           intro W4 hb4 hbl4
           have b4:=bthen b3 b3.size hbl4
           have hl4:=hld2 W4 _ (hi3.below hbl4 hi3.lt)
           have ha4:=hadd W4 b4)
        | ((with_reducible refine ha4.out.mono ?_);rintro e w5 ⟨rfl,vI5,hS5,hf5,hn5⟩))
       rw [hiu.out] at hS5
       have hM5:=(hMp.below b4).in_ hS5 hf5 hn5
       clear hl1 hl2 hl4 hld2 hob2 hadd ha4 ho2 hS5 hf5 hn5 hiu
       go_roundg ((S.length-inn.length)*71+t.length)
       case rel=>exact ⟨t,inn,out,vI5,vO,rfl,by omega,hst2,hM5⟩
       case measure=>omega
     | false=>
       have hst2:=hst.new hns
       have hil:=insU_len_new hst.ri hin
       rw [hin] at hadd
       rw [hnx] at hst2
       have hfew2:=hst2.few
       have hlk70:(linksL (cutO CS x o)).length≤70:=links_len (cut_small hsm)
       have hlok:Hid (ObjOk o → ∀ y∈linksL (cutO CS x o),LinkOk y):=Lib.hid fun h y hy=>linksR_ok (cut_ok h) y hy
       have hlc:=fun A1 A2 k1 k2 W (h1:Ids W (.slice Ae CS.length ce) CS) (h2:ObjV W (.slice A1 o.ents.length k1) (.slice A2 o.pars.length k2) o)=>Lib.hid (graLinks_calls o hsm x hxi CS hcs.out hcr.out (by omega) (.slice Ae CS.length ce) A1 A2 k1 k2 W h1 h2)
       obtain ⟨NI,hNI⟩ : ∃ NI,insU inn x=NI:=⟨_,rfl⟩
       rw [hNI] at hil hst2 hfew2 hadd
       obtain ⟨Lk,hLk⟩ : ∃ Lk,linksL (cutO CS x o)=Lk:=⟨_,rfl⟩
       rw [hLk] at hst2 hlk70 hlok hlc
       clear hst hnx hin hNI hLk hns hdo
       go_wp2_with (first
        | ((with_reducible refine lit_new 42 (.tmp 12) (.tmp 29) (u8s x) 32 sz32 hx32 hx1 _ ?_ ?_ ?_ ?_)
           ·first | exact hZ32 | rfl
           ·rfl
           ·rfl
           intro W2 hb2 hbl2
           have hl2:=hld2 W2 _ hb2
           have ho2:=hob2.out W2 hbl2)
        | ((with_reducible refine ho2.out.mono ?_);rintro e w3 ⟨⟨A1,A2,k1,k2,rfl,hv3,oe3,op3⟩,hb3⟩
           have b3:=bthen hbl2 hbl2.size hb3
           have hi3:=hb2.below hb3 hb2.lt
           have hc72:(objC o (.slice A1 o.ents.length k1) (.slice A2 o.pars.length k2)).toArray.size=72:=by rw [List.size_toArray,objC_len hv3.ok]
           have hcone:=objC_all o A1 A2 o.ents.length k1 o.pars.length k2)
        | ((with_reducible refine lit_new 54 (.tmp 13) (.tmp 39) (objC o (.slice A1 o.ents.length k1) (.slice A2 o.pars.length k2)).toArray 72 szObj hc72 hcone _ ?_ ?_ ?_ ?_)
           ·first | exact hz72 | rfl
           ·rfl
           ·rfl
           intro W4 hb4 hbl4
           have b4:=bthen b3 b3.size hbl4
           have hi4:=hi3.below hbl4 hi3.lt
           have hl4:=hld2 W4 _ hi4
           have hok4:=hv3.ok
           have oe4:=own_below oe3 hbl4
           have op4:=own_below op3 hbl4
           have hszW:=hbl2.size
           have hsz3:=hb3.size
           have ha4:=hadd W4 b4)
        | ((with_reducible refine ha4.out.mono ?_);rintro e w5 ⟨rfl,vI5,hS5,hf5,hn5⟩
           have hM5:=(hMp.below b4).in_ hS5 hf5 hn5
           have hnot : ∀ k,wr.heap.size≤k→some k ∉ [some w.heap.size,vI.ownBlock]:=fun k hk hm=>by
            simp only [List.mem_cons,List.not_mem_nil,or_false] at hm
            rcases hm with h | h
            ·injection h with h;omega
            ·have:=hIlt k h.symm;omega
           have hi5:=hf5.blk hi4 (hnot _ (Nat.le_refl _))
           have hO5:ObjB w5 w3.heap.size o (.slice A1 o.ents.length k1) (.slice A2 o.pars.length k2):=⟨hf5.blk hb4 (hnot _ (by omega)),hok4.tree,hok4.target⟩
           have oe5:=hf5.own oe4 fun k hk=>hnot k (by have:=own_ge oe4 k hk;omega)
           have op5:=hf5.own op4 fun k hk=>hnot k (by have:=own_ge op4 k hk;omega)
           have hv5:ObjV w5 (.slice A1 o.ents.length k1) (.slice A2 o.pars.length k2) o:=⟨hok4,SliceAt.of_own (fun e h=>entC_len (hok4.ents e h)) oe5,SliceAt.of_own (fun e h=>idC_len (hok4.pars e h)) op5⟩
           have hl5:=hld2 w5 _ hi5
           have hlo5:=run_ldvO hO5 hok4
           have hlc5:=hlc A1 A2 k1 k2 w5 (SliceAt.of_own (fun y hy=>idC_len (hcs.out y hy)) hM5.e) hv5)
        | ((with_reducible refine hlc5.out.mono ?_);rintro e w6 ⟨vl6,rfl,hol6,hb6⟩
           obtain ⟨Al,cl,rfl⟩:=own_form' hol6))
       have hM6:=hM5.below hb6
       have hlok6:=hlok.out hok4
       have hapl:Ap (.slice (some ⟨g,0,none⟩) t.length ct) (.slice Al Lk.length cl):=fun k hk e=>by
        have h1:=own_lt hM5.t k hk
        have h2:=own_ge hol6 k e
        omega
       have hzl33:zLink.cells.size=33:=zLink_cells
       obtain ⟨ZL,hZL⟩ : ∃ ZL,zLink = .agg ZL:=⟨_,rfl⟩
       rw [hZL] at hzl hzl33
       have hzl33:ZL.size=33:=hzl33
       have hM0:RcM w (.slice Ae CS.length ce) CS (t++(Lk.take 0).map LinkL.id) NI out (.slice (some ⟨g,0,none⟩) t.length ct) vI5 vO w6:=by rw [List.take_zero,List.map_nil,List.append_nil];exact hM6
       clear hl1 hl2 hl4 hl5 hlo5 hlc5 hld2 hob2 hadd ha4 ho2 hS5 hf5 hn5 hlc hM5 hM6 hMp oe3 oe4 oe5 op3 op4 op5 hv3 hv5 hO5 hi3 hi4 hi5 hb2 hb4 hnot hlok hZL hc72 hcone hok4 hsm
       go_loopg [11,53] Lk.length (fun f vt vj wq => ∃ j:Nat,vj = .int .i64 j∧j+f=Lk.length∧RcM w (.slice Ae CS.length ce) CS (t++(Lk.take j).map LinkL.id) NI out vt vI5 vO wq∧OwnLinks wq w5.heap.size (.slice Al Lk.length cl) Lk∧Ap vt (.slice Al Lk.length cl))
       case atStart=>exact ⟨0,rfl,by omega,hM0,hol6,hapl⟩
       case round=>
        clear hM0 hol6 hapl hb6
        obtain ⟨j,rfl,hjf,hMj,hol,hap⟩:=hrel
        cases gk with
        | zero=>
          have hki : ¬ (j:Int)<(Lk.length:Int):=by omega
          obtain rfl:j=Lk.length:=by omega
          rw [List.take_length] at hMj
          clear hol hap
          go_wp2_with (fail)
          go_roundg ((S.length-NI.length)*71+(t++Lk.map LinkL.id).length)
          case rel=>exact ⟨_,NI,out,vI5,vO,rfl,by rw [List.length_append,List.length_map];omega,hst2,hMj⟩
          case measure=>rw [List.length_append,List.length_map];have:=hfew2.1;omega
        | succ f=>
          have hki:(j:Int)<(Lk.length:Int):=by omega
          have hjl:j<Lk.length:=by omega
          obtain ⟨gl,ol,cl',hle,hgl,hra⟩:=(OwnLinks.links hlok6 hol).at_ hjl
          injection hle with e1 e2 e3
          subst e1 e3
          obtain ⟨y,hy⟩ : ∃ y,Lk[j]?=some y:=⟨_,List.getElem?_eq_getElem hjl⟩
          have hyg:Lk[j]=y:=by rw [List.getElem?_eq_getElem hjl] at hy;injection hy
          rw [hyg] at hra
          have hyok:LinkOk y:=hlok6 y (List.mem_of_getElem? hy)
          have hyi:y.id.length=32:=hyok
          have hy33:(linkC y).toArray.size=33:=by rw [List.size_toArray,linkC_len hyok]
          have hyone:(linkC y).toArray.all (·.oneCell')=true:=Array.all_eq_true_iff_forall_mem.2 fun u hu=>linkC_one y u (by simpa using hu)
          have hysz:(Tryz.prog.info? 81).map (·.size)=some (linkC y).length:=by rw [linkC_len hyok];exact szLinkR
          have hldy : ∀ W g,Blk W g 81 (linkC y).toArray→(ldvI ⟨g,0,none⟩).run Tryz.prog W = .ok (.agg (u8s y.id)) W:=fun W g h=>by
           have h2:=range_blk h
           rw [List.toList_toArray] at h2
           exact run_ldvI_at (link_idR h2) hyi
          have hy32:(u8s y.id).size=32:=by rw [u8s_size,hyi]
          have hy132:(u8s y.id).size=1*32:=hy32
          have hy1 : ∀ u∈(u8s y.id).toList,u.oneCell'=true:=idC_one y.id
          have hnxt:Hid (t++(Lk.take (j+1)).map LinkL.id=(t++(Lk.take j).map LinkL.id)++[y.id]):=Lib.hid (by rw [List.take_add_one,hy,List.map_append,List.append_assoc];rfl)
          obtain ⟨T,hT⟩ : ∃ T,t++(Lk.take j).map LinkL.id=T:=⟨_,rfl⟩
          have hTl:T.length≤810000:=by rw [←hT,List.length_append,List.length_map,List.length_take];omega
          rw [hT] at hMj hnxt
          have hbsj:=hMj.bel.size
          obtain ⟨At,ct',rfl⟩:=own_form' hMj.t
          have hTk:T.length+1≤9223372036854775807:=by omega
          have hTb:(T.length+1)*32≤140737488355328:=by omega
          have hlen2:Hid ((T++[y.id]).length=T.length+1):=Lib.hid (by rw [List.length_append];rfl)
          have hrow2:Hid (rowsOf idC (T++[y.id])=rowsOf idC T++(u8s y.id).toList):=Lib.hid (by rw [rowsOf_append,rowsOf_one];rfl)
          have hTok:Hid (∀ z∈T++[y.id],z.length=32):=Lib.hid fun z hz=>(List.mem_append.1 hz).elim (hMj.tok z) fun h=>by rw [List.mem_singleton.1 h];exact hyi
          clear hy hyg hT hlok6
          go_wp2_with (first
           | (refine wpList_load_mid rfl 81 (.tmp 55) rfl gl (ol+j*33) rfl (linkC y) _ hra Tryz.underlying81 rfl hysz ?_)
           | ((with_reducible refine lit_new 81 (.tmp 16) (.tmp 56) (linkC y).toArray 33 szLinkR hy33 hyone _ ?_ ?_ ?_ ?_)
              ·first | exact hzl33 | rfl
              ·rfl
              ·rfl
              intro W7 hb7 hbl7
              have hly:=hldy W7 _ hb7
              have hM7:=hMj.below hbl7
              have hol7:=own_below hol hbl7
              have hsz7:=Nat.le_trans hbsj hbl7.size)
           | ((with_reducible refine lit_slice1 (.tmp 59) Tryz.idsTy (u8s y.id) hy32 (by omega) ?_ ?_);rfl)
           | ((with_reducible refine lit_append_new (.tmp 57) (.tmp 60) 1 _ Tryz.idsTy hM7.t (u8s y.id) hy132 hy1 hTk hTb hsz7 ?_ ?_ ?_);rfl;rfl
              intro v8 w8 ho8 hb8 hg8 hn8))
          have ho9:OwnIds w8 w.heap.size v8 (T++[y.id]):=by unfold OwnIds;rw [hlen2.out,hrow2.out];exact ho8
          have hM8:=hM7.push hTok.out ho9 hg8 hn8
          rw [←hnxt.out] at hM8
          have hol8:=(Far.of_grown hg8).own hol7 fun k hk hm=>hap k (List.mem_singleton.1 hm).symm hk
          have hap8:=hap.newer hn8 (own_lt hol7)
          clear hM7 hMj hol hol7 hly hldy ho8 ho9 hra hap hb7
          go_roundg f
          case rel=>exact ⟨j+1,by go_num,by omega,hM8,hol8,hap8⟩
          case measure=>omega
end Go.Proofs.YtlojebhcemfodaaGreatDoor
namespace Go.Proofs.YtlojebhcemfodaaGreatDoor
open Go.RowKit
/-- An item of the document's store: its object's slices with it. -/
structure DiL where
 st:StL
 o:ObjL
 ve:Value
 vp:Value
def ditC (e:DiL):List Value:=(u8s e.st.id).toList ++ .string (B e.st.text)::objC e.o e.ve e.vp
/-- What holds of each: its object is what its text tells. -/
structure DitOk (w:World) (e:DiL):Prop where
 dec:decO e.st.text=some e.o
 id:e.st.id.length=32
 ok:ObjOk e.o
 oe:OwnEnts w 0 e.ve e.o.ents
 op:OwnIds w 0 e.vp e.o.pars
theorem DitOk.val {w:World} {e:DiL} (h:DitOk w e):ObjV w e.ve e.vp e.o:=⟨h.ok,SliceAt.of_own (fun x hx=>entC_len (h.ok.ents x hx)) h.oe,SliceAt.of_own (fun x hx=>idC_len (h.ok.pars x hx)) h.op⟩
theorem DitOk.below {w w':World} {e:DiL} (h:DitOk w e) (hb:Below w.heap.size w w'):DitOk w' e:=⟨h.dec,h.id,h.ok,own_below h.oe hb,own_below h.op hb⟩
theorem DitOk.forms {w:World} {e:DiL} (h:DitOk w e) : ∃ A1 A2 k1 k2,e.ve = .slice A1 e.o.ents.length k1∧e.vp = .slice A2 e.o.pars.length k2:=by
 obtain ⟨A1,k1,e1,_⟩:=h.val.ents
 obtain ⟨A2,k2,e2,_⟩:=h.val.pars
 exact ⟨A1,A2,k1,k2,e1,e2⟩
theorem ditC_len {w:World} {e:DiL} (h:DitOk w e):(ditC e).length=105:=by
 unfold ditC
 rw [List.length_append,u8s_lenS,h.id,List.length_cons,objC_len h.val.ok]
theorem ditC_one {w:World} {e:DiL} (h:DitOk w e) : ∀ u∈ditC e,u.oneCell'=true:=by
 obtain ⟨A1,A2,k1,k2,e1,e2⟩:=h.forms
 intro u hu
 unfold ditC at hu
 rw [e1,e2] at hu
 rcases List.mem_append.1 hu with hu | hu
 ·exact u8v_one e.st.id u (by simpa [u8s] using hu)
 ·rcases List.mem_cons.1 hu with rfl | hu
  ·rfl
  ·have:=Array.all_eq_true_iff_forall_mem.1 (objC_all e.o A1 A2 e.o.ents.length k1 e.o.pars.length k2) u (by simpa using hu)
   exact this
def zDit : Value := .agg ((u8s noId).toList ++ .string (B [])::objC zeroO (.slice none 0 0) (.slice none 0 0)).toArray
theorem Tryz.ditTy : SliceTy Tryz.prog 26 62 zDit 105 232:=⟨Tryz.underlying26,info_parts (by kernel_rfl),by kernel_rfl,by omega⟩
theorem szDit : (Tryz.prog.info? 62).map (·.size)=some 105:=by kernel_rfl
section
variable {w:World} {g o:Nat} {e:DiL}
theorem dit_id (h:w.rangeAt g o (ditC e)):w.rangeAt g o (u8s e.st.id).toList:=fun j u hu=>h j u (by
 unfold ditC
 rw [List.getElem?_append_left (List.getElem?_eq_some_iff.1 hu).1]
 exact hu)
theorem dit_rest (h:w.rangeAt g o (ditC e)) (hid:e.st.id.length=32):w.rangeAt g (o+32) (.string (B e.st.text)::objC e.o e.ve e.vp):=fun j u hu=>by
 have:=h (32+j) u (by
  unfold ditC
  rw [List.getElem?_append_right (by rw [u8s_lenS,hid];omega),u8s_lenS,hid,Nat.add_sub_cancel_left]
  exact hu)
 rwa [←Nat.add_assoc] at this
theorem dit_text (h:w.rangeAt g o (ditC e)) (hid:e.st.id.length=32):w.cell? ⟨g,o+32,none⟩=some (.string (B e.st.text)):=by
 have:=dit_rest h hid 0 _ rfl
 rwa [Nat.add_zero] at this
theorem dit_obj (h:w.rangeAt g o (ditC e)) (hid:e.st.id.length=32):w.rangeAt g (o+33) (objC e.o e.ve e.vp):=fun j u hu=>by
 have:=dit_rest h hid (1+j) u (by
  rw [show 1+j=j+1 from by omega,List.getElem?_cons_succ]
  exact hu)
 rwa [show o+32+(1+j)=o+33+j from by omega] at this
theorem dit_kind (h:w.rangeAt g o (ditC e)) (hid:e.st.id.length=32):w.cell? ⟨g,o+33,none⟩=some (.int .i64 e.o.kind):=by
 have:=dit_obj h hid 0 _ rfl
 rwa [Nat.add_zero] at this
end
/-- A slice value reads as the document's items. -/
abbrev OwnDits (w:World) (B:Nat) (v:Value) (l:List DiL):Prop:=w.ownsRow B 62 105 v l.length (rowsOf ditC l)
structure DocSt (w:World) (vm:Value) (es:List DiL):Prop where
 own:OwnDits w 0 vm es
 each : ∀ e∈es,DitOk w e
 ok:StoOk (es.map (·.st))
theorem DocSt.at_ {w:World} {vm:Value} {es:List DiL} (h:DocSt w vm es):SliceAt w 105 ditC vm es:=SliceAt.of_own (fun e he=>ditC_len (h.each e he)) h.own
theorem DocSt.below {w w':World} {vm:Value} {es:List DiL} (h:DocSt w vm es) (hb:Below w.heap.size w w'):DocSt w' vm es:=⟨own_below h.own hb,fun e he=>(h.each e he).below hb,h.ok⟩
theorem DocSt.few {w:World} {vm:Value} {es:List DiL} (h:DocSt w vm es):es.length≤500000:=by have:=h.ok.few;rwa [List.length_map] at this
/-- Where an id stands in the document's store. -/
def AtR (es:List DiL) (n:Txt) (e:Ending):Prop:=(∃ (k:Nat) (x:DiL),e = .returned (.int .i64 k)∧es[k]?=some x∧getS (es.map (·.st)) n=some x.st)∨(e = .returned (.int .i64 (-1))∧getS (es.map (·.st)) n=none)
theorem getS_drop {s:List StL} {k:Nat} {x:StL} {n:Txt} (hx:s[k]?=some x):getS (s.drop k) n=if x.id=n then some x else getS (s.drop (k+1)) n:=by
 have hlt:=(List.getElem?_eq_some_iff.1 hx).1
 have he:=(List.getElem?_eq_some_iff.1 hx).2
 rw [List.drop_eq_getElem_cons hlt,he]
 unfold getS
 rw [List.find?_cons]
 by_cases h:x.id=n
 ·rw [if_pos h];simp [h]
 ·rw [if_neg h]
  have:(x.id==n)=false:=by simpa using h
  rw [this]
set_option maxRecDepth 100000 in
set_option maxHeartbeats 2000000 in
theorem docAt_calls {w:World} {vm:Value} {es:List DiL} (h:DocSt w vm es) (n:Txt) (hn:n.length=32) :
 Calls Tryz.prog 46 #[.agg #[vm], .agg (u8s n)] w fun e w'=>AtR es n e∧Below w.heap.size w w':=by
 have hfew:=h.few
 have heach:=h.each
 obtain ⟨A,cap,rfl,hcap1,hcap2,hat⟩:=h.at_
 obtain ⟨W1,hW1⟩ : ∃ W1,w.alloc (.cells #[.slice A es.length cap] 28)=W1:=⟨_,rfl⟩
 have s1:Blk W1 w.heap.size 28 #[.slice A es.length cap]:=by rw [←hW1];exact Blk.new _ _ _
 have b1:Below w.heap.size w W1:=by rw [←hW1];exact (Below.refl _ _).alloc (Nat.le_refl _) _
 obtain ⟨W2,hW2⟩ : ∃ W2,W1.alloc (.cells (u8s n) 42)=W2:=⟨_,rfl⟩
 have n2:Blk W2 W1.heap.size 42 (u8s n):=by rw [←hW2];exact Blk.new _ _ _
 have bb2:Below W1.heap.size W1 W2:=by rw [←hW2];exact (Below.refl _ _).alloc (Nat.le_refl _) _
 have s2:=s1.below bb2 s1.lt
 have b2:=bthen b1 b1.size bb2
 have hG0:Hid (getS ((es.map (·.st)).drop 0) n=getS (es.map (·.st)) n):=rfl
 have hsI:(Tryz.prog.info? 42).map (·.size)=some (u8s n).toList.length:=by rw [u8s_lenS,hn];exact sz32
 have hag:Value.agg (u8s n) = .agg (u8s n).toList.toArray:=by rw [Array.toArray_toList]
 unfold AtR
 generalize getS (es.map (·.st)) n=G at *
 clear h
 go_enter Tryz.func46,Tryz.ntmps46
 go_wp2
 go_loopw [5] (fun vi wr => ∃ k:Nat,vi = .int .i64 k∧k≤es.length∧Hid (getS ((es.map (·.st)).drop k) n=G)∧Below W2.heap.size W2 wr) (fun vi _=>es.length-(intOf vi).toNat)
 case atStart=>exact ⟨0,rfl,by omega,hG0,Below.refl _ _⟩
 case round=>
  obtain ⟨k,rfl,hk,hrel,hbel⟩:=hrel
  have hbr:=bthen b2 b2.size hbel
  have c0:wr.cell? ⟨w.heap.size,0,none⟩=some (.slice A es.length cap):=(s2.below hbel s2.lt).cell 0
  clear hW1 hW2
  by_cases hlt:k<es.length
  ·have hki:(k:Int)<(es.length:Int):=by omega
   obtain ⟨ga,oa,rfl,hga,hca⟩:=hat (by omega)
   obtain ⟨x,hx⟩ : ∃ x,es[k]?=some x:=⟨_,List.getElem?_eq_getElem hlt⟩
   have hxid:=(heach x (List.mem_of_getElem? hx)).id
   have hxr:=dit_id (hca k x hx)
   have hgd:=getS_drop (n:=n) (show (es.map (·.st))[k]?=some x.st by rw [List.getElem?_map,hx];rfl)
   have hsx:(Tryz.prog.info? 42).map (·.size)=some (u8s x.st.id).toList.length:=by rw [u8s_lenS,hxid];exact sz32
   have heq:=fun W=>run_eql_id W x.st.id n hxid hn
   obtain ⟨bo,hbo⟩ : ∃ bo,decide (x.st.id=n)=bo:=⟨_,rfl⟩
   rw [hbo] at heq
   have hbo:=Lib.hid hbo
   have hxh:=Lib.hid hx
   clear hx hca hat heach
   go_wp2
   refine wp_region_class (C:=fun W=>Below W2.heap.size W2 W) (by kernel_rfl) (by kernel_rfl) hbel.drew ?_
   repeat
    first
     | ((with_reducible refine wpQuiet_ex ?_ ?_)
        ·(go_simp;done)
        apply Exists.intro
        refine ⟨fun W hW=>?_,?_⟩
        ·first
          | exact quiet_load_mid _ _ rfl ga (oa+k*105) rfl (u8s x.st.id).toList _ (rangeAt_below hxr hga (bthen b2 b2.size hW)) Tryz.underlying42 rfl hsx rfl
          | exact quiet_load_mid _ _ rfl W1.heap.size 0 rfl (u8s n).toList _ (range_blk (n2.below hW n2.lt)) Tryz.underlying42 rfl hsI rfl
          | (have q0:W.cell? ⟨w.heap.size,0,none⟩=some (.slice (some ⟨ga,oa,none⟩) es.length cap):=(s2.below hW s2.lt).cell 0
             have q1:=heq W
             rw [←Array.toArray_toList (xs:=u8s x.st.id),←Array.toArray_toList (xs:=u8s n)] at q1
             go_simp
             first
              | rfl)
        simp only [Act.put,List.setIfInBounds_toArray,List.set_cons_zero,List.set_cons_succ])
     | ((with_reducible refine wpQuiet_pass ?_ ?_)
        ·(first | rfl | (go_simp;done))
        simp only [Act.put,List.setIfInBounds_toArray,List.set_cons_zero,List.set_cons_succ])
   with_reducible refine wpQuiet_nil ?_
   intro w5 hW5
   have hb5:=bthen b2 b2.size hW5
   have hgd2:=hrel.out
   rw [←List.map_drop] at hgd hgd2
   rw [hgd2] at hgd
   cases bo
   rotate_left
   ·have hxn:x.st.id=n:=of_decide_eq_true hbo.out
    rw [if_pos hxn] at hgd
    have hgd:Hid (G=some x.st):=hgd
    clear hgd2 hxn hrel hG0
    go_wp2
    go_ret
    exact ⟨.inl ⟨k,x,rfl,hxh.out,hgd.out⟩,hb5⟩
   ·have hxn : ¬ x.st.id=n:=of_decide_eq_false hbo.out
    rw [if_neg hxn] at hgd
    have hgd:Hid (getS ((es.map (·.st)).drop (k+1)) n=G):=by show _=_;exact hgd.symm
    clear hgd2 hxn hrel hG0
    go_wp2
    go_roundw
    case rel=>exact ⟨k+1,by go_num,by omega,hgd,hW5⟩
    case measure=>simp [intOf];omega
  ·have hki : ¬ (k:Int)<(es.length:Int):=by omega
   have hGn:Hid (G=none):=by
    show _=_
    rw [←hrel.out,List.drop_eq_nil_of_le (by rw [List.length_map];omega)]
    rfl
   clear hrel hG0 hat
   go_wp2
   go_ret
   exact ⟨.inr ⟨rfl,hGn.out⟩,hbr⟩
end Go.Proofs.YtlojebhcemfodaaGreatDoor
namespace Go.Proofs.YtlojebhcemfodaaGreatDoor
open Go.RowKit
attribute [local go_sem ↓] ldvI_eq ldvO_eq
/-- A store's value and an id, boxed. -/
theorem boxSt {w:World} (vm:Value) (n:Txt) (hn:n.length=32) : ∃ W1 W2,w.alloc (.cells #[vm] 28)=W1∧W1.alloc (.cells (u8s n) 42)=W2∧Below w.heap.size w W2∧w.heap.size<W1.heap.size∧W1.heap.size<W2.heap.size ∧
 ∀ W,Below W2.heap.size W2 W→W.cell? ⟨w.heap.size,0,none⟩=some vm∧W.heap[w.heap.size]?=some (.cells #[vm] 28 (0,0))∧(ldvI ⟨W1.heap.size,0,none⟩).run Tryz.prog W = .ok (.agg (u8s n)) W:=by
 obtain ⟨W1,hW1⟩ : ∃ W1,w.alloc (.cells #[vm] 28)=W1:=⟨_,rfl⟩
 have s1:Blk W1 w.heap.size 28 #[vm]:=by rw [←hW1];exact Blk.new _ _ _
 have b1:Below w.heap.size w W1:=by rw [←hW1];exact (Below.refl _ _).alloc (Nat.le_refl _) _
 obtain ⟨W2,hW2,bb2,n2,ld⟩:=boxId W1 n hn
 refine ⟨W1,W2,hW1,hW2,bthen b1 b1.size bb2,s1.lt,n2.lt,fun W hW=>⟨?_,?_,ld W hW⟩⟩
 ·exact ((s1.below bb2 s1.lt).below hW (Nat.lt_of_lt_of_le s1.lt bb2.size)).cell 0
 ·exact (s1.below bb2 s1.lt).below hW (Nat.lt_of_lt_of_le s1.lt bb2.size)
theorem szDSt : (Tryz.prog.info? 28).map (·.size)=some 1:=by kernel_rfl
def ldvS (p:Addr):Sem Value:=loadVar 28 p
theorem ldvS_eq (p:Addr):loadVar 28 p=ldvS p:=rfl
attribute [local go_sem ↓] ldvS_eq
theorem run_ldvS {w:World} {g:Nat} {vm:Value} (h:w.heap[g]?=some (.cells #[vm] 28 (0,0))):(ldvS ⟨g,0,none⟩).run Tryz.prog w = .ok (.agg #[vm]) w:=
 run_loadVar_row w g _ _ _ _ _ h Tryz.underlying28 rfl szDSt
section
variable {w:World} {vm:Value} {es:List DiL}
/-- Is it there? -/
def hasS (s:List StL) (n:Txt):Bool:=(getS s n).isSome
set_option maxRecDepth 100000 in
set_option maxHeartbeats 1000000 in
theorem docHas_calls (h:DocSt w vm es) (n:Txt) (hn:n.length=32) :
 Calls Tryz.prog 36 #[.agg #[vm], .agg (u8s n)] w fun e w'=>e = .returned (.bool (hasS (es.map (·.st)) n))∧Below w.heap.size w w':=by
 obtain ⟨W1,W2,hW1,hW2,b2,hl1,hl2,hf⟩:=boxSt (w:=w) vm n hn
 obtain ⟨c2,r2,q2⟩:=hf W2 (Below.refl _ _)
 have l2:=run_ldvS r2
 have ha:=docAt_calls (h.below b2) n hn
 unfold AtR at ha
 unfold hasS
 generalize u8s n=NC at *
 cases hG:getS (es.map (·.st)) n with
 | none=>
   rw [hG] at ha
   have ha:Calls Tryz.prog 46 #[.agg #[vm], .agg NC] W2 fun e w'=>e = .returned (.int .i64 (-1))∧Below W2.heap.size W2 w':=ha.mono fun e w' ⟨h1,h2⟩=>by
    rcases h1 with ⟨k,x,_,_,hx⟩ | ⟨he,_⟩
    ·cases hx
    ·exact ⟨he,h2⟩
   have ha:=Lib.hid ha
   clear hG hf h
   go_enter Tryz.func36,Tryz.ntmps36
   go_wp2_with (first
    | ((with_reducible refine ha.out.mono ?_);rintro e w3 ⟨rfl,hb3⟩))
   go_ret
   exact ⟨rfl,bthen b2 b2.size hb3⟩
 | some y=>
   rw [hG] at ha
   have ha:Calls Tryz.prog 46 #[.agg #[vm], .agg NC] W2 fun e w'=>(∃ k:Nat,e = .returned (.int .i64 k))∧Below W2.heap.size W2 w':=ha.mono fun e w' ⟨h1,h2⟩=>by
    rcases h1 with ⟨k,x,he,_,hx⟩ | ⟨_,hx⟩
    ·exact ⟨⟨k,he⟩,h2⟩
    ·cases hx
   have ha:=Lib.hid ha
   clear hG hf h
   go_enter Tryz.func36,Tryz.ntmps36
   go_wp2_with (first
    | ((with_reducible refine ha.out.mono ?_);rintro e w3 ⟨⟨k,rfl⟩,hb3⟩
       have hk0:(0:Int)≤(k:Int):=by omega))
   all_goals try (exfalso;omega)
   go_ret
   exact ⟨rfl,bthen b2 b2.size hb3⟩
set_option maxRecDepth 100000 in
set_option maxHeartbeats 1000000 in
theorem docKind_calls (h:DocSt w vm es) (n:Txt) (hn:n.length=32) :
 Calls Tryz.prog 44 #[.agg #[vm], .agg (u8s n)] w fun e w'=>e = .returned (.int .i64 (kindS (es.map (·.st)) n))∧Below w.heap.size w w':=by
 obtain ⟨W1,W2,hW1,hW2,b2,hl1,hl2,hf⟩:=boxSt (w:=w) vm n hn
 obtain ⟨c2,r2,q2⟩:=hf W2 (Below.refl _ _)
 have l2:=run_ldvS r2
 have ha:=docAt_calls (h.below b2) n hn
 unfold AtR at ha
 obtain ⟨r,hr⟩ : ∃ r,Hid (kindS (es.map (·.st)) n=r):=⟨_,Lib.hid rfl⟩
 rw [hr.out]
 have hrv:=hr.out
 unfold kindS at hrv
 clear hr
 have heach:=h.each
 have hfew:=h.few
 obtain ⟨A,cap,rfl,hcap1,hcap2,hat⟩:=h.at_
 generalize u8s n=NC at *
 cases hG:getS (es.map (·.st)) n with
 | none=>
   rw [hG] at ha
   have ha:Calls Tryz.prog 46 #[.agg #[.slice A es.length cap], .agg NC] W2 fun e w'=>e = .returned (.int .i64 (-1))∧Below W2.heap.size W2 w':=ha.mono fun e w' ⟨h1,h2⟩=>by
    rcases h1 with ⟨k,x,_,_,hx⟩ | ⟨he,_⟩
    ·cases hx
    ·exact ⟨he,h2⟩
   have ha:=Lib.hid ha
   rw [hG] at hrv
   have hrv:Hid (r=0):=hrv.symm
   clear hG hf h heach hat
   go_enter Tryz.func44,Tryz.ntmps44
   go_wp2_with (first
    | ((with_reducible refine ha.out.mono ?_);rintro e w3 ⟨rfl,hb3⟩))
   go_ret
   exact ⟨by rw [hrv.out];rfl,bthen b2 b2.size hb3⟩
 | some y=>
   rw [hG] at ha
   have ha:Calls Tryz.prog 46 #[.agg #[.slice A es.length cap], .agg NC] W2 fun e w'=>(∃ (k:Nat) (x:DiL),e = .returned (.int .i64 k)∧es[k]?=some x∧y=x.st)∧Below W2.heap.size W2 w':=ha.mono fun e w' ⟨h1,h2⟩=>by
    rcases h1 with ⟨k,x,he,hx0,hx⟩ | ⟨_,hx⟩
    ·exact ⟨⟨k,x,he,hx0,by injection hx⟩,h2⟩
    ·cases hx
   have ha:=Lib.hid ha
   rw [hG] at hrv
   simp only at hrv
   have hrv:Hid (∀ o,decO y.text=some o→r=o.kind):=fun o ho=>by rw [ho] at hrv;exact hrv.symm
   clear hG h
   go_enter Tryz.func44,Tryz.ntmps44
   go_wp2_with (first
    | ((with_reducible refine ha.out.mono ?_);rintro e w3 ⟨⟨k,x,rfl,hx,rfl⟩,hb3⟩
       have hlt:=(List.getElem?_eq_some_iff.1 hx).1
       have hk0 : ¬ (k:Int)<0:=by omega
       have hki:(k:Int)<(es.length:Int):=by omega
       obtain ⟨ga,oa,rfl,hga,hca⟩:=hat (by omega)
       have hd:=heach x (List.mem_of_getElem? hx)
       have b3:=bthen b2 b2.size hb3
       have k3:=dit_kind (rangeAt_below (hca k x hx) hga b3) hd.id
       have c3:=(hf w3 hb3).1
       have hdx:=Lib.hid hd.dec
       clear hx hca hat heach hd hf))
   all_goals try (exfalso;omega)
   go_ret
   exact ⟨by rw [hrv.out _ hdx.out];rfl,b3⟩
/-- What the document's Object tells. -/
def ObjG (s:List StL) (n:Txt) (w':World) (e:Ending):Prop:=match getS s n with
 | some x => ∃ o A1 A2 k1 k2,decO x.text=some o∧e = .returned (.agg (objC o (.slice A1 o.ents.length k1) (.slice A2 o.pars.length k2)).toArray)∧ObjV w' (.slice A1 o.ents.length k1) (.slice A2 o.pars.length k2) o
 | none=>e = .returned (.agg zObj)
theorem ObjG.below {s:List StL} {n:Txt} {w w':World} {e:Ending} (h:ObjG s n w e) (hb:Below w.heap.size w w'):ObjG s n w' e:=by
 unfold ObjG at h ⊢
 cases hG:getS s n with
 | none=>rw [hG] at h;exact h
 | some x=>
   rw [hG] at h
   obtain ⟨o,A1,A2,k1,k2,h1,h2,h3⟩:=h
   exact ⟨o,A1,A2,k1,k2,h1,h2,h3.below hb⟩
set_option maxRecDepth 100000 in
set_option maxHeartbeats 2000000 in
/-- The object's slices lie where the store's do. -/
theorem docObjectW_calls {w0:World} (h0:DocSt w0 vm es) (hb0:Below w0.heap.size w0 w) (n:Txt) (hn:n.length=32) :
 Calls Tryz.prog 21 #[.agg #[vm], .agg (u8s n)] w fun e w'=>ObjG (es.map (·.st)) n w0 e∧Below w.heap.size w w':=by
 have h:=h0.below hb0
 have heach0:=h0.each
 clear h0 hb0
 have hzo:=zeroObj
 have hz72:=zObj_size
 have hrb:=fun W=>run_build (P:=Tryz.prog) W _ _ _ built_zObj
 have hsz : ∀ cs:Array Value,cs.size=72→(Tryz.prog.info? 54).map (·.size)=some cs.size:=fun cs h=>by rw [h];exact szObj
 have hzone:zObj.all (·.oneCell')=true:=objC_all zeroO none none 0 0 0 0
 obtain ⟨W1,W2,hW1,hW2,b2,hl1,hl2,hf⟩:=boxSt (w:=w) vm n hn
 obtain ⟨W3,hW3⟩ : ∃ W3,W2.alloc (.cells zObj 54)=W3:=⟨_,rfl⟩
 have z3:Blk W3 W2.heap.size 54 zObj:=by rw [←hW3];exact Blk.new _ _ _
 have bb3:Below W2.heap.size W2 W3:=by rw [←hW3];exact (Below.refl _ _).alloc (Nat.le_refl _) _
 have b3:=bthen b2 b2.size bb3
 obtain ⟨c3,r3,q3⟩:=hf W3 bb3
 have l3:=run_ldvS r3
 have hle2:=b2.size
 have ha:=docAt_calls (h.below b3) n hn
 unfold AtR at ha
 unfold ObjG
 have heach:=h.each
 have hfew:=h.few
 obtain ⟨A,cap,rfl,hcap1,hcap2,hat⟩:=h.at_
 generalize u8s n=NC at *
 generalize zObj=ZO at *
 cases hG:getS (es.map (·.st)) n with
 | none=>
   rw [hG] at ha
   have ha:Calls Tryz.prog 46 #[.agg #[.slice A es.length cap], .agg NC] W3 fun e w'=>e = .returned (.int .i64 (-1))∧Below W3.heap.size W3 w':=ha.mono fun e w' ⟨h1,h2⟩=>by
    rcases h1 with ⟨k,x,_,_,hx⟩ | ⟨he,_⟩
    ·cases hx
    ·exact ⟨he,h2⟩
   have ha:=Lib.hid ha
   clear hG hf h heach heach0 hat
   go_enter Tryz.func21,Tryz.ntmps21
   go_wp2_with (first
    | ((with_reducible refine ha.out.mono ?_);rintro e w4 ⟨rfl,hb4⟩
       have b4:=bthen b3 b3.size hb4
       have z4:=z3.below hb4 z3.lt)
    | (refine wpList_store_row rfl 54 (.tmp 4) (.tmp 11) rfl W2.heap.size ZO rfl rfl _ _ z4 (hsz ZO hz72) rfl hzone ?_))
   refine bodyPost_ret (results_cell_row rfl _ _ W2.heap.size _ _ _ _ rfl (setRow_heap _ _ _ _ _ _ z4) Tryz.underlying54 rfl (hsz ZO hz72)) rfl ⟨rfl,below_setRow b4 hle2 _⟩
 | some y=>
   rw [hG] at ha
   have ha:Calls Tryz.prog 46 #[.agg #[.slice A es.length cap], .agg NC] W3 fun e w'=>(∃ (k:Nat) (x:DiL),e = .returned (.int .i64 k)∧es[k]?=some x∧y=x.st)∧Below W3.heap.size W3 w':=ha.mono fun e w' ⟨h1,h2⟩=>by
    rcases h1 with ⟨k,x,he,hx0,hx⟩ | ⟨_,hx⟩
    ·exact ⟨⟨k,x,he,hx0,by injection hx⟩,h2⟩
    ·cases hx
   have ha:=Lib.hid ha
   clear hG h
   go_enter Tryz.func21,Tryz.ntmps21
   go_wp2_with (first
    | ((with_reducible refine ha.out.mono ?_);rintro e w4 ⟨⟨k,x,rfl,hx,rfl⟩,hb4⟩
       have hlt:=(List.getElem?_eq_some_iff.1 hx).1
       have hk0 : ¬ (k:Int)<0:=by omega
       have hki:(k:Int)<(es.length:Int):=by omega
       obtain ⟨ga,oa,rfl,hga,hca⟩:=hat (by omega)
       have hd:=heach x (List.mem_of_getElem? hx)
       have b4:=bthen b3 b3.size hb4
       have z4:=z3.below hb4 z3.lt
       have ld4:(ldvO ⟨ga,oa+k*105+33,none⟩).run Tryz.prog w4 = .ok (.agg (objC x.o x.ve x.vp).toArray) w4:=run_loadVar_mid (P:=Tryz.prog) w4 ga (oa+k*105+33) 54 (objC x.o x.ve x.vp) _ (dit_obj (rangeAt_below (hca k x hx) hga b4) hd.id) Tryz.underlying54 rfl (by rw [objC_len hd.val.ok];exact szObj)
       have c4:=(hf w4 (bthen bb3 bb3.size hb4)).1
       obtain ⟨A1,A2,k1,k2,e1,e2⟩:=hd.forms
       have hval:=(heach0 x (List.mem_of_getElem? hx)).val
       rw [e1,e2] at ld4 hval
       have hdx:=Lib.hid hd.dec
       have hc72:(objC x.o (.slice A1 x.o.ents.length k1) (.slice A2 x.o.pars.length k2)).toArray.size=72:=by rw [List.size_toArray,objC_len hval.ok]
       have hcone:=objC_all x.o A1 A2 x.o.ents.length k1 x.o.pars.length k2
       clear hx hca hat heach heach0 hd hf e1 e2)
    | (refine wpList_store_row rfl 54 (.tmp 4) (.tmp 17) rfl W2.heap.size (objC x.o (.slice A1 x.o.ents.length k1) (.slice A2 x.o.pars.length k2)).toArray rfl rfl _ _ z4 (hsz _ hc72) (hz72.trans hc72.symm) hcone ?_))
   all_goals try (exfalso;omega)
   have bF:=below_setRow b4 hle2 (objC x.o (.slice A1 x.o.ents.length k1) (.slice A2 x.o.pars.length k2)).toArray
   refine bodyPost_ret (results_cell_row rfl _ _ W2.heap.size _ _ _ _ rfl (setRow_heap _ _ _ _ _ _ z4) Tryz.underlying54 rfl (hsz _ hc72)) rfl ⟨⟨x.o,A1,A2,k1,k2,hdx.out,rfl,hval⟩,bF⟩
theorem docObject_calls (h:DocSt w vm es) (n:Txt) (hn:n.length=32) :
 Calls Tryz.prog 21 #[.agg #[vm], .agg (u8s n)] w fun e w'=>ObjG (es.map (·.st)) n w' e∧Below w.heap.size w w':=(docObjectW_calls h (Below.refl _ _) n hn).mono fun _ _ ⟨q1,q2⟩=>⟨q1.below q2,q2⟩
end
end Go.Proofs.YtlojebhcemfodaaGreatDoor
namespace Go.Proofs.YtlojebhcemfodaaGreatDoor
open Go.RowKit
attribute [local go_sem ↓] ldvI_eq
/-- What the region that takes one link on leaves. -/
def LnkR (V:Nat→Value) (base:Nat) (vo:Value) (acc:List LinkL) (x:LinkL) (i:Nat) (v:Value) (w:World):Prop:=
 if i<14 then v=V i else if i=14 then (∃ b,v = .slice (some ⟨b,0,none⟩) 1 1∧Blk w b 81 (linkC x).toArray∧some b≠vo.ownBlock) else OwnLinks w base v (acc++[x])
section
variable {V:Nat→Value} {base:Nat} {vo:Value} {acc:List LinkL} {x:LinkL} {i:Nat} {v:Value} {w w':World}
theorem lnkR_at (hi:i<14) (h:LnkR V base vo acc x i v w):v=V i:=by unfold LnkR at h;rwa [if_pos hi] at h
theorem lnkR_mk (hi:i<14) (h:v=V i):LnkR V base vo acc x i v w:=by unfold LnkR;rwa [if_pos hi]
theorem lnkR_5 {b:Nat} (h:Blk w b 81 (linkC x).toArray) (hne:some b≠vo.ownBlock):LnkR V base vo acc x 14 (.slice (some ⟨b,0,none⟩) 1 1) w:=by
 unfold LnkR;rw [if_neg (by omega),if_pos rfl];exact ⟨b,rfl,h,hne⟩
theorem lnkR_5at (h:LnkR V base vo acc x 14 v w) : ∃ b,v = .slice (some ⟨b,0,none⟩) 1 1∧Blk w b 81 (linkC x).toArray∧some b≠vo.ownBlock:=by
 unfold LnkR at h;rwa [if_neg (by omega),if_pos rfl] at h
theorem lnkR_own (hi:15≤i) (h:OwnLinks w base v (acc++[x])):LnkR V base vo acc x i v w:=by unfold LnkR;rwa [if_neg (by omega),if_neg (by omega)]
theorem lnkR_ownAt (hi:15≤i) (h:LnkR V base vo acc x i v w):OwnLinks w base v (acc++[x]):=by unfold LnkR at h;rwa [if_neg (by omega),if_neg (by omega)] at h
theorem lnkR_alloc (h:LnkR V base vo acc x i v w) (o:Obj):LnkR V base vo acc x i v (w.alloc o):=by
 by_cases h5:i<14
 ·exact lnkR_mk h5 (lnkR_at h5 h)
 ·by_cases h6:i=14
  ·subst h6
   obtain ⟨b,rfl,h1,h2⟩:=lnkR_5at h
   exact lnkR_5 (h1.alloc o) h2
  ·exact lnkR_own (by omega) (World.ownsRow.alloc (lnkR_ownAt (by omega) h) o)
theorem lnkR_append (hi : ¬ 15≤i) (h:LnkR V base vo acc x i v w) (hg:w.grownBy w' vo.ownBlock):LnkR V base vo acc x i v w':=by
 by_cases h5:i<14
 ·exact lnkR_mk h5 (lnkR_at h5 h)
 ·obtain rfl:i=14:=by omega
  obtain ⟨b,rfl,h1,h2⟩:=lnkR_5at h
  exact lnkR_5 (h1.grown hg h2) h2
end
structure LnkC (w0:World) (vo:Value) (acc:List LinkL) (listed:Array Bool) (w:World):Prop where
 bel:Below w0.heap.size w0 w
 own:listed.getD 15 false=false→OwnLinks w w0.heap.size vo acc
section
variable {w0 w w':World} {vo:Value} {acc:List LinkL} {listed:Array Bool}
theorem LnkC.same (h:LnkC w0 vo acc listed w) {i:Nat} (hsz:listed.size=17) (hi:i<17) (h6:i≠15):LnkC w0 vo acc (listed.setIfInBounds i true) w:=
 ⟨h.bel,fun hl=>h.own (by rwa [getD_set (by omega),if_neg (fun e=>h6 e.symm)] at hl)⟩
theorem LnkC.alloc (h:LnkC w0 vo acc listed w) (o:Obj):LnkC w0 vo acc listed (w.alloc o):=⟨h.bel.alloc h.bel.size o,fun hl=>World.ownsRow.alloc (h.own hl) o⟩
theorem LnkC.drew (h:LnkC w0 vo acc listed w):LnkC w0 vo acc listed w.drew:=⟨h.bel.drew,h.own⟩
theorem LnkC.fresh (h:LnkC w0 vo acc listed w) (hl:listed.getD 15 false=false):some w.heap.size≠vo.ownBlock:=fun e=>by
 have:=(World.ownsRow.lt (h.own hl) _ e.symm).2
 omega
theorem LnkC.grown (_:LnkC w0 vo acc listed w) (hsz:listed.size=17) (_:15<17) (_:listed.getD 15 false=false) (hb:Below w0.heap.size w0 w') (_:w.grownBy w' vo.ownBlock):LnkC w0 vo acc (listed.setIfInBounds 15 true) w':=
 ⟨hb,fun hl'=>by rw [getD_set (by omega),if_pos rfl] at hl';cases hl'⟩
end
theorem wp_build_linkK {o:Oper} {a:Act} {w:World} {Q:Exit→Act→World→Prop} {K:Act→World→Prop} (x y:Operand) (ho:o.op = .build 81 #[(0,x),(1,y)])
 (id:Txt) (n:Int) (hid:id.length=32) (hx:a.eval x = .agg (u8s id)) (hy:a.eval y = .int .i64 n) (h:K (a.put o.dst (.agg (linkC ⟨id,n⟩).toArray)) w):o.wp Tryz.prog a w K Q:=by
 have hb:=built_link id n hid
 have e:((#[(0,x),(1,y)]:Array (Nat×Operand)).map fun (i,x)=>(i,a.eval x)).toList=[(0, .agg (u8s id)),(1, .int .i64 n)]:=by simp [hx,hy]
 exact wp_build _ _ ho (by rw [e,hb];rfl) (by rw [e,hb];exact h)
theorem run_buildSlice_link (w:World) (r:LinkL) (hr:r.id.length=32):(Instr.buildSlice 78 1 #[(0, .agg (linkC r).toArray)]).run Tryz.prog w = .ok (.slice (some ⟨w.heap.size,0,none⟩) 1 1) (w.alloc (.cells (linkC r).toArray 81)):=by
 obtain ⟨it,hi,hz,hs,hb⟩:=Tryz.linkTy.hi
 refine run_buildSlice w _ _ 1 _ _ it zLink Tryz.underlying78 hi hz (by rw [hs];omega) (by rw [hs];omega) ?_
 rw [hs]
 have:=Great.fill_whole (s:=33) (by omega) [Value.agg (linkC r).toArray] ((Array.range (1*33)).map (zLink.cells[· % zLink.cells.size]!)) (by
  intro v hv
  simp at hv
  subst hv
  show (linkC r).toArray.size=33
  rw [List.size_toArray,linkC_len hr]) (by simp)
 simpa [Value.cells] using this
theorem wp_slice_linkK {o:Oper} {a:Act} {w:World} {Q:Exit→Act→World→Prop} {K:Act→World→Prop} (x:Operand) (ho:o.op = .buildSlice 78 1 #[(0,x)]) (r:LinkL) (hr:r.id.length=32) (hx:a.eval x = .agg (linkC r).toArray)
 (h:K (a.put o.dst (.slice (some ⟨w.heap.size,0,none⟩) 1 1)) (w.alloc (.cells (linkC r).toArray 81))):o.wp Tryz.prog a w K Q:=by
 have e:((#[(0,x)]:Array (Nat×Operand)).map fun (i,x)=>(i,a.eval x)) = #[(0, .agg (linkC r).toArray)]:=by simp [hx]
 have hr':=run_buildSlice_link w r hr
 unfold Oper.wp execOp
 simp only [ho,Sem.run_bind,e,hr',Result.andThen_ok]
 exact h
set_option maxRecDepth 100000 in
set_option maxHeartbeats 4000000 in
theorem refLinks_calls (o:ObjL) (hs:Small o) (A1 A2:Option Addr) (k1 k2:Nat) (w:World) (hv:ObjV w (.slice A1 o.ents.length k1) (.slice A2 o.pars.length k2) o):Calls Tryz.prog 88 #[.agg (objC o (.slice A1 o.ents.length k1) (.slice A2 o.pars.length k2)).toArray] w fun e w' => ∃ v',e = .returned v'∧OwnLinks w' w.heap.size v' (linksL o)∧Below w.heap.size w w':=by
 have ho:=hv.ok
 have hO:=boxed (w:=w) (ve := .slice A1 o.ents.length k1) (vp := .slice A2 o.pars.length k2) ho
 have b0:Below w.heap.size w (w.alloc (.cells (objC o (.slice A1 o.ents.length k1) (.slice A2 o.pars.length k2)).toArray 54)):=(Below.refl _ _).alloc (Nat.le_refl _) _
 have hv0:=hv.below b0
 obtain ⟨W0,hW0⟩ : ∃ W0,w.alloc (.cells (objC o (.slice A1 o.ents.length k1) (.slice A2 o.pars.length k2)).toArray 54)=W0:=⟨_,rfl⟩
 rw [hW0] at hO b0 hv0
 have hgW:w.heap.size<W0.heap.size:=by rw [←hW0];simp
 have s0:=b0.size
 have c0:=hO.kind
 have hoE:=Lib.hid ho.ents
 have hoP:=Lib.hid ho.pars
 have htr:=ho.tree
 have hta:=ho.target
 have hen70:=hs.ents
 have hp20:=hs.pars
 have hn0:=OwnLinks.nil W0 W0.heap.size
 obtain ⟨r,hr⟩ : ∃ r,Hid (linksL o=r):=⟨_,Lib.hid rfl⟩
 rw [hr.out]
 clear hv ho hs
 generalize (objC o (.slice A1 o.ents.length k1) (.slice A2 o.pars.length k2)).toArray=cs at *
 by_cases h2:o.kind=2
 ·have hrr:Hid (entLinks o.ents=r):=by show _=_;rw [←links_two h2];exact hr.out
  rw [h2] at c0
  have c2:=hO.ents
  have hat:Hid (0<o.ents.length → ∃ g os,A1=some ⟨g,os,none⟩∧g<W0.heap.size ∧ ∀ i x,o.ents[i]?=some x→W0.rangeAt g (os+i*34) (entC x)):=by
   obtain ⟨A,cap,he,_,_,h⟩:=hv0.ents
   injection he with he _ _
   subst he
   exact h
  have hk2:=h2
  clear hr h2 hv0
  go_enter Tryz.func88,Tryz.ntmps88
  go_wp2
  go_loopw [3,4] (fun vo vi wr => ∃ k:Nat,vi = .int .i64 k∧k≤o.ents.length∧OwnLinks wr W0.heap.size vo (entLinks (o.ents.take k))∧Below W0.heap.size W0 wr) (fun _ vi _=>o.ents.length-(intOf vi).toNat)
  case atStart=>exact ⟨0,rfl,by omega,hn0,Below.refl _ _⟩
  case round=>
   obtain ⟨k,rfl,hk,hown,hbel⟩:=hrel
   have hsz:=hbel.size
   have hOr:=hO.under hbel hgW
   have d2:=hOr.ents
   clear hW0
   by_cases hlt:k<o.ents.length
   ·have hki:(k:Int)<(o.ents.length:Int):=by omega
    obtain ⟨gs,os,rfl,hgs,hcell⟩:=hat.out (by omega)
    obtain ⟨x,hx⟩ : ∃ x,o.ents[k]?=some x:=⟨_,List.getElem?_eq_getElem hlt⟩
    have hxok:EntOk x:=hoE.out x (List.mem_of_getElem? hx)
    have hx0:=rangeAt_below (hcell k x hx) hgs hbel
    have hst:=Lib.hid (entLinks_take hx)
    have hln:(entLinks (o.ents.take k)).length≤k:=by unfold entLinks;rw [List.length_map,List.length_take];omega
    generalize entLinks (o.ents.take k)=L at *
    have hx32:=hxok.id
    have hcs:=linkC_size (l:=⟨x.id,x.kind⟩) hx32
    have hc1:=linkC_cells ⟨x.id,x.kind⟩
    have m1:L.length+1≤9223372036854775807:=by omega
    have m2:(L.length+1)*40≤140737488355328:=by omega
    have hc33:(linkC ⟨x.id,x.kind⟩).toArray.size=33:=by rw [hcs]
    obtain ⟨vA,kA,rfl⟩:=own_form' hown
    have hx00:=hcell k x hx
    obtain ⟨g,hg⟩ : ∃ g,w.heap.size=g:=⟨_,rfl⟩
    have hC0 : ∀ n,LnkC W0 (.slice vA L.length kA) L (Array.replicate n false) wr:=fun n=>⟨hbel,fun _=>hown⟩
    simp only [hg] at hO hgW d2 ⊢
    clear hx hat hcell hoE hoP hown hx0 hcs hc1 hc33 hOr hbel hsz hrr c2 c0 hn0
    go_wp2
    obtain ⟨V,hV⟩ : ∃ V:Nat→Value,V=fun i=>[(.slice vA L.length kA),(.pointer (some ⟨g,2,none⟩)),(.slice (some ⟨gs,os,none⟩) o.ents.length k1),(.int .i64 k),(.pointer (some ⟨gs,os+k*34,none⟩)),(.pointer (some ⟨gs,os+k*34+2,none⟩)),(.agg (u8s x.id)),(.pointer (some ⟨g,2,none⟩)),(.slice (some ⟨gs,os,none⟩) o.ents.length k1),(.int .i64 k),(.pointer (some ⟨gs,os+k*34,none⟩)),(.pointer (some ⟨gs,os+k*34+1,none⟩)),(.int .i64 x.kind),(.agg (linkC ⟨x.id,x.kind⟩).toArray),undef,undef,undef].getD i undef:=⟨_,rfl⟩
    have v0:V 0=(.slice vA L.length kA):=by rw [hV];rfl
    have v1:V 1=(.pointer (some ⟨g,2,none⟩)):=by rw [hV];rfl
    have v2:V 2=(.slice (some ⟨gs,os,none⟩) o.ents.length k1):=by rw [hV];rfl
    have v3:V 3=(.int .i64 k):=by rw [hV];rfl
    have v4:V 4=(.pointer (some ⟨gs,os+k*34,none⟩)):=by rw [hV];rfl
    have v5:V 5=(.pointer (some ⟨gs,os+k*34+2,none⟩)):=by rw [hV];rfl
    have v6:V 6=(.agg (u8s x.id)):=by rw [hV];rfl
    have v7:V 7=(.pointer (some ⟨g,2,none⟩)):=by rw [hV];rfl
    have v8:V 8=(.slice (some ⟨gs,os,none⟩) o.ents.length k1):=by rw [hV];rfl
    have v9:V 9=(.int .i64 k):=by rw [hV];rfl
    have v10:V 10=(.pointer (some ⟨gs,os+k*34,none⟩)):=by rw [hV];rfl
    have v11:V 11=(.pointer (some ⟨gs,os+k*34+1,none⟩)):=by rw [hV];rfl
    have v12:V 12=(.int .i64 x.kind):=by rw [hV];rfl
    have v13:V 13=(.agg (linkC ⟨x.id,x.kind⟩).toArray):=by rw [hV];rfl
    clear hV
    refine wp_region_listed (C:=LnkC W0 (.slice vA L.length kA) L) (R:=LnkR V W0.heap.size (.slice vA L.length kA) L ⟨x.id,x.kind⟩) (by kernel_rfl) (by kernel_rfl) (by kernel_rfl) ?_ (hC0 _).drew ?_ ?_
    ·exact sizes_spec (n:=69) (by kernel_rfl)
    ·intro i o listed a w1 ho hi hL
     have hin:=(ready_spec hi).1
     have hsz:listed.size=17:=hL.size
     match i,ho with
     | 0,ho=>
       obtain rfl:=(Option.some.inj ho).symm
       have e0:a.tmps[3]?.getD undef=(.slice vA L.length kA):=(slot_eval a 3).trans (hL.get_old hi (by kernel_rfl))
       have hc:=hL.cls
       refine step_wp rfl rfl ?_
       clear ho hL
       refine wp_val (v:=(.slice vA L.length kA)) ?_ ⟨_,rfl,lnkR_mk (by omega) v0.symm,hc.same hsz hin (by omega),fun _ _ _ h=>h⟩
       clear hi hin hsz v0 v1 v2 v3 v4 v5 v6 v7 v8 v9 v10 v11 v12 v13  hc
       unfold execOp
       go_simp
     | 1,ho=>
       obtain rfl:=(Option.some.inj ho).symm
       have e0:a.tmps[1]?.getD undef=(.pointer (some ⟨g,0,none⟩)):=(slot_eval a 1).trans (hL.get_old hi (by kernel_rfl))
       have hc:=hL.cls
       refine step_wp rfl rfl ?_
       clear ho hL
       refine wp_val (v:=(.pointer (some ⟨g,2,none⟩))) ?_ ⟨_,rfl,lnkR_mk (by omega) v1.symm,hc.same hsz hin (by omega),fun _ _ _ h=>h⟩
       clear hi hin hsz v0 v1 v2 v3 v4 v5 v6 v7 v8 v9 v10 v11 v12 v13  hc
       unfold execOp
       go_simp
     | 2,ho=>
       obtain rfl:=(Option.some.inj ho).symm
       have e0:a.tmps[17]?.getD undef=(.pointer (some ⟨g,2,none⟩)):=(slot_eval a 17).trans ((lnkR_at (by omega) (hL.get_new (j:=1) hi (by kernel_rfl))).trans v1)
       have hc:=hL.cls
       refine step_wp rfl rfl ?_
       clear ho hL
       refine wp_val (v:=(.slice (some ⟨gs,os,none⟩) o.ents.length k1)) ?_ ⟨_,rfl,lnkR_mk (by omega) v2.symm,hc.same hsz hin (by omega),fun _ _ _ h=>h⟩
       have q2:=(hO.under hc.bel hgW).ents
       clear hi hin hsz v0 v1 v2 v3 v4 v5 v6 v7 v8 v9 v10 v11 v12 v13  hc
       unfold execOp
       go_simp
     | 3,ho=>
       obtain rfl:=(Option.some.inj ho).symm
       have e0:a.tmps[4]?.getD undef=(.int .i64 k):=(slot_eval a 4).trans (hL.get_old hi (by kernel_rfl))
       have hc:=hL.cls
       refine step_wp rfl rfl ?_
       clear ho hL
       refine wp_val (v:=(.int .i64 k)) ?_ ⟨_,rfl,lnkR_mk (by omega) v3.symm,hc.same hsz hin (by omega),fun _ _ _ h=>h⟩
       clear hi hin hsz v0 v1 v2 v3 v4 v5 v6 v7 v8 v9 v10 v11 v12 v13  hc
       unfold execOp
       go_simp
     | 4,ho=>
       obtain rfl:=(Option.some.inj ho).symm
       have e0:a.tmps[18]?.getD undef=(.slice (some ⟨gs,os,none⟩) o.ents.length k1):=(slot_eval a 18).trans ((lnkR_at (by omega) (hL.get_new (j:=2) hi (by kernel_rfl))).trans v2)
       have e1:a.tmps[19]?.getD undef=(.int .i64 k):=(slot_eval a 19).trans ((lnkR_at (by omega) (hL.get_new (j:=3) hi (by kernel_rfl))).trans v3)
       have hc:=hL.cls
       refine step_wp rfl rfl ?_
       clear ho hL
       refine wp_val (v:=(.pointer (some ⟨gs,os+k*34,none⟩))) ?_ ⟨_,rfl,lnkR_mk (by omega) v4.symm,hc.same hsz hin (by omega),fun _ _ _ h=>h⟩
       clear hi hin hsz v0 v1 v2 v3 v4 v5 v6 v7 v8 v9 v10 v11 v12 v13  hc
       unfold execOp
       go_simp
     | 5,ho=>
       obtain rfl:=(Option.some.inj ho).symm
       have e0:a.tmps[20]?.getD undef=(.pointer (some ⟨gs,os+k*34,none⟩)):=(slot_eval a 20).trans ((lnkR_at (by omega) (hL.get_new (j:=4) hi (by kernel_rfl))).trans v4)
       have hc:=hL.cls
       refine step_wp rfl rfl ?_
       clear ho hL
       refine wp_val (v:=(.pointer (some ⟨gs,os+k*34+2,none⟩))) ?_ ⟨_,rfl,lnkR_mk (by omega) v5.symm,hc.same hsz hin (by omega),fun _ _ _ h=>h⟩
       clear hi hin hsz v0 v1 v2 v3 v4 v5 v6 v7 v8 v9 v10 v11 v12 v13  hc
       unfold execOp
       go_simp
     | 6,ho=>
       obtain rfl:=(Option.some.inj ho).symm
       have e0:a.tmps[21]?.getD undef=(.pointer (some ⟨gs,os+k*34+2,none⟩)):=(slot_eval a 21).trans ((lnkR_at (by omega) (hL.get_new (j:=5) hi (by kernel_rfl))).trans v5)
       have hc:=hL.cls
       refine step_wp rfl rfl ?_
       clear ho hL
       refine wp_val (v:=(.agg (u8s x.id))) ?_ ⟨_,rfl,lnkR_mk (by omega) v6.symm,hc.same hsz hin (by omega),fun _ _ _ h=>h⟩
       have q2:=run_ldvI_at (range_entId (rangeAt_below hx00 hgs hc.bel)) hx32
       clear hi hin hsz v0 v1 v2 v3 v4 v5 v6 v7 v8 v9 v10 v11 v12 v13  hc
       unfold execOp
       go_simp
     | 7,ho=>
       obtain rfl:=(Option.some.inj ho).symm
       have e0:a.tmps[1]?.getD undef=(.pointer (some ⟨g,0,none⟩)):=(slot_eval a 1).trans (hL.get_old hi (by kernel_rfl))
       have hc:=hL.cls
       refine step_wp rfl rfl ?_
       clear ho hL
       refine wp_val (v:=(.pointer (some ⟨g,2,none⟩))) ?_ ⟨_,rfl,lnkR_mk (by omega) v7.symm,hc.same hsz hin (by omega),fun _ _ _ h=>h⟩
       clear hi hin hsz v0 v1 v2 v3 v4 v5 v6 v7 v8 v9 v10 v11 v12 v13  hc
       unfold execOp
       go_simp
     | 8,ho=>
       obtain rfl:=(Option.some.inj ho).symm
       have e0:a.tmps[23]?.getD undef=(.pointer (some ⟨g,2,none⟩)):=(slot_eval a 23).trans ((lnkR_at (by omega) (hL.get_new (j:=7) hi (by kernel_rfl))).trans v7)
       have hc:=hL.cls
       refine step_wp rfl rfl ?_
       clear ho hL
       refine wp_val (v:=(.slice (some ⟨gs,os,none⟩) o.ents.length k1)) ?_ ⟨_,rfl,lnkR_mk (by omega) v8.symm,hc.same hsz hin (by omega),fun _ _ _ h=>h⟩
       have q2:=(hO.under hc.bel hgW).ents
       clear hi hin hsz v0 v1 v2 v3 v4 v5 v6 v7 v8 v9 v10 v11 v12 v13  hc
       unfold execOp
       go_simp
     | 9,ho=>
       obtain rfl:=(Option.some.inj ho).symm
       have e0:a.tmps[4]?.getD undef=(.int .i64 k):=(slot_eval a 4).trans (hL.get_old hi (by kernel_rfl))
       have hc:=hL.cls
       refine step_wp rfl rfl ?_
       clear ho hL
       refine wp_val (v:=(.int .i64 k)) ?_ ⟨_,rfl,lnkR_mk (by omega) v9.symm,hc.same hsz hin (by omega),fun _ _ _ h=>h⟩
       clear hi hin hsz v0 v1 v2 v3 v4 v5 v6 v7 v8 v9 v10 v11 v12 v13  hc
       unfold execOp
       go_simp
     | 10,ho=>
       obtain rfl:=(Option.some.inj ho).symm
       have e0:a.tmps[24]?.getD undef=(.slice (some ⟨gs,os,none⟩) o.ents.length k1):=(slot_eval a 24).trans ((lnkR_at (by omega) (hL.get_new (j:=8) hi (by kernel_rfl))).trans v8)
       have e1:a.tmps[25]?.getD undef=(.int .i64 k):=(slot_eval a 25).trans ((lnkR_at (by omega) (hL.get_new (j:=9) hi (by kernel_rfl))).trans v9)
       have hc:=hL.cls
       refine step_wp rfl rfl ?_
       clear ho hL
       refine wp_val (v:=(.pointer (some ⟨gs,os+k*34,none⟩))) ?_ ⟨_,rfl,lnkR_mk (by omega) v10.symm,hc.same hsz hin (by omega),fun _ _ _ h=>h⟩
       clear hi hin hsz v0 v1 v2 v3 v4 v5 v6 v7 v8 v9 v10 v11 v12 v13  hc
       unfold execOp
       go_simp
     | 11,ho=>
       obtain rfl:=(Option.some.inj ho).symm
       have e0:a.tmps[26]?.getD undef=(.pointer (some ⟨gs,os+k*34,none⟩)):=(slot_eval a 26).trans ((lnkR_at (by omega) (hL.get_new (j:=10) hi (by kernel_rfl))).trans v10)
       have hc:=hL.cls
       refine step_wp rfl rfl ?_
       clear ho hL
       refine wp_val (v:=(.pointer (some ⟨gs,os+k*34+1,none⟩))) ?_ ⟨_,rfl,lnkR_mk (by omega) v11.symm,hc.same hsz hin (by omega),fun _ _ _ h=>h⟩
       clear hi hin hsz v0 v1 v2 v3 v4 v5 v6 v7 v8 v9 v10 v11 v12 v13  hc
       unfold execOp
       go_simp
     | 12,ho=>
       obtain rfl:=(Option.some.inj ho).symm
       have e0:a.tmps[27]?.getD undef=(.pointer (some ⟨gs,os+k*34+1,none⟩)):=(slot_eval a 27).trans ((lnkR_at (by omega) (hL.get_new (j:=11) hi (by kernel_rfl))).trans v11)
       have hc:=hL.cls
       refine step_wp rfl rfl ?_
       clear ho hL
       refine wp_val (v:=(.int .i64 x.kind)) ?_ ⟨_,rfl,lnkR_mk (by omega) v12.symm,hc.same hsz hin (by omega),fun _ _ _ h=>h⟩
       have q2:=(range_ent (rangeAt_below hx00 hgs hc.bel)).2
       clear hi hin hsz v0 v1 v2 v3 v4 v5 v6 v7 v8 v9 v10 v11 v12 v13  hc
       unfold execOp
       go_simp
     | 13,ho=>
       obtain rfl:=(Option.some.inj ho).symm
       have e0:a.tmps[22]?.getD undef=(.agg (u8s x.id)):=(slot_eval a 22).trans ((lnkR_at (by omega) (hL.get_new (j:=6) hi (by kernel_rfl))).trans v6)
       have e1:a.tmps[28]?.getD undef=(.int .i64 x.kind):=(slot_eval a 28).trans ((lnkR_at (by omega) (hL.get_new (j:=12) hi (by kernel_rfl))).trans v12)
       have hc:=hL.cls
       refine step_wp rfl rfl ?_
       refine wp_build_linkK (.tmp 22) (.tmp 28) rfl x.id x.kind hx32 ((slot_eval a 22).symm.trans e0) ((slot_eval a 28).symm.trans e1) ⟨_,rfl,lnkR_mk (by omega) v13.symm,hc.same hsz hin (by omega),fun _ _ _ h=>h⟩
     | 14,ho=>
       obtain rfl:=(Option.some.inj ho).symm
       have e0:a.tmps[29]?.getD undef=(.agg (linkC ⟨x.id,x.kind⟩).toArray):=(slot_eval a 29).trans ((lnkR_at (by omega) (hL.get_new (j:=13) hi (by kernel_rfl))).trans v13)
       have hc:=hL.cls
       have hl6:=hL.later (j:=15) hi (by kernel_rfl)
       clear ho hL
       refine step_wp rfl rfl ?_
       refine wp_slice_linkK (.tmp 29) rfl ⟨x.id,x.kind⟩ hx32 ((slot_eval a 29).symm.trans e0) ⟨_,rfl,lnkR_5 (Blk.new _ _ _) (hc.fresh hl6),(hc.same hsz hin (by omega)).alloc _,fun j u _ h=>lnkR_alloc h _⟩
     | 15,ho=>
       obtain rfl:=(Option.some.inj ho).symm
       have e0:a.tmps[16]?.getD undef=(.slice vA L.length kA):=(slot_eval a 16).trans ((lnkR_at (by omega) (hL.get_new (j:=0) hi (by kernel_rfl))).trans v0)
       have e1:=hL.get_new (j:=14) (t:=30) hi (by kernel_rfl)
       have hc:=hL.cls
       have hl6:listed.getD 15 false=false:=by rw [getD_of_size (by rw [hsz];exact hin)];exact (ready_spec hi).2.1
       have hl7:=hL.later (j:=16) hi (by kernel_rfl)
       obtain ⟨b5,h5,hb5,hne5⟩:=lnkR_5at e1
       clear ho hL
       refine step_wp rfl rfl ?_
       refine wp_append_blk (.tmp 16) (.tmp 30) 78 rfl _ _ 33 40 Tryz.linkTy W0.heap.size (.slice vA L.length kA) L.length (rowsOf linkC L) ((slot_eval a 16).symm.trans e0) (hc.own hl6) b5 1 1 _ _ h5 hb5 (linkC_size hx32) (linkC_cells _) m1 m2 W0 hc.bel hc.bel.size ?_
       intro v6 w6 hown6 hbel6 hg6
       refine ⟨_,rfl,lnkR_own (by omega) (OwnLinks.more hown6),hc.grown hsz hin hl6 hbel6 hg6,fun j u hj h=>lnkR_append ?_ h hg6⟩
       intro hj6
       have:j=15∨j=16∨17≤j:=by omega
       rcases this with rfl | rfl | h8
       ·rw [hl6] at hj;cases hj
       ·rw [hl7] at hj;cases hj
       ·simp [Array.getD,hsz,show ¬ j<17 by omega] at hj
     | 16,ho=>
       obtain rfl:=(Option.some.inj ho).symm
       have e0:=hL.get_new (j:=15) (t:=31) hi (by kernel_rfl)
       have hc:=hL.cls
       clear ho hL
       refine step_wp rfl rfl ?_
       have e1:a.tmps[31]?.getD undef=a.eval (.tmp 31):=slot_eval a 31
       generalize a.eval (.tmp 31)=z6 at e0 e1
       refine wp_val (v:=z6) ?_ ⟨_,rfl,lnkR_own (by omega) (lnkR_ownAt (by omega) e0),hc.same hsz hin (by omega),fun _ _ _ h=>h⟩
       clear hc hi hin hsz v0 v1 v2 v3 v4 v5 v6 v7 v8 v9 v10 v11 v12 v13 e0
       unfold execOp
       go_simp
     | (n+17),ho=>exact absurd hin (by simp)
    ·intro a w1 listed hL hall
     have hc:=hL.cls
     obtain ⟨vs,rfl,hR⟩:=hL.frame (by kernel_rfl) (sizes_spec (n:=69) (by kernel_rfl)) hall
     simp only [putAll,Act.put,List.setIfInBounds_toArray,List.set_cons_zero,List.set_cons_succ]
     simp only [Nat.zero_add,Nat.reduceAdd]
     have h16:=lnkR_ownAt (by omega) (hR 16 _ 3 rfl rfl)
     have bel3:=hc.bel
     generalize vs 16=v3 at *
     have hmv4:OwnLinks w1 W0.heap.size v3 (entLinks (o.ents.take (k+1))):=by rw [hst.out];exact h16
     clear h16 hst m1 m2 hR hL
     go_wp2
     go_roundw
     case rel=>exact ⟨k+1,by go_num,by omega,hmv4,bel3⟩
     case measure=>simp [intOf];omega
   ·have hki : ¬ (k:Int)<(o.ents.length:Int):=by omega
    have he:Hid (entLinks (o.ents.take k)=r):=by show _=_;rw [List.take_of_length_le (by omega)];exact hrr.out
    rw [he.out] at hown
    have d0:=hOr.kind
    rw [hk2] at d0
    clear hat hoE hoP he hrr
    go_wp2
    go_ret
    exact ⟨_,rfl,own_low hown (by omega),b0.trans (hbel.mono s0)⟩
 by_cases h3:o.kind=3
 ·have hrr:Hid (⟨o.tree,2⟩::parLinks o.pars=r):=by show _=_;rw [←links_three h3];exact hr.out
  rw [h3] at c0
  have hat:Hid (0<o.pars.length → ∃ g os,A2=some ⟨g,os,none⟩∧g<W0.heap.size ∧ ∀ i x,o.pars[i]?=some x→W0.rangeAt g (os+i*32) (idC x)):=by
   obtain ⟨A,cap,he,_,_,h⟩:=hv0.pars
   injection he with he _ _
   subst he
   exact h
  have hbd:=built_link o.tree 2 htr
  have hcs:=linkC_size (l:=⟨o.tree,2⟩) htr
  have hc1:=linkC_cells ⟨o.tree,2⟩
  have hc33:(linkC ⟨o.tree,2⟩).toArray.size=33:=by rw [hcs]
  have hti:=hO.tree
  have hk3:=h3
  have m1:([]:List LinkL).length+1≤9223372036854775807:=by simp
  have m2:(([]:List LinkL).length+1)*40≤140737488355328:=by simp
  clear hr h2 h3 hv0
  go_enter Tryz.func88,Tryz.ntmps88
  go_wp2_with (first
   | ((with_reducible refine lit_load_id (.tmp 36) w.heap.size 3 o.tree htr hti ?_ ?_);rfl)
   | ((with_reducible refine lit_build2 hbd ?_ ?_ ?_);rfl;rfl)
   | ((with_reducible refine lit_slice1 (.tmp 38) Tryz.linkTy (linkC ⟨o.tree,2⟩).toArray hc33 (by omega) ?_ ?_);rfl)
   | (at_builtin
      (with_reducible refine lit_append_new (.tmp 35) (.tmp 39) 1 _ Tryz.linkTy hn0 (linkC ⟨o.tree,2⟩).toArray hcs hc1 m1 m2 (Nat.le_refl _) ?_ ?_ ?_);rfl;rfl
      intro v3 w3 hv3 hbv3 hgv3 hnv3
      have hmv3:OwnLinks w3 W0.heap.size v3 [⟨o.tree,2⟩]:=OwnLinks.more (o:=[]) hv3
      have hO3:=hO.under hbv3 hgW
      obtain ⟨vA,kA,rfl⟩:=own_form' hmv3
      clear hgv3 hnv3 hv3))
  have s3:=hbv3.size
  clear hW0 c0 hti hbd hcs hc1 hc33 m1 m2 hO3
  go_loopw [3,5] (fun vo vi wr => ∃ k:Nat,vi = .int .i64 k∧k≤o.pars.length∧OwnLinks wr W0.heap.size vo (⟨o.tree,2⟩::parLinks (o.pars.take k))∧Below W0.heap.size W0 wr) (fun _ vi _=>o.pars.length-(intOf vi).toNat)
  case atStart=>exact ⟨0,rfl,by omega,hmv3,hbv3⟩
  case round=>
   obtain ⟨k,rfl,hk,hown,hbel⟩:=hrel
   have hsz:=hbel.size
   have hOr:=hO.under hbel hgW
   have d35:=hOr.pars
   have d0:=hOr.kind
   rw [hk3] at d0
   clear hmv3
   by_cases hlt:k<o.pars.length
   ·have hki:(k:Int)<(o.pars.length:Int):=by omega
    obtain ⟨gs,os,rfl,hgs,hcell⟩:=hat.out (by omega)
    obtain ⟨x,hx⟩ : ∃ x,o.pars[k]?=some x:=⟨_,List.getElem?_eq_getElem hlt⟩
    have hx32:x.length=32:=hoP.out x (List.mem_of_getElem? hx)
    have hx0:wr.rangeAt gs (os+k*32) (u8s x).toList:=rangeAt_below (hcell k x hx) hgs hbel
    have hst:Hid ((⟨o.tree,2⟩::parLinks (o.pars.take (k+1)):List LinkL)=(⟨o.tree,2⟩::parLinks (o.pars.take k))++[⟨x,3⟩]):=by show _=_;rw [parLinks_take hx];simp
    have hln:((⟨o.tree,2⟩::parLinks (o.pars.take k):List LinkL)).length≤k+1:=by unfold parLinks;rw [List.length_cons,List.length_map,List.length_take];omega
    generalize (⟨o.tree,2⟩::parLinks (o.pars.take k):List LinkL)=L at *
    have hbd:=built_link x 3 hx32
    have hcs:=linkC_size (l:=⟨x,3⟩) hx32
    have hc1:=linkC_cells ⟨x,3⟩
    have m1:L.length+1≤9223372036854775807:=by omega
    have m2:(L.length+1)*40≤140737488355328:=by omega
    have hc33:(linkC ⟨x,3⟩).toArray.size=33:=by rw [hcs]
    obtain ⟨vB,kB,rfl⟩:=own_form' hown
    clear hx hat hcell hoE hoP
    go_wp2_with (first
     | ((with_reducible refine lit_load_id (.tmp 52) gs (os+k*32) x hx32 hx0 ?_ ?_);rfl)
     | ((with_reducible refine lit_build2 hbd ?_ ?_ ?_);rfl;rfl)
     | ((with_reducible refine lit_slice1 (.tmp 54) Tryz.linkTy (linkC ⟨x,3⟩).toArray hc33 (by omega) ?_ ?_);rfl)
     | (at_builtin
        (with_reducible refine lit_append_new (.tmp 48) (.tmp 55) 1 _ Tryz.linkTy hown (linkC ⟨x,3⟩).toArray hcs hc1 m1 m2 hsz ?_ ?_ ?_);rfl;rfl
        intro v5 w5 hv5 hbv5 hgv5 hnv5
        have hmv5:OwnLinks w5 W0.heap.size v5 (L++[⟨x,3⟩]):=OwnLinks.more hv5
        have bel5:=hbel.trans hbv5
        clear hgv5 hnv5 hv5))
    have hmv6:OwnLinks w5 W0.heap.size v5 (⟨o.tree,2⟩::parLinks (o.pars.take (k+1))):=by rw [hst.out];exact hmv5
    clear hmv5 hst m1 m2
    go_roundw
    case rel=>exact ⟨k+1,by go_num,by omega,hmv6,bel5⟩
    case measure=>simp [intOf];omega
   ·have hki : ¬ (k:Int)<(o.pars.length:Int):=by omega
    have he:Hid ((⟨o.tree,2⟩::parLinks (o.pars.take k):List LinkL)=r):=by show _=_;rw [List.take_of_length_le (by omega)];exact hrr.out
    rw [he.out] at hown
    clear hat hoE hoP he hrr
    go_wp2
    go_ret
    exact ⟨_,rfl,own_low hown (by omega),b0.trans (hbel.mono s0)⟩
 by_cases h4:o.kind=4
 ·have hrr:Hid (([⟨o.target,o.of_⟩]:List LinkL)=r):=by show _=_;rw [←links_four h4];exact hr.out
  rw [h4] at c0
  have hbd:=built_link o.target o.of_ hta
  have hcs:=linkC_size (l:=⟨o.target,o.of_⟩) hta
  have hc1:=linkC_cells ⟨o.target,o.of_⟩
  have hc33:(linkC ⟨o.target,o.of_⟩).toArray.size=33:=by rw [hcs]
  have hti:=hO.target
  have c70:=hO.of_
  have m1:([]:List LinkL).length+1≤9223372036854775807:=by simp
  have m2:(([]:List LinkL).length+1)*40≤140737488355328:=by simp
  clear hr h2 h3 h4 hv0 hO
  go_enter Tryz.func88,Tryz.ntmps88
  go_wp2_with (first
   | ((with_reducible refine lit_load_id (.tmp 61) w.heap.size 38 o.target hta hti ?_ ?_);rfl)
   | ((with_reducible refine lit_build2 hbd ?_ ?_ ?_);rfl;rfl)
   | ((with_reducible refine lit_slice1 (.tmp 65) Tryz.linkTy (linkC ⟨o.target,o.of_⟩).toArray hc33 (by omega) ?_ ?_);rfl)
   | (at_builtin
      (with_reducible refine lit_append_new (.tmp 60) (.tmp 66) 1 _ Tryz.linkTy hn0 (linkC ⟨o.target,o.of_⟩).toArray hcs hc1 m1 m2 (Nat.le_refl _) ?_ ?_ ?_);rfl;rfl
      intro v3 w3 hv3 hbv3 hgv3 hnv3
      have hmv3:OwnLinks w3 W0.heap.size v3 [⟨o.target,o.of_⟩]:=OwnLinks.more (o:=[]) hv3
      obtain ⟨vA,kA,rfl⟩:=own_form' hmv3
      clear hgv3 hnv3 hv3))
  have hmv4:OwnLinks w3 W0.heap.size (.slice vA 1 kA) r:=by rw [←hrr.out];exact hmv3
  clear hmv3
  go_ret
  exact ⟨_,rfl,own_low hmv4 (by omega),b0.trans (hbv3.mono s0)⟩
 have hrr:Hid (([]:List LinkL)=r):=by show _=_;rw [←links_none h2 h3 h4];exact hr.out
 have e2:(o.kind==2)=false:=by rw [beq_eq_false_iff_ne];exact h2
 have e3:(o.kind==3)=false:=by rw [beq_eq_false_iff_ne];exact h3
 have e4:(o.kind==4)=false:=by rw [beq_eq_false_iff_ne];exact h4
 rw [hrr.out] at hn0
 clear hr hO hv0
 go_enter Tryz.func88,Tryz.ntmps88
 go_wp2
 go_ret
 exact ⟨_,rfl,own_low hn0 (by omega),b0⟩
end Go.Proofs.YtlojebhcemfodaaGreatDoor
namespace Go.Proofs.YtlojebhcemfodaaGreatDoor
open Go.RowKit
attribute [local go_sem ↓] ldvI_eq ldvO_eq ldvS_eq
theorem dec_kind4 {t:Txt} {o:ObjL} (h:decO t=some o):o.kind=1∨o.kind=2∨o.kind=3∨o.kind=4:=by
 have h1:=(dec_back h).1
 unfold encO at h1
 split at h1
 ·rename_i h2
  exact may_kind h2.1
 ·cases h1
def linksS (S:List StL) (n:Txt):List LinkL:=match objS S n with
 | some o=>linksL o
 | none=>[]
theorem linksS_len (S:List StL) (n:Txt):(linksS S n).length≤70:=by
 unfold linksS objS
 cases hg:getS S n with
 | none=>simp
 | some s=>
   simp only
   cases hd:decO s.text with
   | none=>simp
   | some o=>exact links_len (dec_small hd)
/-- What the first j links come to, all or the first one. -/
def keptK (c:Bool) (L:List LinkL) (j:Nat):List Txt:=(L.take (if c=true then Nat.min j 1 else j)).map LinkL.id
theorem keptK_more {c:Bool} {L:List LinkL} {j:Nat} {y:LinkL} (hy:L[j]?=some y) (h:c=false∨j=0):keptK c L (j+1)=keptK c L j++[y.id]:=by
 unfold keptK
 cases c with
 | false=>simp [List.take_add_one,hy]
 | true=>
   rcases h with h | rfl
   ·cases h
   ·cases L with
    | nil=>simp at hy
    | cons z L=>simp at hy;subst hy;rfl
theorem keptK_less {L:List LinkL} {j:Nat} (h:0<j):keptK true L (j+1)=keptK true L j:=by
 unfold keptK
 simp only [if_true]
 rw [show Nat.min (j+1) 1=1 from Nat.min_eq_right (by omega),show Nat.min j 1=1 from Nat.min_eq_right (by omega)]
theorem keptK_len (c:Bool) (L:List LinkL) (j:Nat):(keptK c L j).length≤j:=by
 unfold keptK
 rw [List.length_map,List.length_take]
 split
 ·exact Nat.le_trans (Nat.min_le_left _ _) (Nat.min_le_left _ _)
 ·exact Nat.min_le_left _ _
theorem keptK_end {S:List StL} {cut:List Txt} {n:Txt} {b:Bool} (hb:b=(decide (kindS S n=3)&&inL cut n)):keptK b (linksS S n) (linksS S n).length=nextS S cut n:=by
 have hk:kindS S n=match objS S n with | some o=>o.kind | none=>0:=by
  unfold kindS objS
  cases getS S n with
  | none=>rfl
  | some s=>rfl
 rw [hk] at hb
 unfold linksS nextS keptK
 cases ho:objS S n with
 | none=>simp
 | some o=>
   rw [ho] at hb
   simp only at hb ⊢
   unfold nextO cutO
   by_cases hc:o.kind=3∧inL cut n=true
   ·rw [if_pos hc]
    have:b=true:=by rw [hb];simp [hc.1,hc.2]
    subst this
    have h3:linksL o=⟨o.tree,2⟩::parLinks o.pars:=links_three hc.1
    have h4:linksL { o with pars:=[] }=[⟨o.tree,2⟩]:=by rw [links_three (o:={ o with pars:=[] }) hc.1];rfl
    rw [h3,h4]
    simp only [if_true,List.length_cons]
    rw [show Nat.min ((parLinks o.pars).length+1) 1=1 from Nat.min_eq_right (by omega)]
    rfl
   ·rw [if_neg hc]
    have:b=false:=by
     rw [hb]
     cases h:inL cut n
     ·simp
     ·have : ¬ o.kind=3:=fun e=>hc ⟨e,h⟩
      simp [this]
    subst this
    simp
section
variable {w:World} {vm:Value} {es:List DiL}
set_option maxRecDepth 100000 in
set_option maxHeartbeats 1000000 in
theorem docLinks_calls (h:DocSt w vm es) (n:Txt) (hn:n.length=32) :
 Calls Tryz.prog 64 #[.agg #[vm], .agg (u8s n)] w fun e w' => ∃ v',e = .returned v'∧OwnLinks w' w.heap.size v' (linksS (es.map (·.st)) n)∧Below w.heap.size w w':=by
 obtain ⟨W1,W2,hW1,hW2,b2,hl1,hl2,hf⟩:=boxSt (w:=w) vm n hn
 obtain ⟨c2,r2,q2⟩:=hf W2 (Below.refl _ _)
 have l2:=run_ldvS r2
 have ho:=docObject_calls (h.below b2) n hn
 have hsz:=b2.size
 have hob:Hid (Calls Tryz.prog 21 #[.agg #[vm], .agg (u8s n)] W2 fun e w'=>(∃ vo,e = .returned vo∧Calls Tryz.prog 88 #[vo] w' fun e w'' => ∃ v',e = .returned v'∧OwnLinks w'' w'.heap.size v' (linksS (es.map (·.st)) n)∧Below w'.heap.size w' w'')∧Below W2.heap.size W2 w'):=Lib.hid (by
  refine ho.mono fun e w' ⟨h1,h2⟩=>⟨?_,h2⟩
  unfold ObjG at h1
  unfold linksS
  cases hg:getS (es.map (·.st)) n with
  | none=>
    rw [hg] at h1
    rw [objS_none hg]
    exact ⟨_,h1,refLinks_calls zeroO zero_small none none 0 0 w' (zero_ok w')⟩
  | some s=>
    rw [hg] at h1
    obtain ⟨o,A1,A2,k1,k2,hd,he,hv⟩:=h1
    rw [objS_some hg hd]
    exact ⟨_,he,refLinks_calls o (dec_small hd) A1 A2 k1 k2 w' hv⟩)
 generalize linksS (es.map (·.st)) n=L at *
 clear ho c2 r2 hf
 obtain ⟨NC,hNC⟩ : ∃ NC,u8s n=NC:=⟨_,rfl⟩
 rw [hNC] at hW2 hob q2 ⊢
 clear hNC h
 go_enter Tryz.func64,Tryz.ntmps64
 go_wp2_with (first
  | ((with_reducible refine hob.out.mono ?_);rintro e w3 ⟨⟨vo,rfl,hli⟩,hb3⟩
     have b3:=bthen b2 hsz hb3)
  | ((with_reducible refine hli.mono ?_);rintro e w4 ⟨v4,rfl,ho4,hb4⟩))
 go_ret
 exact ⟨_,rfl,own_low ho4 b3.size,bthen b3 b3.size hb4⟩
set_option maxRecDepth 100000 in
set_option maxHeartbeats 4000000 in
theorem docNext_calls (h:DocSt w vm es) (n:Txt) (hn:n.length=32) (cut:List Txt) (hcok : ∀ x∈cut,x.length=32) (vc:Value) (hvc:Ids w vc cut) (hlok : ∀ y∈linksS (es.map (·.st)) n,LinkOk y) :
 Calls Tryz.prog 35 #[.agg #[vm], .agg (u8s n),vc] w fun e w' => ∃ v',e = .returned v'∧OwnIds w' w.heap.size v' (nextS (es.map (·.st)) cut n)∧Below w.heap.size w w':=by
 obtain ⟨W1,W2,hW1,hW2,b2,hl1,hl2,hf⟩:=boxSt (w:=w) vm n hn
 have hfs:=fun W (hW:Below W2.heap.size W2 W)=>run_ldvS (hf W hW).2.1
 have hfn:=fun W (hW:Below W2.heap.size W2 W)=>(hf W hW).2.2
 have hsz:=b2.size
 have hli:=fun W (hW:Below W2.heap.size W2 W)=>Lib.hid (docLinks_calls (h.below (bthen b2 hsz hW)) n hn)
 have hki:=fun W (hW:Below W2.heap.size W2 W)=>Lib.hid (docKind_calls (h.below (bthen b2 hsz hW)) n hn)
 have hin:=fun W (hW:Below W2.heap.size W2 W)=>Lib.hid (in02_calls cut hcok vc n hn W (hvc.below (bthen b2 hsz hW)))
 obtain ⟨b,hb⟩ : ∃ b,b=(decide (kindS (es.map (·.st)) n=3)&&inL cut n):=⟨_,rfl⟩
 have hend:=Lib.hid (keptK_end hb)
 have hL70:=linksS_len (es.map (·.st)) n
 have hkb:Hid ((kindS (es.map (·.st)) n==3)=decide (kindS (es.map (·.st)) n=3)):=Lib.hid rfl
 generalize linksS (es.map (·.st)) n=L at *
 generalize nextS (es.map (·.st)) cut n=R at *
 generalize kindS (es.map (·.st)) n=K at *
 generalize inL cut n=bi at *
 obtain ⟨Ac,cc,rfl,_⟩:=hvc
 have l20:=hfs W2 (Below.refl _ _)
 have l21:=hfn W2 (Below.refl _ _)
 have hli2:=hli W2 (Below.refl _ _)
 obtain ⟨NC,hNC⟩ : ∃ NC,u8s n=NC:=⟨_,rfl⟩
 rw [hNC] at hW2 hli2 hki hin hfn l21 ⊢
 clear hNC h hf hli
 go_enter Tryz.func35,Tryz.ntmps35
 go_wp2_with (first
  | ((with_reducible refine hli2.out.mono ?_);rintro e w3 ⟨v3,rfl,ho3,hb3⟩
     have l31:=hfn w3 hb3
     have hi3:=hin w3 hb3)
  | ((with_reducible refine hi3.out.mono ?_);rintro e w4 ⟨rfl,hb4⟩
     have b24:=bthen hb3 hb3.size hb4
     have l40:=hfs w4 b24
     have l41:=hfn w4 b24
     have hk4:=hki w4 b24)
  | ((with_reducible refine hk4.out.mono ?_);rintro e w5 ⟨rfl,hb5⟩))
 have b25:=bthen b24 b24.size hb5
 have b05:=bthen b2 hsz b25
 have hol5:=own_below (own_below ho3 hb4) hb5
 obtain ⟨Al,cl,rfl⟩:=own_form' hol5
 clear hli2 hi3 hk4 hki hin hfs hfn l20 l21 l31 l40 l41 ho3 hb3 hb4 hb5 b24
 go_loopg [10,11] L.length (fun f vo vj wr => ∃ j:Nat,vj = .int .i64 j∧j+f=L.length∧OwnIds wr w.heap.size vo (keptK b L j)∧OwnLinks wr W2.heap.size (.slice Al L.length cl) L∧Ap vo (.slice Al L.length cl)∧Below w.heap.size w wr)
 case atStart=>exact ⟨0,rfl,by omega,by unfold keptK;simp only [Nat.zero_min,ite_self,List.take_zero,List.map_nil];exact World.ownsRow_nil _ _ _ _,hol5, .nil_l _ _ _,b05⟩
 case round=>
  clear hol5 b05 b25 b2
  obtain ⟨j,rfl,hjf,hown,hol,hap,hbel⟩:=hrel
  have hbs:=hbel.size
  cases gk with
  | zero=>
    have hki : ¬ (j:Int)<(L.length:Int):=by omega
    obtain rfl:j=L.length:=by omega
    rw [hend.out] at hown
    obtain ⟨Ao,co,rfl⟩:=own_form' hown
    clear hol hap
    go_wp2_with (fail)
    go_ret
    exact ⟨_,rfl,hown,hbel⟩
  | succ f=>
    have hki:(j:Int)<(L.length:Int):=by omega
    have hjl:j<L.length:=by omega
    obtain ⟨gl,ol,cl',hle,hgl,hra⟩:=(OwnLinks.links hlok hol).at_ hjl
    injection hle with e1 e2 e3
    subst e1 e3
    obtain ⟨y,hy⟩ : ∃ y,L[j]?=some y:=⟨_,List.getElem?_eq_getElem hjl⟩
    have hyg:L[j]=y:=by rw [List.getElem?_eq_getElem hjl] at hy;injection hy
    rw [hyg] at hra
    have hyok:LinkOk y:=hlok y (List.mem_of_getElem? hy)
    have hyi:y.id.length=32:=hyok
    have hld:(ldvI ⟨gl,ol+j*33,none⟩).run Tryz.prog wr = .ok (.agg (u8s y.id)) wr:=run_ldvI_at (link_idR hra) hyi
    have hy32:(u8s y.id).size=32:=by rw [u8s_size,hyi]
    have hy132:(u8s y.id).size=1*32:=hy32
    have hy1 : ∀ u∈(u8s y.id).toList,u.oneCell'=true:=idC_one y.id
    have hle:=keptK_len b L j
    have hmore:b=false∨j=0→Hid (keptK b L (j+1)=keptK b L j++[y.id]):=fun h=>Lib.hid (keptK_more hy h)
    have hless:b=true→0<j→Hid (keptK b L (j+1)=keptK b L j):=fun h h0=>Lib.hid (by rw [h];exact keptK_less h0)
    obtain ⟨T,hT⟩ : ∃ T,keptK b L j=T:=⟨_,rfl⟩
    rw [hT] at hle hmore hless hown
    obtain ⟨Ao,co,rfl⟩:=own_form' hown
    have hTk:T.length+1≤9223372036854775807:=by omega
    have hTb:(T.length+1)*32≤140737488355328:=by omega
    have hlen2:Hid ((T++[y.id]).length=T.length+1):=Lib.hid (by rw [List.length_append];rfl)
    have hrow2:Hid (rowsOf idC (T++[y.id])=rowsOf idC T++(u8s y.id).toList):=Lib.hid (by rw [rowsOf_append,rowsOf_one];rfl)
    clear hy hyg hT hra
    by_cases hsk:b=true∧0<j
    ·have hst:=hless hsk.1 hsk.2
     have hK3:(K==3)=true:=by
      have:=hb.symm.trans hsk.1
      simp only [Bool.and_eq_true,decide_eq_true_eq] at this
      simp [this.1]
     have hbi:bi=true:=by
      have:=hb.symm.trans hsk.1
      simp only [Bool.and_eq_true] at this
      exact this.2
     have hj0:(0:Int)<(j:Int):=by omega
     subst hbi
     clear hmore hless hb hsk
     go_wp2_with (fail)
     go_roundg f
     case rel=>exact ⟨j+1,by go_num,by omega,by rw [hst.out];exact hown,hol,hap,hbel⟩
     case measure=>omega
    ·have hst:=hmore (by
      cases b with
      | false=>exact .inl rfl
      | true=>exact .inr (by have : ¬ 0<j:=fun h=>hsk ⟨rfl,h⟩;omega))
     have hcond:(K==3)=false∨((K==3)=true∧bi=false)∨((K==3)=true∧bi=true ∧ ¬ (0:Int)<(j:Int)):=by
      cases hK:(K==3) with
      | false=>exact .inl rfl
      | true=>
        cases hbv:bi with
        | false=>exact .inr (.inl ⟨rfl,rfl⟩)
        | true=>
          refine .inr (.inr ⟨rfl,rfl,?_⟩)
          have hK2:K=3:=by simpa using hK
          rw [hbv,decide_eq_true hK2] at hb
          have hbt:b=true:=by simpa using hb
          have : ¬ 0<j:=fun h0=>hsk ⟨hbt,h0⟩
          omega
     clear hmore hless hb hsk hkb hend
     rcases hcond with hK3 | ⟨hK3,rfl⟩ | ⟨hK3,rfl,hj0⟩
     ·skip
      go_wp2_with (first
       | ((with_reducible refine lit_slice1 (.tmp 41) Tryz.idsTy (u8s y.id) hy32 (by omega) ?_ ?_);rfl)
       | ((with_reducible refine lit_append_new (.tmp 36) (.tmp 42) 1 _ Tryz.idsTy hown (u8s y.id) hy132 hy1 hTk hTb hbs ?_ ?_ ?_);rfl;rfl
          intro v8 w8 ho8 hb8 hg8 hn8))
      have ho9:OwnIds w8 w.heap.size v8 (keptK b L (j+1)):=by rw [hst.out];unfold OwnIds;rw [hlen2.out,hrow2.out];exact ho8
      have hol8:=(Far.of_grown hg8).own hol fun k hk hm=>hap k (List.mem_singleton.1 hm).symm hk
      have hap8:=hap.newer hn8 (own_lt hol)
      clear hown hol hld ho8 hap
      go_roundg f
      case rel=>exact ⟨j+1,by go_num,by omega,ho9,hol8,hap8,hbel.trans hb8⟩
      case measure=>omega
     ·skip
      go_wp2_with (first
       | ((with_reducible refine lit_slice1 (.tmp 41) Tryz.idsTy (u8s y.id) hy32 (by omega) ?_ ?_);rfl)
       | ((with_reducible refine lit_append_new (.tmp 36) (.tmp 42) 1 _ Tryz.idsTy hown (u8s y.id) hy132 hy1 hTk hTb hbs ?_ ?_ ?_);rfl;rfl
          intro v8 w8 ho8 hb8 hg8 hn8))
      have ho9:OwnIds w8 w.heap.size v8 (keptK b L (j+1)):=by rw [hst.out];unfold OwnIds;rw [hlen2.out,hrow2.out];exact ho8
      have hol8:=(Far.of_grown hg8).own hol fun k hk hm=>hap k (List.mem_singleton.1 hm).symm hk
      have hap8:=hap.newer hn8 (own_lt hol)
      clear hown hol hld ho8 hap
      go_roundg f
      case rel=>exact ⟨j+1,by go_num,by omega,ho9,hol8,hap8,hbel.trans hb8⟩
      case measure=>omega
     ·skip
      go_wp2_with (first
       | ((with_reducible refine lit_slice1 (.tmp 41) Tryz.idsTy (u8s y.id) hy32 (by omega) ?_ ?_);rfl)
       | ((with_reducible refine lit_append_new (.tmp 36) (.tmp 42) 1 _ Tryz.idsTy hown (u8s y.id) hy132 hy1 hTk hTb hbs ?_ ?_ ?_);rfl;rfl
          intro v8 w8 ho8 hb8 hg8 hn8))
      have ho9:OwnIds w8 w.heap.size v8 (keptK b L (j+1)):=by rw [hst.out];unfold OwnIds;rw [hlen2.out,hrow2.out];exact ho8
      have hol8:=(Far.of_grown hg8).own hol fun k hk hm=>hap k (List.mem_singleton.1 hm).symm hk
      have hap8:=hap.newer hn8 (own_lt hol)
      clear hown hol hld ho8 hap
      go_roundg f
      case rel=>exact ⟨j+1,by go_num,by omega,ho9,hol8,hap8,hbel.trans hb8⟩
      case measure=>omega
end
end Go.Proofs.YtlojebhcemfodaaGreatDoor
namespace Go.Proofs.YtlojebhcemfodaaGreatDoor
open Go.RowKit
theorem bytesLess_at {a b:List UInt8} (k:Nat) (ha:k<a.length) (hb:k<b.length) (he:a.take k=b.take k) (hne:a.getD k 0≠b.getD k 0) :
 Op.bytesLess a b=decide (((a.getD k 0).toNat:Int)<((b.getD k 0).toNat:Int)):=by
 induction k generalizing a b with
 | zero=>
   cases a with
   | nil=>simp at ha
   | cons x a=>
     cases b with
     | nil=>simp at hb
     | cons y b=>
       have hxy:x≠y:=hne
       rw [Op.bytesLess,Bool.eq_iff_iff]
       simp only [Bool.or_eq_true,Bool.and_eq_true,decide_eq_true_eq,beq_iff_eq,hxy,false_and,or_false,List.getD_cons_zero,UInt8.lt_iff_toNat_lt]
       omega
 | succ k ih=>
   cases a with
   | nil=>simp at ha
   | cons x a=>
     cases b with
     | nil=>simp at hb
     | cons y b=>
       simp only [List.take_succ_cons,List.cons.injEq] at he
       obtain ⟨rfl,he⟩:=he
       have:=ih (a:=a) (b:=b) (by simpa using ha) (by simpa using hb) he hne
       rw [Op.bytesLess]
       simp only [List.getD_cons_succ,beq_self_eq_true,Bool.true_and,UInt8.lt_irrefl,decide_false,Bool.false_or]
       exact this
theorem bytesLess_self (a:List UInt8):Op.bytesLess a a=false:=by
 induction a with
 | nil=>rfl
 | cons x a ih=>rw [Op.bytesLess,ih];simp
set_option maxRecDepth 100000 in
set_option maxHeartbeats 1000000 in
theorem less_calls (a b:List UInt8) (ha:a.length=32) (hb:b.length=32) (w:World) :
 Calls Tryz.prog 152 #[.agg (u8s a), .agg (u8s b)] w fun e w'=>e = .returned (.bool (Op.bytesLess a b))∧Below w.heap.size w w':=by
 have h0:Blk ((w.alloc (.cells (u8s a) 42)).alloc (.cells (u8s b) 42)) w.heap.size 42 (u8s a):=(Blk.new w _ _).alloc _
 have h1:Blk ((w.alloc (.cells (u8s a) 42)).alloc (.cells (u8s b) 42)) (w.heap.size+1) 42 (u8s b):=blk_at2 _ _ _ _
 have bb:Below w.heap.size w ((w.alloc (.cells (u8s a) 42)).alloc (.cells (u8s b) 42)):=((Below.refl _ _).alloc (Nat.le_refl _) _).alloc (by simp) _
 have s0:=fun n=>str_of_id _ ha h0 n
 have s1:=fun n=>str_of_id _ hb h1 n
 go_enter Tryz.func152,Tryz.ntmps152
 go_wp2
 go_quiet (fail)
 go_wp2
 go_ret
 exact ⟨rfl,bdrewN bb nq⟩
set_option maxRecDepth 100000 in
set_option maxHeartbeats 1000000 in
theorem refLess_calls (a b:List UInt8) (ha:a.length=32) (hb:b.length=32) (w:World) :
 Calls Tryz.prog 45 #[.agg (u8s a), .agg (u8s b)] w fun e w'=>e = .returned (.bool (Op.bytesLess a b))∧Below w.heap.size w w':=by
 have h0:Blk ((w.alloc (.cells (u8s a) 42)).alloc (.cells (u8s b) 42)) w.heap.size 42 (u8s a):=(Blk.new w _ _).alloc _
 have h1:Blk ((w.alloc (.cells (u8s a) 42)).alloc (.cells (u8s b) 42)) (w.heap.size+1) 42 (u8s b):=blk_at2 _ _ _ _
 have bb:Below w.heap.size w ((w.alloc (.cells (u8s a) 42)).alloc (.cells (u8s b) 42)):=((Below.refl _ _).alloc (Nat.le_refl _) _).alloc (by simp) _
 obtain ⟨r,hr⟩ : ∃ r,Hid (Op.bytesLess a b=r):=⟨_,rfl⟩
 rw [hr.out]
 go_enter Tryz.func45,Tryz.ntmps45
 go_wp2
 go_loopw [5] (fun i wr => ∃ k:Nat,i = .int .i64 k∧k≤32∧Hid (a.take k=b.take k)∧Blk wr w.heap.size 42 (u8s a)∧Blk wr (w.heap.size+1) 42 (u8s b)∧Below w.heap.size w wr) (fun i _=>32-(intOf i).toNat)
 case atStart=>exact ⟨0,rfl,by omega,rfl,h0,h1,bb⟩
 case round=>
  clear h0 h1 bb
  obtain ⟨k,rfl,hk,hek,h0,h1,hbel⟩:=hrel
  have hbs:=h1.lt
  by_cases hlt:k<32
  ·have hki:(k:Int)<32:=by omega
   have hat:=fun hne=>Lib.hid (bytesLess_at k (by omega) (by omega) hek.out (a:=a) (b:=b) hne)
   have hc0:wr.cell? ⟨w.heap.size,k,none⟩=some (.int .u8 ((a.getD k 0).toNat:Nat)):=by rw [h0.cell,u8s_get a k (by omega)]
   have hc1:wr.cell? ⟨w.heap.size+1,k,none⟩=some (.int .u8 ((b.getD k 0).toNat:Nat)):=by rw [h1.cell,u8s_get b k (by omega)]
   have hnx:Hid (a.getD k 0=b.getD k 0→a.take (k+1)=b.take (k+1)):=by
    intro he
    rw [List.take_add_one,List.take_add_one,hek.out]
    congr 1
    simp only [List.getD,List.getElem?_eq_getElem (show k<a.length by omega),List.getElem?_eq_getElem (show k<b.length by omega),Option.getD_some] at he
    rw [List.getElem?_eq_getElem (show k<a.length by omega),List.getElem?_eq_getElem (show k<b.length by omega),he]
   generalize a.getD k 0=x at *
   generalize b.getD k 0=y at *
   by_cases hxy:x=y
   ·have hn:=Lib.hid (hnx.out hxy)
    have hx1:((x.toNat:Int) != (y.toNat:Int))=false:=by rw [hxy];simp
    clear hat hnx hxy
    go_wp2
    go_quiet (fail)
    go_wp2
    go_roundw
    case rel=>exact ⟨k+1,by go_num,by omega,hn,h0.drewN nq,h1.drewN nq,bdrewN hbel nq⟩
    case measure=>simp [intOf];omega
   ·have hx1:((x.toNat:Int) != (y.toNat:Int))=true:=by
     simp only [bne_iff_ne,ne_eq]
     exact fun h=>hxy (UInt8.toNat_inj.1 (by omega))
    have hres:=hat hxy
    have hrr:Hid (r=decide (x.toNat<y.toNat)):=by show _=_;rw [←hr.out,hres.out];exact decide_eq_decide.2 Int.ofNat_lt
    clear hat hnx hxy hres
    go_wp2
    go_quiet (fail)
    have hc0':(wr.drewN nq).cell? ⟨w.heap.size,k,none⟩=some (.int .u8 (x.toNat:Nat)):=hc0
    have hc1':(wr.drewN nq).cell? ⟨w.heap.size+1,k,none⟩=some (.int .u8 (y.toNat:Nat)):=hc1
    have hbel':=bdrewN hbel nq
    clear hc0 hc1 h0 h1 hbel
    generalize wr.drewN nq=wo at *
    go_wp2
    go_quiet (fail)
    go_wp2
    go_ret
    exact ⟨by rw [hrr.out];rfl,bdrewN hbel' nq⟩
  ·have hk32:k=32:=by omega
   have hki : ¬ (k:Int)<32:=by omega
   have hrr:Hid (r=false):=by
    have:=hek.out
    rw [hk32,List.take_of_length_le (by omega),List.take_of_length_le (by omega)] at this
    show _=_
    rw [←hr.out,this,bytesLess_self]
   clear hk32
   go_wp2
   go_ret
   exact ⟨by rw [hrr.out];rfl,hbel⟩
end Go.Proofs.YtlojebhcemfodaaGreatDoor
