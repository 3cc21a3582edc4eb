/- Texts of this claim, laid together: ObjD, ObjS, ObjF, GsF, RsE, RsF, OpenE, OpenId, OpenObj, Seed, OpenRs, IdSm, DocI, Less, HexP, DocP. -/
import Derived.Test.YtodebknbchaccaaGreatDoorMh
import Derived.Lib.LaidTab
import Derived.Lib.Bytealg
namespace Go.Proofs.YtodebknbchaccaaGreatDoor
open Go.RowKit
section
structure BodC (w:World) (g gs os:Nat) (o:ObjL) (ve vp:Value) (w':World):Prop where
 enc:EncC w g o ve vp w'
 at_ : ∀ i x,o.ents[i]?=some x→w'.rangeAt gs (os+i*34) (entC x)
 gs_:gs<w'.heap.size
section
variable {w w' w'' w0:World} {g gs os:Nat} {o:ObjL} {ve vp:Value} {f:FuncId} {args:Array Value} {v:Value}
theorem BodC.drew (h:BodC w g gs os o ve vp w'):BodC w g gs os o ve vp w'.drew:=⟨h.enc.drew,h.at_,h.gs_⟩
theorem BodC.below (h:BodC w g gs os o ve vp w') (hb:Below w'.heap.size w' w''):BodC w g gs os o ve vp w'':=⟨h.enc.below hb,fun i x hx=>zAb (h.at_ i x hx) h.gs_ hb,Nat.lt_of_lt_of_le h.gs_ hb.size⟩
theorem keepBod (h:Calls Tryz.prog f args w0 fun e w'=>e = .returned v∧Below w0.heap.size w0 w') (hS:BodC w g gs os o ve vp w0):Calls Tryz.prog f args w0 fun e w'=>e = .returned v∧BodC w g gs os o ve vp w':=
 h.mono fun _ _ ⟨he,hb⟩=>⟨he,hS.below hb⟩
theorem keepEnc (h:Calls Tryz.prog f args w0 fun e w'=>e = .returned v∧Below w0.heap.size w0 w') (hS:EncC w g o ve vp w0):Calls Tryz.prog f args w0 fun e w'=>e = .returned v∧EncC w g o ve vp w':=
 h.mono fun _ _ ⟨he,hb⟩=>⟨he,hS.below hb⟩
theorem szl {l:Txt} (h:l.length=32):(Tryz.prog.info? 28).map (·.size)=some (u8s l).toList.length:=by rw [u8s_len,h];exact sz32
end
set_option maxRecDepth 100000 in
set_option maxHeartbeats 8000000 in
theorem refBody_calls (o:ObjL) (hs:Small o) (A1 A2:Option Addr) (k1 k2:Nat) (w:World) (hv:ObjV w (.slice A1 o.ents.length k1) (.slice A2 o.pars.length k2) o):Calls Tryz.prog 90 #[.agg (objC o (.slice A1 o.ents.length k1) (.slice A2 o.pars.length k2)).toArray] w fun e w'=>e = .returned (.string (B (bodyR o)))∧Below w.heap.size w w':=by
 have ho:=hv.ok
 have hO:=boxed (w:=w) (ve := .slice A1 o.ents.length k1) (vp := .slice A2 o.pars.length k2) ho
 have b0:Below w.heap.size w (w.alloc (.cells (objC o (.slice A1 o.ents.length k1) (.slice A2 o.pars.length k2)).toArray 74)):=(Below.refl _ _).alloc (Nat.le_refl _) _
 have hv0:=hv.below b0
 obtain ⟨W0,hW0⟩ : ∃ W0,w.alloc (.cells (objC o (.slice A1 o.ents.length k1) (.slice A2 o.pars.length k2)).toArray 74)=W0:=⟨_,rfl⟩
 rw [hW0] at hO b0 hv0
 have hE0:EncC w w.heap.size o (.slice A1 o.ents.length k1) (.slice A2 o.pars.length k2) W0:=⟨hO,hv0,b0⟩
 have c1:=hO.data
 obtain ⟨r,hr⟩ : ∃ r,Hid (r=bodyR o):=⟨_,Lib.hid rfl⟩
 rw [←hr.out]
 have hoE:=Lib.hid ho.ents
 have hoP:=Lib.hid ho.pars
 have hnE:=Lib.hid hs.names
 have htr:=Lib.hid ho.tree
 have hta:=Lib.hid ho.target
 have hen70:=hs.ents
 have hp20:=hs.pars
 have hd5:=hs.data
 have ht5:=hs.text
 have hn1:=hs.name
 have htime:=ho.time
 have hbound : ∀ k,(entsE (o.ents.take k)).length≤353500:=fun k=>by
  have:=entsE_len' (l:=o.ents.take k) (fun e he=>⟨hs.names e (List.mem_of_mem_take he),(ho.ents e (List.mem_of_mem_take he)).id⟩)
  rw [List.length_take] at this
  omega
 have hbound:=Lib.hid hbound
 have hboundP:Hid (∀ k,((o.pars.take k).flatten).length≤640):=fun k=>by
  have:=flat_len (l:=o.pars.take k) (fun e he=>hoP.out e (List.mem_of_mem_take he))
  rw [List.length_take] at this
  omega
 clear hv ho hs hv0 hO b0
 generalize (objC o (.slice A1 o.ents.length k1) (.slice A2 o.pars.length k2)).toArray=cs at *
 go_enter Tryz.func90,Tryz.ntmps90
 go_wp2
 clear hW0 c1
 obtain ⟨g,hg⟩ : ∃ g,w.heap.size=g:=⟨_,rfl⟩
 simp only [hg] at hE0 ⊢
 go_loopw [3,4] (fun vs vi wr => ∃ (k:Nat) (s:Txt),vs = .string (B s)∧vi = .int .i64 k∧k≤o.ents.length∧Hid (s=o.data++entsE (o.ents.take k))∧EncC w g o (.slice A1 o.ents.length k1) (.slice A2 o.pars.length k2) wr) (fun _ vi _=>o.ents.length-(intOf vi).toNat)
 case atStart=>exact ⟨0,o.data,rfl,rfl,by omega,Lib.hid (by simp [entsE]),hE0⟩
 case round=>
  obtain ⟨k,s,rfl,rfl,hk,hs,hE⟩:=hrel
  have f0:=hE.obj.ents
  have hsl:s.length≤358500:=by
   rw [hs.out,List.length_append]
   have:=hbound.out k
   omega
  by_cases hlt:k<o.ents.length
  ·have hki:(k:Int)<(o.ents.length:Int):=by omega
   obtain ⟨A,cap,he,_,_,hat⟩:=hE.val.ents
   injection he with he _ hcp
   subst he
   subst hcp
   obtain ⟨gs,os,rfl,hgs,hcell⟩:=hat (by omega)
   have hBC:BodC w g gs os o (.slice (some ⟨gs,os,none⟩) o.ents.length k1) (.slice A2 o.pars.length k2) wr:=⟨hE,hcell,hgs⟩
   obtain ⟨x,hx⟩ : ∃ x,o.ents[k]?=some x:=⟨_,List.getElem?_eq_getElem hlt⟩
   have hxok:EntOk x:=hoE.out x (List.mem_of_getElem? hx)
   have hxn:=hnE.out x (List.mem_of_getElem? hx)
   have hst:=Lib.hid (entsE_take hx)
   have hxh:=Lib.hid hx
   have hone:=fun W=>Lib.hid (one_calls x.kind W)
   have hbytes:=fun W=>Lib.hid (zCi x.id hxok.id W)
   have htext:=fun W=>Lib.hid (zBF x.name (by omega) W)
   have htl:(textE x.name).length≤5010:=by have:=zAn x.name.length;unfold textE;rw [List.length_append];omega
   have hee:Hid (entE x=byteK x.kind::(textE x.name++x.id)):=Lib.hid rfl
   have hidx:=szl hxok.id
   have hx32:=hxok.id
   generalize textE x.name=TX at *
   have n1 : ¬ 9223372036854775807<s.length+1:=by omega
   have n2 : ¬ 9223372036854775807<s.length+1+TX.length:=by omega
   have n3 : ¬ 9223372036854775807<s.length+1+TX.length+32:=by omega
   have n2' : ¬ 9223372036854775807<s.length+(TX.length+1):=by omega
   have n3' : ¬ 9223372036854775807<s.length+(TX.length+1)+32:=by omega
   have n4 : ¬ 9223372036854775807<s.length+1+TX.length+x.id.length:=by omega
   have n4' : ¬ 9223372036854775807<s.length+(TX.length+1)+x.id.length:=by omega
   clear hx hat hE0 hoE hnE hoP hbound hboundP htr hta hr hcell
   go_wp2
   clear hE f0
   refine zAg (C:=BodC w g gs os o (.slice (some ⟨gs,os,none⟩) o.ents.length k1) (.slice A2 o.pars.length k2)) (by kernel_rfl) (by kernel_rfl) hBC.drew ?_
   repeat
    first
     | ((with_reducible refine zAs ?_ ?_)
        ·(go_simp;done)
        apply Exists.intro
        refine ⟨fun W hW=>?_,?_⟩
        ·first
          | exact zAA _ _ rfl gs (os+k*34+2) rfl (u8s x.id).toList _ (range_entId (hW.at_ k x hxh.out)) Tryz.underlying28 rfl hidx rfl
          | (have f2:=hW.enc.obj.ents
             have f3:=(zAv (hW.at_ k x hxh.out)).2
             have f4:=(zAv (hW.at_ k x hxh.out)).1
             go_simp
             first
              | rfl
              | (go_at_call 89;with_reducible exact keepBod (hone _).out hW)
              | (go_at_call 45;with_reducible exact keepBod (htext _).out hW)
              | (go_at_call 120;with_reducible exact keepBod (hbytes _).out hW))
        simp only [Act.put,zA,zB,zC])
     | ((with_reducible refine zAk ?_ ?_)
        ·(first | rfl | (go_simp;done))
        simp only [Act.put,zA,zB,zC])
   with_reducible refine wpQuiet_nil ?_
   intro w5 hW5
   have hst2:Hid (s++[byteK x.kind]++TX++x.id=o.data++entsE (o.ents.take (k+1))):=by
    show _=_
    rw [hst.out,hee.out,hs.out]
    simp
   clear n1 n2 n3 n2' n3' n4 n4' hst hee hs
   go_wp2
   go_roundw
   case rel=>exact ⟨k+1,_,by first | rfl | (congr 2;simp),by go_num,by omega,hst2,hW5.enc⟩
   case measure=>simp [intOf];omega
  ·have hki : ¬ (k:Int)<(o.ents.length:Int):=by omega
   have hse:Hid (s=o.data++entsE o.ents):=by show s=_;rw [hs.out,List.take_of_length_le (by omega)]
   clear hs hoE hnE hbound hE0 hlt hk
   have c0:=hE.obj.kind
   by_cases h3:o.kind=3
   ·have hrr:Hid (r=s++o.tree++put o.pars.length++o.pars.flatten++put o.time++textE o.text):=by
     show r=_
     rw [hr.out,bodyR,if_pos h3,hse.out]
     simp [commitE]
    rw [h3] at c0
    have hbt:=fun W=>Lib.hid (zCi o.tree htr.out W)
    have hpn:=fun W=>Lib.hid (zAX o.pars.length (by omega) W)
    have hpt:=fun W=>Lib.hid (zAX o.time (by omega) W)
    have htx:=fun W=>Lib.hid (zBF o.text (by omega) W)
    have hl1:=zAn o.pars.length
    have hl2:=zAn o.time
    have htl:(textE o.text).length≤5010:=by have:=zAn o.text.length;unfold textE;rw [List.length_append];omega
    have ht32:=htr.out
    have hwu:IntKind.u64.wrap ((o.pars.length:Nat):Int)=((o.pars.length:Nat):Int):=by rw [IntKind.wrap_u64];omega
    have hwt:IntKind.u64.wrap ((o.time:Nat):Int)=((o.time:Nat):Int):=by rw [IntKind.wrap_u64];omega
    have hidt:=szl ht32
    have h3':=h3
    clear hr hse h3
    generalize textE o.text=TX at *
    generalize put o.pars.length=PN at *
    generalize put o.time=PT at *
    have n1 : ¬ 9223372036854775807<s.length+32:=by omega
    have n2 : ¬ 9223372036854775807<s.length+32+PN.length:=by omega
    have n1' : ¬ 9223372036854775807<s.length+o.tree.length:=by omega
    have n2' : ¬ 9223372036854775807<s.length+o.tree.length+PN.length:=by omega
    go_wp2
    clear c0 f0
    refine zAg (C:=EncC w g o (.slice A1 o.ents.length k1) (.slice A2 o.pars.length k2)) (by kernel_rfl) (by kernel_rfl) hE.drew ?_
    repeat
     first
      | ((with_reducible refine zAs ?_ ?_)
         ·(go_simp;done)
         apply Exists.intro
         refine ⟨fun W hW=>?_,?_⟩
         ·first
           | exact zAA _ _ rfl g 3 rfl (u8s o.tree).toList _ hW.obj.tree Tryz.underlying28 rfl hidt rfl
           | (have f2:=hW.obj.pars
              go_simp
              first
               | rfl
               | (go_at_call 120;with_reducible exact keepEnc (hbt _).out hW)
               | (go_at_call 44;with_reducible exact keepEnc (hpn _).out hW))
         simp only [Act.put,zA,zB,zC])
      | ((with_reducible refine zAk ?_ ?_)
         ·(first | rfl | (go_simp;done))
         simp only [Act.put,zA,zB,zC])
    with_reducible refine wpQuiet_nil ?_
    intro w5 hW5
    generalize hS2:s++o.tree++PN=S2 at *
    have hS2l:S2.length≤359000:=by rw [←hS2];simp only [List.length_append];omega
    replace hS2:=Lib.hid hS2
    clear hE n1 n2 n1' n2' hpn hbt hidt ht32
    have hE:=hW5
    go_wp2
    go_loopw [3,5] (fun vs vi wr => ∃ (k:Nat) (q:Txt),vs = .string (B q)∧vi = .int .i64 k∧k≤o.pars.length∧Hid (q=S2++(o.pars.take k).flatten)∧EncC w g o (.slice A1 o.ents.length k1) (.slice A2 o.pars.length k2) wr) (fun _ vi _=>o.pars.length-(intOf vi).toNat)
    case atStart=>exact ⟨0,S2,by first | rfl | (rw [←hS2.out,List.append_assoc]),rfl,by omega,Lib.hid (by simp),hE⟩
    case round=>
     obtain ⟨k,q,rfl,rfl,hk,hq,hE2⟩:=hrel
     have f0:=hE2.obj.pars
     have hql:q.length≤359640:=by
      rw [hq.out,List.length_append]
      have:=hboundP.out k
      omega
     by_cases hlt:k<o.pars.length
     ·have hki:(k:Int)<(o.pars.length:Int):=by omega
      obtain ⟨A,cap,he,_,_,hat⟩:=hE2.val.pars
      injection he with he _ hcp
      subst he
      subst hcp
      obtain ⟨gs,os,rfl,hgs,hcell⟩:=hat (by omega)
      obtain ⟨x,hx⟩ : ∃ x,o.pars[k]?=some x:=⟨_,List.getElem?_eq_getElem hlt⟩
      have hx32:x.length=32:=hoP.out x (List.mem_of_getElem? hx)
      have hx0:wr.rangeAt gs (os+k*32) (u8s x).toList:=hcell k x hx
      have hst:=Lib.hid (flat_take hx)
      have hbytes:=fun W=>Lib.hid (zCi x hx32 W)
      have n1 : ¬ 9223372036854775807<q.length+32:=by omega
      have n1' : ¬ 9223372036854775807<q.length+x.length:=by omega
      clear hx hat hcell hW5 hE
      go_wp2_with (first
       | ((with_reducible refine lit_load_id (.tmp 65) gs (os+k*32) x hx32 hx0 ?_ ?_);rfl)
       | ((with_reducible refine (hbytes _).out.mono ?_);rintro e w6 ⟨rfl,hb6⟩))
      have hE3:=hE2.below hb6
      have hst2:Hid (q++x=S2++(o.pars.take (k+1)).flatten):=by
       show _=_
       rw [hst.out,hq.out]
       simp
      clear n1 n1' hst hq
      go_roundw
      case rel=>
       (repeat apply Exists.intro)
       exact ⟨⟨k+1,_,rfl,by go_num,by omega,hst2,hE3⟩,rfl⟩
      case measure=>simp [intOf];omega
     ·have hki : ¬ (k:Int)<(o.pars.length:Int):=by omega
      have hqe:Hid (q=S2++o.pars.flatten):=by show q=_;rw [hq.out,List.take_of_length_le (by omega)]
      have n1 : ¬ 9223372036854775807<q.length+PT.length:=by omega
      have n2 : ¬ 9223372036854775807<q.length+PT.length+TX.length:=by omega
      have hfin:Hid (r=q++PT++TX):=by
       show r=_
       rw [hrr.out,hqe.out,←hS2.out]
      have c0:=hE2.obj.kind
      rw [h3'] at c0
      clear hq hqe hrr hlt hk hboundP hW5 hE
      go_wp2
      clear f0
      refine zAg (C:=EncC w g o (.slice A1 o.ents.length k1) (.slice A2 o.pars.length k2)) (by kernel_rfl) (by kernel_rfl) hE2.drew ?_
      repeat
       first
        | ((with_reducible refine zAs ?_ ?_)
           ·(go_simp;done)
           apply Exists.intro
           refine ⟨fun W hW=>?_,?_⟩
           ·first
             | (have f2:=hW.obj.time
                have f3:=hW.obj.text
                go_simp
                first
                 | rfl
                 | (go_at_call 45;with_reducible exact keepEnc (htx _).out hW)
                 | (go_at_call 44;with_reducible exact keepEnc (hpt _).out hW))
           simp only [Act.put,zA,zB,zC])
        | ((with_reducible refine zAk ?_ ?_)
           ·(first | rfl | (go_simp;done))
           simp only [Act.put,zA,zB,zC])
      with_reducible refine wpQuiet_nil ?_
      intro w5 hW5
      have c0:=hW5.obj.kind
      rw [h3'] at c0
      clear n1 n2
      go_wp2
      go_ret
      exact ⟨by rw [hfin.out];simp,by first | exact hW5.bel | (rw [←hg];exact hW5.bel)⟩
   by_cases h4:o.kind=4
   ·have hrr:Hid (r=s++[byteK o.of_]++o.target++textE o.name):=by
     show r=_
     rw [hr.out,bodyR,if_neg h3,if_pos h4,hse.out]
     simp [tagE]
    rw [h4] at c0
    have hbt:=fun W=>Lib.hid (zCi o.target hta.out W)
    have hone:=fun W=>Lib.hid (one_calls o.of_ W)
    have htx:=fun W=>Lib.hid (zBF o.name (by omega) W)
    have htl:(textE o.name).length≤5010:=by have:=zAn o.name.length;unfold textE;rw [List.length_append];omega
    have ht32:=hta.out
    have hidt:=szl ht32
    clear hr hse h3 h4
    generalize textE o.name=TX at *
    have n1 : ¬ 9223372036854775807<s.length+1:=by omega
    have n2 : ¬ 9223372036854775807<s.length+1+32:=by omega
    have n3 : ¬ 9223372036854775807<s.length+1+32+TX.length:=by omega
    have n2' : ¬ 9223372036854775807<s.length+1+o.target.length:=by omega
    have n3' : ¬ 9223372036854775807<s.length+1+o.target.length+TX.length:=by omega
    have n2a : ¬ 9223372036854775807<s.length+(o.target.length+1):=by omega
    have n3a : ¬ 9223372036854775807<s.length+(32+1)+TX.length:=by omega
    have n3b : ¬ 9223372036854775807<s.length+(o.target.length+1)+TX.length:=by omega
    go_wp2
    clear c0 f0
    refine zAg (C:=EncC w g o (.slice A1 o.ents.length k1) (.slice A2 o.pars.length k2)) (by kernel_rfl) (by kernel_rfl) hE.drew ?_
    repeat
     first
      | ((with_reducible refine zAs ?_ ?_)
         ·(go_simp;done)
         apply Exists.intro
         refine ⟨fun W hW=>?_,?_⟩
         ·first
           | exact zAA _ _ rfl g 38 rfl (u8s o.target).toList _ hW.obj.target Tryz.underlying28 rfl hidt rfl
           | (have f2:=hW.obj.of_
              have f3:=hW.obj.name
              go_simp
              first
               | rfl
               | (go_at_call 120;with_reducible exact keepEnc (hbt _).out hW)
               | (go_at_call 89;with_reducible exact keepEnc (hone _).out hW)
               | (go_at_call 45;with_reducible exact keepEnc (htx _).out hW))
         simp only [Act.put,zA,zB,zC])
      | ((with_reducible refine zAk ?_ ?_)
         ·(first | rfl | (go_simp;done))
         simp only [Act.put,zA,zB,zC])
    with_reducible refine wpQuiet_nil ?_
    intro w5 hW5
    clear n1 n2 n3 n2' n3' n2a n3a n3b
    go_wp2
    go_ret
    exact ⟨by rw [hrr.out];simp,by first | exact hW5.bel | (rw [←hg];exact hW5.bel)⟩
   ·have hrr:Hid (r=s):=by
     show r=_
     rw [hr.out,bodyR,if_neg h3,if_neg h4,hse.out]
     simp
    have e3:(o.kind==3)=false:=by rw [beq_eq_false_iff_ne];exact h3
    have e4:(o.kind==4)=false:=by rw [beq_eq_false_iff_ne];exact h4
    clear hr hse
    go_wp2
    go_ret
    exact ⟨by rw [hrr.out];rfl,by first | exact hE.bel | (rw [←hg];exact hE.bel)⟩
end
section
attribute [local go_sem ↓] ldvI_eq
theorem kind_eq (n:Int):(n<1→kindB n=false)∧(4<n→kindB n=false)∧(¬ n<1 → ¬ 4<n→kindB n=true):=by
 unfold kindB
 refine ⟨fun h=>?_,fun h=>?_,fun h1 h2=>?_⟩
 ·rw [decide_eq_false (p:=1≤n) (by omega)];rfl
 ·rw [decide_eq_false (p:=n≤4) (by omega)];simp
 ·rw [decide_eq_true (p:=1≤n) (by omega),decide_eq_true (p:=n≤4) (by omega)];rfl
set_option maxRecDepth 100000 in
set_option maxHeartbeats 4000000 in
theorem refMay_calls1 (o:ObjL) (hk:o.kind=1) (A1 A2:Option Addr) (k1 k2:Nat) (w:World) (hv:ObjV w (.slice A1 o.ents.length k1) (.slice A2 o.pars.length k2) o):Calls Tryz.prog 88 #[.agg (objC o (.slice A1 o.ents.length k1) (.slice A2 o.pars.length k2)).toArray] w fun e w'=>e = .returned (.bool (mayB o))∧Below w.heap.size w w':=by
 have ho:=hv.ok
 have hO:=boxed (w:=w) (ve := .slice A1 o.ents.length k1) (vp := .slice A2 o.pars.length k2) ho
 have b0:Below w.heap.size w (w.alloc (.cells (objC o (.slice A1 o.ents.length k1) (.slice A2 o.pars.length k2)).toArray 74)):=(Below.refl _ _).alloc (Nat.le_refl _) _
 have hv0:=hv.below b0
 obtain ⟨W0,hW0⟩ : ∃ W0,w.alloc (.cells (objC o (.slice A1 o.ents.length k1) (.slice A2 o.pars.length k2)).toArray 74)=W0:=⟨_,rfl⟩
 rw [hW0] at hO b0 hv0
 have c0:=hO.kind
 have g1:=fun W=>zAi (w:=W) (g:=w.heap.size) (o:=3) (l:=o.tree)
 have g2:=fun W=>zAi (w:=W) (g:=w.heap.size) (o:=38) (l:=o.target)
 have z1:=fun W=>zAK o.tree ho.tree W
 have z2:=fun W=>zAK o.target ho.target W
 have e1:=Lib.hid (zBR o)
 have e2:=Lib.hid (tag_eq o)
 have ht:o.time<4294967296:=ho.time
 obtain ⟨r,hr⟩ : ∃ r,Hid (r=mayB o):=⟨_,Lib.hid rfl⟩
 rw [←hr.out]
 have hr2:=hr.out
 rw [may_one o hk,zBR,tag_eq] at hr2
 replace hr2:=Lib.hid hr2
 rw [hk] at c0
 have htr:=Lib.hid ho.tree
 have hta:=Lib.hid ho.target
 obtain ⟨Ez,hEz⟩ : ∃ Ez,treeN o=Ez:=⟨_,rfl⟩
 have hE1:Hid (0<o.ents.length→Ez=false):=fun h=>by rw [←hEz];unfold treeN;rw [beq_eq_false_iff_ne];omega
 have hE2:Hid (¬ 0<o.ents.length→Ez=true):=fun h=>by rw [←hEz];unfold treeN;rw [beq_iff_eq];omega
 have hr1:=hr2.out
 rw [hEz] at hr1
 replace hr2:=Lib.hid hr1
 clear hEz hr1
 clear hr ho hv e1 e2
 generalize decide (o.tree=List.replicate 32 0)=T at *
 generalize decide (o.target=List.replicate 32 0)=G at *
 obtain ⟨Pz,hPz⟩ : ∃ Pz,decide ((o.pars.length:Int)=0)=Pz:=⟨_,rfl⟩
 have hP1:0<o.pars.length→Pz=false:=fun h=>by rw [←hPz];exact decide_eq_false (by omega)
 have hP2 : ¬ 0<o.pars.length→Pz=true:=fun h=>by rw [←hPz];exact decide_eq_true (by omega)
 replace hP1:=Lib.hid hP1
 replace hP2:=Lib.hid hP2
 have hr3:=hr2.out
 rw [hPz] at hr3
 replace hr2:=Lib.hid hr3
 clear hPz hr3
 generalize hcs:(objC o (.slice A1 o.ents.length k1) (.slice A2 o.pars.length k2)).toArray=cs at *
 clear hcs
 have s0:=b0.size
 go_enter Tryz.func88,Tryz.ntmps88
 go_upto_region 4 with (first
  | ((with_reducible refine zBY (.tmp 3) (.tmp 16) _ ?_ ?_ ?_ ?_);rfl;rfl;rfl
     intro W1 hb1 hbl1
     have hO1:=hO.below hbl1
     have c1:=hO1.data
     have c2:=hO1.ents
     have c35:=hO1.pars
     have c36:=hO1.time
     have c37:=hO1.text
     have c70:=hO1.of_
     have c71:=hO1.name
     have c0':=hO1.kind
     rw [hk] at c0'
     have q1:=g1 W1 hO1.tree htr.out
     have q2:=g2 W1 hO1.target hta.out
     have q3:=zD9 hb1))
 clear c0 hO hb1 htr hta g1 g2 hW0
 have b1:=b0.trans (hbl1.mono s0)
 have sz1:=Nat.le_trans s0 hbl1.size
 clear b0 hbl1 hv0
 go_upto_region 16 with fail
 all_goals try (exfalso;omega)
 all_goals try
  (go_ret
   refine ⟨?_,b1⟩
   rw [hr2.out]
   have hP1:=hP1.out
   have hP2:=hP2.out
   have hE1:=hE1.out
   have hE2:=hE2.out
   clear z1 z2 c1 c2 c35 c36 c37 c70 c71 q1 q2 q3 hO1 c0' hr2
   simp_all
   done)
 have hrT:Hid (r=true):=by
  show r=true
  rw [hr2.out]
  have hP1:=hP1.out
  have hP2:=hP2.out
  have hE1:=hE1.out
  have hE2:=hE2.out
  clear z1 z2 c1 c2 c35 c36 c37 c70 c71 q1 q2 q3 hO1 c0' hr2
  simp_all
 have hn0 : ¬ 0<o.ents.length:=by assumption
 have hni : ¬ (0:Int)<(o.ents.length:Int):=by omega
 clear hr2 z1 z2 c1 c35 c36 c37 c70 c71 q1 q2 q3 c0' ht
 go_cut [5] (fun s5 wx=>s5 = .int .i64 0∧wx=W1)
 case first=>
  go_wp2
  go_meet
  case rel=>exact ⟨rfl,rfl⟩
 obtain ⟨rfl,rfl⟩:=hcut
 go_wp2
 go_loopw [5] (fun vi wr=>vi = .int .i64 0∧wr=wc) (fun _ _=>0)
 case atStart=>exact ⟨rfl,rfl⟩
 case round=>
  obtain ⟨rfl,rfl⟩:=hrel
  go_wp2
  go_ret
  exact ⟨by rw [hrT.out];rfl,b1⟩
set_option maxRecDepth 100000 in
set_option maxHeartbeats 4000000 in
theorem refMay_calls3 (o:ObjL) (hk:o.kind=3) (A1 A2:Option Addr) (k1 k2:Nat) (w:World) (hv:ObjV w (.slice A1 o.ents.length k1) (.slice A2 o.pars.length k2) o):Calls Tryz.prog 88 #[.agg (objC o (.slice A1 o.ents.length k1) (.slice A2 o.pars.length k2)).toArray] w fun e w'=>e = .returned (.bool (mayB o))∧Below w.heap.size w w':=by
 have ho:=hv.ok
 have hO:=boxed (w:=w) (ve := .slice A1 o.ents.length k1) (vp := .slice A2 o.pars.length k2) ho
 have b0:Below w.heap.size w (w.alloc (.cells (objC o (.slice A1 o.ents.length k1) (.slice A2 o.pars.length k2)).toArray 74)):=(Below.refl _ _).alloc (Nat.le_refl _) _
 have hv0:=hv.below b0
 obtain ⟨W0,hW0⟩ : ∃ W0,w.alloc (.cells (objC o (.slice A1 o.ents.length k1) (.slice A2 o.pars.length k2)).toArray 74)=W0:=⟨_,rfl⟩
 rw [hW0] at hO b0 hv0
 have c0:=hO.kind
 have g1:=fun W=>zAi (w:=W) (g:=w.heap.size) (o:=3) (l:=o.tree)
 have g2:=fun W=>zAi (w:=W) (g:=w.heap.size) (o:=38) (l:=o.target)
 have z1:=fun W=>zAK o.tree ho.tree W
 have z2:=fun W=>zAK o.target ho.target W
 have e1:=Lib.hid (zBR o)
 have e2:=Lib.hid (tag_eq o)
 have ht:o.time<4294967296:=ho.time
 obtain ⟨r,hr⟩ : ∃ r,Hid (r=mayB o):=⟨_,Lib.hid rfl⟩
 rw [←hr.out]
 have hr2:=hr.out
 rw [may_three o hk,tag_eq] at hr2
 have hX:blobN o=List.isEmpty o.data:=rfl
 rw [hX] at hr2
 replace hr2:=Lib.hid hr2
 rw [hk] at c0
 have htr:=Lib.hid ho.tree
 have hta:=Lib.hid ho.target
 obtain ⟨Ez,hEz⟩ : ∃ Ez,treeN o=Ez:=⟨_,rfl⟩
 have hE1:Hid (0<o.ents.length→Ez=false):=fun h=>by rw [←hEz];unfold treeN;rw [beq_eq_false_iff_ne];omega
 have hE2:Hid (¬ 0<o.ents.length→Ez=true):=fun h=>by rw [←hEz];unfold treeN;rw [beq_iff_eq];omega
 have hr1:=hr2.out
 rw [hEz] at hr1
 replace hr2:=Lib.hid hr1
 clear hEz hr1
 clear hr ho hX hv e1 e2
 generalize decide (o.tree=List.replicate 32 0)=T at *
 generalize decide (o.target=List.replicate 32 0)=G at *
 obtain ⟨Pz,hPz⟩ : ∃ Pz,decide (o.pars.length≤8)=Pz:=⟨_,rfl⟩
 have hP1:(8:Int)<(o.pars.length:Int)→Pz=false:=fun h=>by rw [←hPz];exact decide_eq_false (by omega)
 have hP2:(o.pars.length:Int)≤8→Pz=true:=fun h=>by rw [←hPz];exact decide_eq_true (by omega)
 replace hP1:=Lib.hid hP1
 replace hP2:=Lib.hid hP2
 have hr3:=hr2.out
 rw [hPz] at hr3
 replace hr2:=Lib.hid hr3
 clear hPz hr3
 generalize hcs:(objC o (.slice A1 o.ents.length k1) (.slice A2 o.pars.length k2)).toArray=cs at *
 clear hcs
 have s0:=b0.size
 go_enter Tryz.func88,Tryz.ntmps88
 go_upto_region 4 with (first
  | ((with_reducible refine zBY (.tmp 3) (.tmp 16) _ ?_ ?_ ?_ ?_);rfl;rfl;rfl
     intro W1 hb1 hbl1
     have hO1:=hO.below hbl1
     have c1:=hO1.data
     have c2:=hO1.ents
     have c35:=hO1.pars
     have c36:=hO1.time
     have c37:=hO1.text
     have c70:=hO1.of_
     have c71:=hO1.name
     have c0':=hO1.kind
     rw [hk] at c0'
     have q1:=g1 W1 hO1.tree htr.out
     have q2:=g2 W1 hO1.target hta.out
     have q3:=zD9 hb1))
 clear c0 hO hb1 htr hta g1 g2 hW0
 have b1:=b0.trans (hbl1.mono s0)
 have sz1:=Nat.le_trans s0 hbl1.size
 clear b0 hbl1 hv0
 go_upto_region 16 with fail
 all_goals try (exfalso;omega)
 all_goals try
  (go_ret
   refine ⟨?_,b1⟩
   rw [hr2.out]
   have hP1:=hP1.out
   have hP2:=hP2.out
   have hE1:=hE1.out
   have hE2:=hE2.out
   clear z1 z2 c1 c2 c35 c36 c37 c70 c71 q1 q2 q3 hO1 c0' hr2
   simp_all
   done)
 have hrT:Hid (r=true):=by
  show r=true
  rw [hr2.out]
  have hP1:=hP1.out
  have hP2:=hP2.out
  have hE1:=hE1.out
  have hE2:=hE2.out
  clear z1 z2 c1 c2 c35 c36 c37 c70 c71 q1 q2 q3 hO1 c0' hr2
  simp_all
 have hn0 : ¬ 0<o.ents.length:=by assumption
 have hni : ¬ (0:Int)<(o.ents.length:Int):=by omega
 clear hr2 z1 z2 c1 c35 c36 c37 c70 c71 q1 q2 q3 c0' ht
 go_cut [5] (fun s5 wx=>s5 = .int .i64 0∧wx=W1)
 case first=>
  go_wp2
  go_meet
  case rel=>exact ⟨rfl,rfl⟩
 obtain ⟨rfl,rfl⟩:=hcut
 go_wp2
 go_loopw [5] (fun vi wr=>vi = .int .i64 0∧wr=wc) (fun _ _=>0)
 case atStart=>exact ⟨rfl,rfl⟩
 case round=>
  obtain ⟨rfl,rfl⟩:=hrel
  go_wp2
  go_ret
  exact ⟨by rw [hrT.out];rfl,b1⟩
set_option maxRecDepth 100000 in
set_option maxHeartbeats 4000000 in
theorem refMay_calls4 (o:ObjL) (hk:o.kind=4) (A1 A2:Option Addr) (k1 k2:Nat) (w:World) (hv:ObjV w (.slice A1 o.ents.length k1) (.slice A2 o.pars.length k2) o):Calls Tryz.prog 88 #[.agg (objC o (.slice A1 o.ents.length k1) (.slice A2 o.pars.length k2)).toArray] w fun e w'=>e = .returned (.bool (mayB o))∧Below w.heap.size w w':=by
 have ho:=hv.ok
 have hO:=boxed (w:=w) (ve := .slice A1 o.ents.length k1) (vp := .slice A2 o.pars.length k2) ho
 have b0:Below w.heap.size w (w.alloc (.cells (objC o (.slice A1 o.ents.length k1) (.slice A2 o.pars.length k2)).toArray 74)):=(Below.refl _ _).alloc (Nat.le_refl _) _
 have hv0:=hv.below b0
 obtain ⟨W0,hW0⟩ : ∃ W0,w.alloc (.cells (objC o (.slice A1 o.ents.length k1) (.slice A2 o.pars.length k2)).toArray 74)=W0:=⟨_,rfl⟩
 rw [hW0] at hO b0 hv0
 have c0:=hO.kind
 have g1:=fun W=>zAi (w:=W) (g:=w.heap.size) (o:=3) (l:=o.tree)
 have g2:=fun W=>zAi (w:=W) (g:=w.heap.size) (o:=38) (l:=o.target)
 have z1:=fun W=>zAK o.tree ho.tree W
 have z2:=fun W=>zAK o.target ho.target W
 have e1:=Lib.hid (zBR o)
 have e2:=Lib.hid (tag_eq o)
 have ht:o.time<4294967296:=ho.time
 obtain ⟨r,hr⟩ : ∃ r,Hid (r=mayB o):=⟨_,Lib.hid rfl⟩
 rw [←hr.out]
 have hr2:=hr.out
 rw [may_four o hk,zBR] at hr2
 have hX:blobN o=List.isEmpty o.data:=rfl
 rw [hX] at hr2
 replace hr2:=Lib.hid hr2
 rw [hk] at c0
 have htr:=Lib.hid ho.tree
 have hta:=Lib.hid ho.target
 obtain ⟨Ez,hEz⟩ : ∃ Ez,treeN o=Ez:=⟨_,rfl⟩
 have hE1:Hid (0<o.ents.length→Ez=false):=fun h=>by rw [←hEz];unfold treeN;rw [beq_eq_false_iff_ne];omega
 have hE2:Hid (¬ 0<o.ents.length→Ez=true):=fun h=>by rw [←hEz];unfold treeN;rw [beq_iff_eq];omega
 have hr1:=hr2.out
 rw [hEz] at hr1
 replace hr2:=Lib.hid hr1
 clear hEz hr1
 clear hr ho hX hv e1 e2
 generalize decide (o.tree=List.replicate 32 0)=T at *
 generalize decide (o.target=List.replicate 32 0)=G at *
 obtain ⟨Pz,hPz⟩ : ∃ Pz,decide ((o.pars.length:Int)=0)=Pz:=⟨_,rfl⟩
 have hP1:0<o.pars.length→Pz=false:=fun h=>by rw [←hPz];exact decide_eq_false (by omega)
 have hP2 : ¬ 0<o.pars.length→Pz=true:=fun h=>by rw [←hPz];exact decide_eq_true (by omega)
 replace hP1:=Lib.hid hP1
 replace hP2:=Lib.hid hP2
 have hr3:=hr2.out
 rw [hPz] at hr3
 replace hr2:=Lib.hid hr3
 clear hPz hr3
 obtain ⟨k1',k2',k3'⟩:=kind_eq o.of_
 have hK1:=Lib.hid k1'
 have hK2:=Lib.hid k2'
 have hK3:=Lib.hid k3'
 have hnm:=fun W=>Lib.hid (zC9 o.name hv0.ok.name W)
 clear k1' k2' k3'
 generalize kindB o.of_=K at *
 generalize nameB o.name=N at *
 generalize hcs:(objC o (.slice A1 o.ents.length k1) (.slice A2 o.pars.length k2)).toArray=cs at *
 clear hcs
 have s0:=b0.size
 go_enter Tryz.func88,Tryz.ntmps88
 go_upto_region 4 with (first
  | ((with_reducible refine zBY (.tmp 3) (.tmp 16) _ ?_ ?_ ?_ ?_);rfl;rfl;rfl
     intro W1 hb1 hbl1
     have hO1:=hO.below hbl1
     have c1:=hO1.data
     have c2:=hO1.ents
     have c35:=hO1.pars
     have c36:=hO1.time
     have c37:=hO1.text
     have c70:=hO1.of_
     have c71:=hO1.name
     have c0':=hO1.kind
     rw [hk] at c0'
     have q1:=g1 W1 hO1.tree htr.out
     have q2:=g2 W1 hO1.target hta.out
     have q3:=zD9 hb1))
 clear c0 hO hb1 htr hta g1 g2 hW0
 have b1:=b0.trans (hbl1.mono s0)
 have sz1:=Nat.le_trans s0 hbl1.size
 clear b0 hbl1 hv0
 go_upto_region 16 with (first
  | ((with_reducible refine (hnm _).out.mono ?_);rintro e w3 ⟨rfl,hw3⟩;rw [hw3];clear hw3))
 all_goals try (exfalso;omega)
 all_goals try
  (go_ret
   refine ⟨?_,b1⟩
   rw [hr2.out]
   have hP1:=hP1.out
   have hP2:=hP2.out
   have hE1:=hE1.out
   have hE2:=hE2.out
   have hK1:=hK1.out
   have hK2:=hK2.out
   have hK3:=hK3.out
   clear z1 z2 c1 c2 c35 c36 c37 c70 c71 q1 q2 q3 hO1 c0' hr2
   simp_all
   done)
 have hrT:Hid (r=true):=by
  show r=true
  rw [hr2.out]
  have hP1:=hP1.out
  have hP2:=hP2.out
  have hE1:=hE1.out
  have hE2:=hE2.out
  have hK1:=hK1.out
  have hK2:=hK2.out
  have hK3:=hK3.out
  clear z1 z2 c1 c2 c35 c36 c37 c70 c71 q1 q2 q3 hO1 c0' hr2
  simp_all
 have hn0 : ¬ 0<o.ents.length:=by assumption
 have hni : ¬ (0:Int)<(o.ents.length:Int):=by omega
 clear hr2 z1 z2 c1 c35 c36 c37 c70 c71 q1 q2 q3 c0' ht
 go_cut [5] (fun s5 wx=>s5 = .int .i64 0∧wx=W1)
 case first=>
  go_wp2
  go_meet
  case rel=>exact ⟨rfl,rfl⟩
 obtain ⟨rfl,rfl⟩:=hcut
 go_wp2
 go_loopw [5] (fun vi wr=>vi = .int .i64 0∧wr=wc) (fun _ _=>0)
 case atStart=>exact ⟨rfl,rfl⟩
 case round=>
  obtain ⟨rfl,rfl⟩:=hrel
  go_wp2
  go_ret
  exact ⟨by rw [hrT.out];rfl,b1⟩
set_option maxRecDepth 100000 in
set_option maxHeartbeats 4000000 in
theorem refMay_calls0 (o:ObjL) (hk:o.kind<1∨4<o.kind) (A1 A2:Option Addr) (k1 k2:Nat) (w:World) (hv:ObjV w (.slice A1 o.ents.length k1) (.slice A2 o.pars.length k2) o):Calls Tryz.prog 88 #[.agg (objC o (.slice A1 o.ents.length k1) (.slice A2 o.pars.length k2)).toArray] w fun e w'=>e = .returned (.bool (mayB o))∧Below w.heap.size w w':=by
 have ho:=hv.ok
 have hO:=boxed (w:=w) (ve := .slice A1 o.ents.length k1) (vp := .slice A2 o.pars.length k2) ho
 have b0:Below w.heap.size w (w.alloc (.cells (objC o (.slice A1 o.ents.length k1) (.slice A2 o.pars.length k2)).toArray 74)):=(Below.refl _ _).alloc (Nat.le_refl _) _
 obtain ⟨W0,hW0⟩ : ∃ W0,w.alloc (.cells (objC o (.slice A1 o.ents.length k1) (.slice A2 o.pars.length k2)).toArray 74)=W0:=⟨_,rfl⟩
 rw [hW0] at hO b0
 have c0:=hO.kind
 obtain ⟨r,hr⟩ : ∃ r,Hid (r=mayB o):=⟨_,Lib.hid rfl⟩
 rw [←hr.out]
 have hf:Hid (r=false):=by show r=false;rw [hr.out];exact may_none o hk
 clear hr hv ho hO
 generalize (objC o (.slice A1 o.ents.length k1) (.slice A2 o.pars.length k2)).toArray=cs at *
 generalize o.kind=n at *
 go_enter Tryz.func88,Tryz.ntmps88
 by_cases h1:n<1
 ·clear hk
  go_wp2
  all_goals try (exfalso;omega)
  go_ret
  exact ⟨by rw [hf.out];rfl,b0⟩
 ·have h4:4<n:=by omega
  clear hk
  go_wp2
  all_goals try (exfalso;omega)
  go_ret
  exact ⟨by rw [hf.out];rfl,b0⟩
theorem refMay_calls (o:ObjL) (A1 A2:Option Addr) (k1 k2:Nat) (w:World) (hv:ObjV w (.slice A1 o.ents.length k1) (.slice A2 o.pars.length k2) o):Calls Tryz.prog 88 #[.agg (objC o (.slice A1 o.ents.length k1) (.slice A2 o.pars.length k2)).toArray] w fun e w'=>e = .returned (.bool (mayB o))∧Below w.heap.size w w':=by
 by_cases h1:o.kind=1
 ·exact refMay_calls1 o h1 A1 A2 k1 k2 w hv
 by_cases h2:o.kind=2
 ·exact refMay_calls2 o h2 A1 A2 k1 k2 w hv
 by_cases h3:o.kind=3
 ·exact refMay_calls3 o h3 A1 A2 k1 k2 w hv
 by_cases h4:o.kind=4
 ·exact refMay_calls4 o h4 A1 A2 k1 k2 w hv
 exact refMay_calls0 o (by omega) A1 A2 k1 k2 w hv
end
section
attribute [local go_sem ↓] ldvO_eq
def encD (o:ObjL):Value:=match encO o with
 | some t => .tuple #[.string (B t), .bool true]
 | none => .tuple #[.string (B []), .bool false]
theorem zDg {o:ObjL} (h:encO o=none):encD o = .tuple #[.string (B []), .bool false]:=by unfold encD;rw [h]
theorem encD_some {o:ObjL} {t:Txt} (h:encO o=some t):encD o = .tuple #[.string (B t), .bool true]:=by unfold encD;rw [h]
set_option maxRecDepth 100000 in
set_option maxHeartbeats 4000000 in
theorem zCp (o:ObjL) (hs:Small o) (A1 A2:Option Addr) (k1 k2:Nat) (w:World) (hv:ObjV w (.slice A1 o.ents.length k1) (.slice A2 o.pars.length k2) o):Calls Tryz.prog 56 #[.agg (objC o (.slice A1 o.ents.length k1) (.slice A2 o.pars.length k2)).toArray] w fun e w'=>e = .returned (encD o)∧Below w.heap.size w w':=by
 have ho:=hv.ok
 have hO:=boxed (w:=w) (ve := .slice A1 o.ents.length k1) (vp := .slice A2 o.pars.length k2) ho
 have b0:Below w.heap.size w (w.alloc (.cells (objC o (.slice A1 o.ents.length k1) (.slice A2 o.pars.length k2)).toArray 74)):=(Below.refl _ _).alloc (Nat.le_refl _) _
 have hv0:=hv.below b0
 obtain ⟨W0,hW0⟩ : ∃ W0,w.alloc (.cells (objC o (.slice A1 o.ents.length k1) (.slice A2 o.pars.length k2)).toArray 74)=W0:=⟨_,rfl⟩
 rw [hW0] at hO b0 hv0
 have hE0:EncC w w.heap.size o (.slice A1 o.ents.length k1) (.slice A2 o.pars.length k2) W0:=⟨hO,hv0,b0⟩
 have hmay:=Lib.hid (refMay_calls o A1 A2 k1 k2 W0 hv0)
 have q0:=hE0.whole
 obtain ⟨r,hr⟩ : ∃ r,Hid (r=encD o):=⟨_,Lib.hid rfl⟩
 rw [←hr.out]
 have hbl:=whole_len hs ho
 have hem:mayB o=false→encO o=none:=fun h=>by unfold encO;rw [h];simp
 have hbody:=fun W (h:EncC w w.heap.size o (.slice A1 o.ents.length k1) (.slice A2 o.pars.length k2) W)=>Lib.hid (refBody_calls o hs A1 A2 k1 k2 W h.val)
 have hone:=fun W=>Lib.hid (one_calls o.kind W)
 have hew:Hid (mayB o=true→encO o=if (byteK o.kind::textE (bodyO o)).length≤4096 then some (byteK o.kind::textE (bodyO o)) else none):=fun h=>by
  unfold encO wholeO
  rw [h];simp
 have hsame := @body_same o
 have htext:=fun W=>Lib.hid (zBF (bodyO o) (by omega) W)
 have htl:(textE (bodyO o)).length≤400010:=by have:=zAn (bodyO o).length;unfold textE;rw [List.length_append];omega
 have hsz:(Tryz.prog.info? 74).map (·.size)=some (objC o (.slice A1 o.ents.length k1) (.slice A2 o.pars.length k2)).length:=by rw [zAC ho];exact szObj
 clear hv ho hs hv0 hO hbl
 cases hM:mayB o with
 | false=>
   rw [hM] at hmay
   have hf:Hid (r=_):=hr.out.trans (zDg (hem hM))
   clear hr hem hew hbody htext hM hsz hsame
   generalize (objC o (.slice A1 o.ents.length k1) (.slice A2 o.pars.length k2)).toArray=cs at *
   go_enter Tryz.func56,Tryz.ntmps56
   go_wp2_with (first
    | ((with_reducible refine hmay.out.mono ?_);rintro e w1 ⟨rfl,hb1⟩))
   go_ret2
   exact ⟨by rw [hf.out];rfl,bthen b0 b0.size hb1⟩
 | true=>
   rw [hM] at hmay
   rw [hsame hM] at hbody
   have hew:=Lib.hid (hew.out hM)
   clear hem hM hsame
   generalize textE (bodyO o)=TX at *
   generalize bodyO o=BD at *
   have n1 : ¬ 9223372036854775807<1+TX.length:=by omega
   have n2 : ¬ 9223372036854775807<TX.length+1:=by omega
   go_enter Tryz.func56,Tryz.ntmps56
   go_upto_region 4 with (first
    | ((with_reducible refine hmay.out.mono ?_);rintro e w1 ⟨rfl,hb1⟩))
   have hE1:=hE0.below hb1
   clear hE0 hmay q0 hb1 b0 hW0
   obtain ⟨g,hg⟩ : ∃ g,w.heap.size=g:=⟨_,rfl⟩
   simp only [hg] at hbody hE1 ⊢
   go_cut [5] (fun s5 wx=>s5 = .string (B (byteK o.kind::TX))∧Below w.heap.size w wx)
   case first=>
    refine zAg (C:=EncC w g o (.slice A1 o.ents.length k1) (.slice A2 o.pars.length k2)) (by kernel_rfl) (by kernel_rfl) hE1.drew ?_
    repeat
     first
      | ((with_reducible refine zAs ?_ ?_)
         ·(go_simp;done)
         apply Exists.intro
         refine ⟨fun W hW=>?_,?_⟩
         ·first
           | exact zAA _ _ rfl g 0 rfl (objC o (.slice A1 o.ents.length k1) (.slice A2 o.pars.length k2)) _ hW.obj.whole Tryz.underlying74 rfl hsz rfl
           | (have f2:=hW.obj.kind
              go_simp
              first
               | rfl
               | (go_at_call 89;with_reducible exact keepEnc (hone _).out hW)
               | (go_at_call 90;with_reducible exact keepEnc (hbody _ hW).out hW)
               | (go_at_call 45;with_reducible exact keepEnc (htext _).out hW))
         simp only [Act.put,zA,zB,zC])
      | ((with_reducible refine zAk ?_ ?_)
         ·(first | rfl | (go_simp;done))
         simp only [Act.put,zA,zB,zC])
    with_reducible refine wpQuiet_nil ?_
    intro w5 hW5
    go_wp2
    go_meet
    case rel=>exact ⟨rfl,hW5.bel⟩
   obtain ⟨rfl,hbx⟩:=hcut
   clear hbody htext hE1 n1 n2 hsz hone
   generalize hn:byteK o.kind::TX=TT at *
   by_cases h4:TT.length≤4096
   ·have i4 : ¬ (4096:Int)<(TT.length:Int):=by omega
    have hf:Hid (r=_):=hr.out.trans (encD_some (t:=TT) (by rw [hew.out,if_pos h4]))
    clear hr hew h4 hn
    go_wp2
    all_goals try (exfalso;omega)
    go_ret2
    exact ⟨by rw [hf.out];rfl,by first | exact hbx | (rw [←hg];exact hbx)⟩
   ·have i4:(4096:Int)<(TT.length:Int):=by omega
    have hf:Hid (r=_):=hr.out.trans (zDg (by rw [hew.out,if_neg h4]))
    clear hr hew h4 hn
    go_wp2
    all_goals try (exfalso;omega)
    go_ret2
    exact ⟨by rw [hf.out];rfl,by first | exact hbx | (rw [←hg];exact hbx)⟩
end
section
attribute [local go_sem ↓] ldvO_eq
theorem gTree_len : ∀ (f:Nat) (t:Txt) (acc:List EntL),(gTree f t acc).length≤acc.length+f
 | 0,t,acc=>by rw [zCs (.inl rfl)];exact Nat.le_refl _
 | f+1,[],acc=>by rw [zCs (.inr rfl)];omega
 | f+1,d::t,acc=>by
   rw [zDJ]
   refine Nat.le_trans (gTree_len f _ _) ?_
   rw [List.length_append]
   simp only [List.length_cons,List.length_nil]
   omega
theorem gPars_len : ∀ (n:Nat) (t:Txt) (acc:List Txt),(gPars n t acc).1.length≤acc.length+n
 | 0,t,acc=>Nat.le_refl _
 | n+1,t,acc=>by
   rw [gPars]
   refine Nat.le_trans (gPars_len n _ _) ?_
   rw [List.length_append]
   simp only [List.length_cons,List.length_nil]
   omega
theorem gTree_names : ∀ (f:Nat) (t:Txt) (acc:List EntL),t.length≤5000→(∀ e∈acc,e.name.length≤5000) → ∀ e∈gTree f t acc,e.name.length≤5000
 | 0,t,acc,_,h=>by rw [zCs (.inl rfl)];exact h
 | f+1,[],acc,_,h=>by rw [zCs (.inr rfl)];exact h
 | f+1,d::t,acc,hl,h=>by
   rw [zDJ]
   simp only [List.length_cons] at hl
   refine gTree_names f _ _ (by simp only [List.length_drop];omega) ?_
   intro e he
   rcases List.mem_append.1 he with he | he
   ·exact h e he
   ·obtain rfl:=List.mem_singleton.1 he
    have:=(zA2 t).2
    show (takeN t).1.length≤_
    omega
theorem gCommit_small (t:Txt) (ht:t.length≤5000):Small (gCommit t):=by
 have h1:=gPars_len (min (getN (t.drop 32)).1 9) ((t.drop 32).drop (getN (t.drop 32)).2) []
 have h2:=gPars_le (min (getN (t.drop 32)).1 9) ((t.drop 32).drop (getN (t.drop 32)).2) []
 rw [List.length_drop,List.length_drop] at h2
 unfold gCommit
 simp only
 generalize gPars (min (getN (t.drop 32)).1 9) ((t.drop 32).drop (getN (t.drop 32)).2) []=p at *
 have h3:=(zA2 (p.2.drop (getN p.2).2)).2
 rw [List.length_drop] at h3
 simp only [List.length_nil] at h1
 exact ⟨by simp,by simp,by show p.1.length≤20;omega,by simp,by show (takeN _).1.length≤5000;omega,by simp⟩
theorem gTag_small (t:Txt) (ht:t.length≤5000):Small (gTag t):=by
 have h3:=(zA2 ((t.drop 1).drop 32)).2
 rw [List.length_drop,List.length_drop] at h3
 unfold gTag
 exact ⟨by simp,by simp,by simp,by simp,by simp,by show (takeN _).1.length≤5000;omega⟩
theorem guess_small (c:UInt8) (q:Txt) (hl:q.length≤5000):Small (guessL c q):=by
 have ht:=(zA2 q).2
 have z:([]:Txt).length≤5000:=by simp
 unfold guessL guessB
 repeat' split
 ·exact zero_smallG
 ·exact ⟨by simp,by simp,by simp,by show (takeN q).1.length≤_;omega,z,z⟩
 ·exact ⟨by have:=gTree_len 65 (takeN q).1 [];simp only [List.length_nil] at this;show (gTree 65 (takeN q).1 []).length≤70;omega,gTree_names 65 _ _ (by omega) (by simp),by simp,z,z,z⟩
 ·exact gCommit_small _ (by omega)
 ·exact gTag_small _ (by omega)
 ·exact ⟨by simp [nObj],by simp [nObj],by simp [nObj],z,z,z⟩
set_option maxRecDepth 100000 in
set_option maxHeartbeats 2000000 in
theorem guess_zero (c:UInt8) (q:Txt) (hl:q.length≤5000) (hn0:(takeN q).2=0) (w:World):Calls Tryz.prog 55 #[.string (B (c::q))] w fun e w'=>GsR zeroO w e w':=by
 have hzv:=zeroObj
 have hzl:zObj.size=72:=zAu
 have htk : ∀ W,Calls Tryz.prog 83 #[.string (B q)] W fun e w'=>e = .returned (.tuple #[.string (B (takeN q).1), .int .i64 (takeN q).2])∧W=w':=fun W=>(zAI q (by omega) W).mono fun _ _ h=>⟨h.1,h.2.symm⟩
 rw [hn0] at htk
 generalize (takeN q).1=t at *
 have hex:(B (c::q)).extract 1 (q.length+1)=B q:=by
  rw [zAR]
  simp
 obtain ⟨W1,hW1⟩ : ∃ W1,w.alloc (.cells zObj 74)=W1:=⟨_,rfl⟩
 have hx1:Blk W1 w.heap.size 74 zObj:=by rw [←hW1];exact Blk.new _ _ _
 have b1:Below w.heap.size w W1:=by rw [←hW1];exact (Below.refl _ _).alloc (Nat.le_refl _) _
 have htk:=Lib.hid htk
 have hc0:0≤(c.toNat:Int):=by omega
 have hc1:(c.toNat:Int)<256:=by have:=c.toNat_lt;omega
 have hbd:=zBp (c.toNat:Int)
 have hrb:=fun W=>run_build (P:=Tryz.prog) W _ _ _ zBL
 have hone:=zCR
 have hsz:=zEr
 have e72:(objC ⟨c.toNat,[],[],noId,[],0,[],noId,0,[]⟩ (.slice none 0 0) (.slice none 0 0)).toArray.size=72:=by rw [List.size_toArray];unfold objC;simp only [List.length_cons,List.length_append,u8s_len,zAc,List.length_nil]
 have eone:(objC ⟨c.toNat,[],[],noId,[],0,[],noId,0,[]⟩ (.slice none 0 0) (.slice none 0 0)).toArray.all (·.oneCell')=true:=by kernel_rfl
 go_enter Tryz.func55,Tryz.ntmps55
 go_wp2_with (first
  | ((with_reducible refine zA6 hbd ?_ ?_);rfl)
  | ((with_reducible refine lit_new 74 (.tmp 3) (.tmp 18) (objC ⟨c.toNat,[],[],noId,[],0,[],noId,0,[]⟩ (.slice none 0 0) (.slice none 0 0)).toArray 72 szObj e72 eone _ ?_ ?_ ?_ ?_)
     ·first | exact hzl | rfl
     ·rfl
     ·rfl
     intro W2 hb2 hbl2
     have hx2:=hx1.below hbl2 hx1.lt
     have b2:=bthen b1 b1.size hbl2
     have tk2:=htk.out W2
     have tk2:=Lib.hid tk2
     clear hx1 b1 hb2 hbl2)
  | ((with_reducible refine tk2.out.mono ?_);rintro e w3 ⟨rfl,rfl⟩)
  | (refine wpList_store_row rfl 74 (.tmp 2) (.tmp 27) rfl w.heap.size zObj rfl rfl _ _ hx2 hsz rfl hone ?_))
 exact bodyPost_ret (results_cell_row rfl _ _ w.heap.size _ _ _ _ rfl (setRow_heap _ _ _ _ _ _ hx2) Tryz.underlying74 rfl hsz) rfl ⟨⟨none,none,0,0,rfl,zero_okG _,World.ownsRow_nil _ _ _ _,World.ownsRow_nil _ _ _ _⟩,zAa b2 (Nat.le_refl _) _⟩
theorem guess_calls (c:UInt8) (q:Txt) (hl:q.length≤5000) (w:World):Calls Tryz.prog 55 #[.string (B (c::q))] w fun e w'=>GsR (guessL c q) w e w':=by
 unfold guessL
 split
 ·exact guess_zero c q hl (by assumption) w
 ·unfold guessB
  split
  ·exact guess_blob c q hl (by assumption) (by assumption) w
  ·split
   ·exact guess_tree c q hl (by assumption) (by assumption) w
   ·split
    ·exact guess_commit c q hl (by assumption) (by assumption) w
    ·split
     ·exact guess_tag c q hl (by assumption) (by assumption) w
     ·exact guess_other c q hl ⟨by assumption,by assumption,by assumption,by assumption⟩ (by assumption) w
def DecG (x:Option ObjL) (B:Nat) (w':World) (e:Ending):Prop:=match x with
 | some o => ∃ A1 A2 k1 k2,e = .returned (.tuple #[.agg (objC o (.slice A1 o.ents.length k1) (.slice A2 o.pars.length k2)).toArray, .bool true])∧ObjV w' (.slice A1 o.ents.length k1) (.slice A2 o.pars.length k2) o∧OwnEnts w' B (.slice A1 o.ents.length k1) o.ents∧OwnIds w' B (.slice A2 o.pars.length k2) o.pars
 | none=>e = .returned (.tuple #[.agg zObj, .bool false])
set_option maxRecDepth 100000 in
set_option maxHeartbeats 4000000 in
theorem zBs (s:Txt) (hs:s.length≤5000) (w:World):Calls Tryz.prog 24 #[.string (B s)] w fun e w'=>DecG (decO s) w.heap.size w' e∧Below w.heap.size w w':=by
 have hzv:=zeroObj
 have hz72:zObj.size=72:=zAu
 obtain ⟨W0,hW0⟩ : ∃ W0,w.alloc (.cells zObj 74)=W0:=⟨_,rfl⟩
 have hz0:Blk W0 w.heap.size 74 zObj:=by rw [←hW0];exact Blk.new _ _ _
 have b0:Below w.heap.size w W0:=by rw [←hW0];exact (Below.refl _ _).alloc (Nat.le_refl _) _
 have hrb:=fun W=>run_build (P:=Tryz.prog) W _ _ _ zBL
 have hone:=zCR
 have hsz:=zEr
 have hz0W:w.heap.size<W0.heap.size:=hz0.lt
 cases s with
 | nil=>
   have hD:DecG (decO []) w.heap.size (W0.setRow w.heap.size zObj) (.returned (.tuple #[.agg zObj, .bool false])):=rfl
   have hD:=Lib.hid hD
   go_enter Tryz.func24,Tryz.ntmps24
   go_wp2_with (first
    | (refine wpList_store_row rfl 74 (.tmp 2) (.tmp 9) rfl w.heap.size zObj rfl rfl _ _ hz0 hsz rfl hone ?_))
   refine bodyPost_ret (zAe rfl _ _ w.heap.size _ _ _ _ rfl (setRow_heap _ _ _ _ _ _ hz0) Tryz.underlying74 rfl hsz) rfl ⟨?_,zAa b0 (Nat.le_refl _) _⟩
   exact hD.out
 | cons c q=>
   simp only [List.length_cons] at hs
   have hg:=Lib.hid (guess_calls c q (by omega) W0)
   have hsm:=guess_small c q (by omega)
   have hds:=Lib.hid (dec_same c q)
   generalize guessL c q=o at *
   have hcm:Hid (∀ W,(if encO o=some (c::q) then some o else none)=(none:Option ObjL)→DecG (decO (c::q)) w.heap.size W (.returned (.tuple #[.agg zObj, .bool false]))):=fun W h=>by rw [hds.out,h];rfl
   obtain ⟨tt,bb,hval,htold⟩ : ∃ tt bb,encD o = .tuple #[.string (B tt), .bool bb]∧Hid ((bb=true∧encO o=some tt)∨(bb=false∧encO o=none)):=by
    cases hq:encO o with
    | none=>exact ⟨[],false,zDg hq, .inr ⟨rfl,rfl⟩⟩
    | some t=>exact ⟨t,true,encD_some hq, .inl ⟨rfl,rfl⟩⟩
   go_enter Tryz.func24,Tryz.ntmps24
   go_upto_region 4 with (first
    | ((with_reducible refine hg.out.mono ?_);rintro e w1 ⟨⟨A1,A2,k1,k2,rfl,hv1,he1,hp1⟩,hb1⟩
       have hz1:=hz0.below hb1 hz0.lt
       have b1:=bthen b0 b0.size hb1
       have hc72:(objC o (.slice A1 o.ents.length k1) (.slice A2 o.pars.length k2)).toArray.size=72:=by rw [List.size_toArray,zAC hv1.ok]
       have hcone:=zAz o A1 A2 o.ents.length k1 o.pars.length k2
       clear hg hz0 b0)
    | ((with_reducible refine lit_new 74 (.tmp 4) (.tmp 11) (objC o (.slice A1 o.ents.length k1) (.slice A2 o.pars.length k2)).toArray 72 szObj hc72 hcone _ ?_ ?_ ?_ ?_)
       ·first | exact hz72 | rfl
       ·rfl
       ·rfl
       intro W2 hb2 hbl2
       have hz2:=hz1.below hbl2 hz1.lt
       have b2:=bthen b1 b1.size hbl2
       have hv2:=hv1.below hbl2
       have he2:=zAf he1 hbl2
       have hp2:=zAf hp1 hbl2
       have hO2:ObjB W2 w1.heap.size o (.slice A1 o.ents.length k1) (.slice A2 o.pars.length k2):=⟨hb2,hv1.ok.tree,hv1.ok.target⟩
       have hq2:=zAU hO2 hv1.ok
       have hre:=zCp o hsm A1 A2 k1 k2 W2 hv2
       rw [hval] at hre
       have hre:=Lib.hid hre))
   have hok:=hv1.ok
   have hlt1:w.heap.size<w1.heap.size:=hz1.lt
   have hwW:w.heap.size<W0.heap.size:=hz0W
   clear hW0 hv1 hz1 b1 hsm hval hb2
   have hfin:Hid (∀ W,ObjV W (.slice A1 o.ents.length k1) (.slice A2 o.pars.length k2) o→OwnEnts W w.heap.size (.slice A1 o.ents.length k1) o.ents→OwnIds W w.heap.size (.slice A2 o.pars.length k2) o.pars→encO o=some (c::q)→DecG (decO (c::q)) w.heap.size W (.returned (.tuple #[.agg (objC o (.slice A1 o.ents.length k1) (.slice A2 o.pars.length k2)).toArray, .bool true]))):=fun W h1 h3 h4 h2=>by
    rw [hds.out,if_pos h2]
    exact ⟨A1,A2,k1,k2,rfl,h1,h3,h4⟩
   have hqq : ∀ W,ObjB W w1.heap.size o (.slice A1 o.ents.length k1) (.slice A2 o.pars.length k2)→(ldvO ⟨w1.heap.size,0,none⟩).run Tryz.prog W = .ok (.agg (objC o (.slice A1 o.ents.length k1) (.slice A2 o.pars.length k2)).toArray) W:=fun W h=>zAU h hok
   generalize hcs:(objC o (.slice A1 o.ents.length k1) (.slice A2 o.pars.length k2)).toArray=cs at *
   clear hcs
   generalize w1.heap.size=g1 at *
   rcases htold.out with ⟨rfl,henc⟩ | ⟨rfl,henc⟩
   ·by_cases hne:tt=c::q
    ·have hDn:=Lib.hid (fun W h h3 h4=>hfin.out W h h3 h4 (by rw [henc,hne]))
     subst hne
     clear htold henc hds hcm hfin
     go_wp2_with (first
      | ((with_reducible refine hre.out.mono ?_);rintro e w3 ⟨rfl,hb3⟩
         have hz3:=hz2.below hb3 hz2.lt
         have b3:=bthen b2 b2.size hb3
         have hO3:=hO2.below hb3
         have he3:=zAf he2 hb3
         have hp3:=zAf hp2 hb3
         have hq3:=hqq w3 hO3
         clear hre hq2)
      | (refine wpList_store_row rfl 74 (.tmp 2) (.tmp 25) rfl w.heap.size cs rfl rfl _ _ hz3 (by rw [hc72];exact szObj) (by rw [hc72];rfl) hcone ?_))
     refine bodyPost_ret (zAe rfl _ _ w.heap.size _ _ _ _ rfl (setRow_heap _ _ _ _ _ _ hz3) Tryz.underlying74 rfl (by rw [hc72];exact szObj)) rfl ⟨?_,zAa b3 (Nat.le_refl _) _⟩
     exact hDn.out _ (zCC hok he3 hp3 hwW cs) (zAE (own_row he3 hwW cs) (Nat.le_of_lt hwW)) (zAE (own_row hp3 hwW cs) (Nat.le_of_lt hwW))
    ·have hDn:=Lib.hid (fun W=>hcm.out W (by rw [if_neg (by rw [henc];intro h;injection h with h;exact hne h)]))
     have hbq:(tt==c::q)=false:=by simpa using hne
     clear htold henc hds hcm hfin hO2 hv2 hne
     go_wp2_with (first
      | ((with_reducible refine hre.out.mono ?_);rintro e w3 ⟨rfl,hb3⟩
         have hz3:=hz2.below hb3 hz2.lt
         have b3:=bthen b2 b2.size hb3
         clear hre hq2)
      | (refine wpList_store_row rfl 74 (.tmp 2) (.tmp 24) rfl w.heap.size zObj rfl rfl _ _ hz3 hsz rfl hone ?_))
     refine bodyPost_ret (zAe rfl _ _ w.heap.size _ _ _ _ rfl (setRow_heap _ _ _ _ _ _ hz3) Tryz.underlying74 rfl hsz) rfl ⟨?_,zAa b3 (Nat.le_refl _) _⟩
     exact hDn.out _
   ·have hDn:=Lib.hid (fun W=>hcm.out W (by rw [if_neg (by rw [henc];intro h;cases h)]))
    clear htold henc hds hcm hfin hO2 hv2
    go_wp2_with (first
     | ((with_reducible refine hre.out.mono ?_);rintro e w3 ⟨rfl,hb3⟩
        have hz3:=hz2.below hb3 hz2.lt
        have b3:=bthen b2 b2.size hb3
        clear hre hq2)
     | (refine wpList_store_row rfl 74 (.tmp 2) (.tmp 24) rfl w.heap.size zObj rfl rfl _ _ hz3 hsz rfl hone ?_))
    refine bodyPost_ret (zAe rfl _ _ w.heap.size _ _ _ _ rfl (setRow_heap _ _ _ _ _ _ hz3) Tryz.underlying74 rfl hsz) rfl ⟨?_,zAa b3 (Nat.le_refl _) _⟩
    exact hDn.out _
end
section
abbrev itsP (l:List Pl):List PItL:=l.map (·.1)
set_option maxRecDepth 100000 in
set_option maxHeartbeats 2000000 in
theorem chain16_calls {l:List Pl} {a:List Ahd} (h:Trk (itsP l) a) (va:Value) (w:World) (hva:Rits w va l) (hl:l.length≤1000000) (i:Nat) (t:Ahd) (hi:a[i]?=some t) (ht:t.2≤1000) :
 Calls Tryz.prog 75 #[va, .int .i64 i] w fun e w'=>e = .returned (.int .i64 t.2)∧w'=w:=by
 have hle:=h.le
 have hle:a.length≤l.length:=by have:=h.le;rwa [List.length_map] at this
 have heach:=h.each
 have hll:0<l.length:=by have:=(List.getElem?_eq_some_iff.1 hi).1;omega
 obtain ⟨A,capa,rfl,ha1,ha2,hata⟩:=hva
 obtain ⟨ga,oa,rfl,hga,hca⟩:=hata hll
 clear h hata
 go_enter Tryz.func75,Tryz.ntmps75
 go_wp2_with (fail)
 go_loopw [1,5] (fun v1 v5 wr => ∃ (j n:Nat) (u:Ahd),v1 = .int .i64 j∧v5 = .int .i64 n∧a[j]?=some u∧n+u.2=t.2∧wr=w) (fun v1 _ _=>(intOf v1).toNat)
 case atStart=>exact ⟨i,0,t,rfl,rfl,hi,by omega,rfl⟩
 case round=>
  obtain ⟨j,n,u,rfl,rfl,hj,hn,rfl⟩:=hrel
  obtain ⟨x,hx,hcase⟩:=heach j u hj
  have hjl:j<l.length:=by have:=(List.getElem?_eq_some_iff.1 hj).1;omega
  have hji:(j:Int)<(l.length:Int):=by omega
  obtain ⟨p,hp⟩ : ∃ p,l[j]?=some p:=⟨_,List.getElem?_eq_getElem hjl⟩
  have hpx:p.1=x:=by rw [List.getElem?_map,hp] at hx;simpa using hx
  have c0:=rit_kind (hca j p hp)
  have c1:=rit_back (hca j p hp)
  rw [hpx] at c0 c1
  clear hp hpx hx hca heach hi
  rcases hcase with ⟨k1,k2,k3,v,hv,k4⟩ | ⟨k1,k4⟩ | ⟨k1,k4⟩
  ·have q1:(x.kind==1)=true:=by simp [k1]
   have hw:IntKind.i64.wrap ((j:Int)-x.back)=((j-x.back.toNat:Nat):Int):=by rw [IntWalk.i64_in _ (by omega)];omega
   have hw2:IntKind.i64.wrap ((n:Int)+1)=((n+1:Nat):Int):=by rw [IntWalk.i64_in _ (by omega)];omega
   clear hj
   go_wp2_with (fail)
   all_goals try (exfalso;omega)
   go_roundw
   case rel=>exact ⟨j-x.back.toNat,n+1,v,by go_num,by go_num,hv,by omega,by first | rfl | trivial⟩
   case measure=>simp [intOf];omega
  ·have q1:(x.kind==1)=false:=by simp [k1]
   have q2:(x.kind==2)=true:=by simp [k1]
   have hw2:IntKind.i64.wrap ((n:Int)+1)=(t.2:Int):=by rw [IntWalk.i64_in _ (by omega)];omega
   clear hj
   go_wp2_with (fail)
   all_goals try (exfalso;omega)
   go_ret
   exact ⟨rfl,rfl⟩
  ·have q1:(x.kind==1)=false:=by simp [k1]
   have q2:(x.kind==2)=false:=by simp [k1]
   obtain rfl:n=t.2:=by omega
   clear hj
   go_wp2_with (fail)
   all_goals try (exfalso;omega)
   go_ret
   exact ⟨rfl,rfl⟩
theorem zD6 (s:Txt) (hs:s.length≤5000) (w:World):Calls Tryz.prog 24 #[.string (B s)] w fun e w'=>(∃ cs:Array Value,e = .returned (.tuple #[.agg cs, .bool (decO s).isSome])∧cs.size=72∧cs.all (·.oneCell')=true)∧Below w.heap.size w w':=by
 refine (zBs s hs w).mono fun e w' ⟨h,hb⟩=>⟨?_,hb⟩
 unfold DecG at h
 cases hd:decO s with
 | none=>
   rw [hd] at h
   exact ⟨_,h,zAu,zCR⟩
 | some o=>
   rw [hd] at h
   obtain ⟨A1,A2,k1,k2,he,hv,_⟩:=h
   exact ⟨_,he,by rw [List.size_toArray,zAC hv.ok],zAz o A1 A2 o.ents.length k1 o.pars.length k2⟩
def one16V : Ahd ⊕ Nat→Value
 | .inl t => .tuple #[.string (B t.1), .int .i64 0]
 | .inr e => .tuple #[.string (B []), .int .i64 e]
theorem zDz {s:List StL} {a:List Ahd} {x:PItL} (h:x.kind<0∨2<x.kind∨(x.kind=1∧(x.back<1∨(a.length:Int)<x.back))):oneR s a x = .inr 2:=zEm (by omega) (baseR_bad (by omega) (by omega))
attribute [local go_sem ↓] ldvI_eq ldvS_eq zDs
set_option maxRecDepth 100000 in
set_option maxHeartbeats 8000000 in
theorem one16_calls {w:World} {vm:Value} {es:List DiL} (hD:DocSt w vm es) (l:List Pl) (hl:l.length≤1000000) (va vt:Value) (hva:Rits w va l) (a:List Ahd) (hvt:Txs w vt (a.map (·.1))) (hT:Trk (itsP l) a) (haok:AhdOk a) (p:Pl) (hp:l[a.length]?=some p) (hx:p.1.base.length=32) (hdl:p.1.data.length≤5000) :
 Calls Tryz.prog 40 #[va, .int .i64 a.length,vt, .agg #[vm]] w fun e w'=>e = .returned (one16V (oneR (es.map (·.st)) a p.1))∧Below w.heap.size w w':=by
 obtain ⟨W1,hW1⟩ : ∃ W1,w.alloc (.cells #[vm] 34)=W1:=⟨_,rfl⟩
 have s1:Blk W1 w.heap.size 34 #[vm]:=by rw [←hW1];exact Blk.new _ _ _
 have b1:Below w.heap.size w W1:=by rw [←hW1];exact (Below.refl _ _).alloc (Nat.le_refl _) _
 have hchain:=fun (t:Ahd) (ht2:t.2≤1000) (hT2:Trk (itsP l) (a++[t])) W (hW:Below W1.heap.size W1 W)=>chain16_calls hT2 va W (hva.below (bthen b1 b1.size hW)) hl a.length t (by simp) ht2
 have hxs:(itsP l)[a.length]?=some p.1:=by rw [List.getElem?_map,hp];rfl
 have hat0:=fun W (hW:Below W1.heap.size W1 W)=>zBv (hD.below (bthen b1 b1.size hW)) p.1.base hx
 have lS:=fun W (hW:Below W1.heap.size W1 W)=>zAF (s1.below hW s1.lt)
 have cS:=fun W (hW:Below W1.heap.size W1 W)=>(s1.below hW s1.lt).cell 0
 have hap:=fun (t:Txt) (ht:t.length≤5000) W=>refApply_calls t p.1.data (by omega) (by omega) W
 unfold apV at hap
 have hdec:=fun (t:Txt) (ht:t.length≤5000) W=>zD6 t ht W
 have hSok:=hD.ok
 have heach:=hD.each
 have hfew:=hD.few
 obtain ⟨A,cap,rfl,hcap1,hcap2,hat⟩:=hD.at_
 obtain ⟨S,hS⟩ : ∃ S,es.map (·.st)=S:=⟨_,rfl⟩
 unfold AtR at hat0
 rw [hS] at hSok ⊢
 simp only [hS] at hat0
 obtain ⟨At,ct,rfl,ht1,ht2,htat⟩:=hvt
 rw [List.length_map] at htat ⊢
 obtain ⟨Aa,capa,rfl,ha1,ha2,hata⟩:=hva
 have hal:a.length<l.length:=(List.getElem?_eq_some_iff.1 hp).1
 have hali:(a.length:Int)<(l.length:Int):=by omega
 obtain ⟨ga,oa,rfl,hga,hca⟩:=hata (by omega)
 have hpr:=hca a.length p hp
 have dx:=run_ldvR15 (zAb hpr hga b1) hx
 have h37:(ritC p).toArray.size=37:=zBO hx
 have h37z:(ritC zRit).toArray.size=37:=zBO (by kernel_rfl)
 have hone:=ritC_all p
 have f0 : ∀ W g,Blk W g 50 (ritC p).toArray→W.rangeAt g 0 (ritC p):=fun W g hb=>by have:=zAj hb;rwa [List.toList_toArray] at this
 have e0:=fun W g hb=>rit_kind (f0 W g hb)
 have e1:=fun W g hb=>rit_back (f0 W g hb)
 have e2:=fun W g hb=>zCL (rit_base (f0 W g hb)) hx
 have e3:=fun W g hb=>rit_data hx (f0 W g hb)
 obtain ⟨CX,hCX⟩ : ∃ CX,(ritC p).toArray=CX:=⟨_,rfl⟩
 rw [hCX] at dx h37 hone
 simp only [hCX] at e0 e1 e2 e3
 obtain ⟨x,hxe⟩ : ∃ x,p.1=x:=⟨_,rfl⟩
 rw [hxe] at hxs hdl ⊢
 simp only [hxe] at hat0 hap e0 e1 e2 e3
 have hle1:=b1.size
 clear hCX hxe hpr hca hata hp f0 hD s1 hS
 go_enter Tryz.func40,Tryz.ntmps40
 go_upto_region 2 with (first
  | ((with_reducible refine lit_new 50 (.tmp 10) (.tmp 21) CX 37 szRit h37 hone _ ?_ ?_ ?_ ?_)
     ·first | exact h37 | exact h37z | rfl
     ·rfl
     ·rfl
     intro w3 hk3 hb3))
 have bk:=fun W (hW:Below w3.heap.size w3 W)=>hk3.below hW hk3.lt
 have g0:=e0 _ _ hk3
 have g1:=e1 _ _ hk3
 have g2:=e2 _ _ hk3
 have g3:=fun W (hW:Below w3.heap.size w3 W)=>e3 _ _ (bk W hW)
 have g30:=g3 w3 (Below.refl _ _)
 have lS3:=lS w3 hb3
 have b13:=bthen b1 hle1 hb3
 clear e0 e1 e2 e3 dx hW1 hk3 bk h37 h37z hone
 by_cases n0:x.kind<0
 ·have hR:=Lib.hid (zDz (s:=S) (a:=a) (x:=x) (.inl n0))
  go_wp2_with (fail)
  go_ret2
  exact ⟨by rw [hR.out];rfl,b13⟩
 by_cases n2:2<x.kind
 ·have hR:=Lib.hid (zDz (s:=S) (a:=a) (x:=x) (.inr (.inl n2)))
  go_wp2_with (fail)
  go_ret2
  exact ⟨by rw [hR.out];rfl,b13⟩
 by_cases k1:x.kind=1
 ·have q1:(x.kind==1)=true:=by simp [k1]
  by_cases m1:x.back<1
  ·have hR:=Lib.hid (zDz (s:=S) (a:=a) (x:=x) (.inr (.inr ⟨k1, .inl m1⟩)))
   clear k1
   go_wp2_with (fail)
   go_ret2
   exact ⟨by rw [hR.out];rfl,b13⟩
  by_cases m2:(a.length:Int)<x.back
  ·have hR:=Lib.hid (zDz (s:=S) (a:=a) (x:=x) (.inr (.inr ⟨k1, .inr m2⟩)))
   clear k1
   go_wp2_with (fail)
   go_ret2
   exact ⟨by rw [hR.out];rfl,b13⟩
  obtain ⟨gt,ot,rfl,hgt,hct⟩:=htat (by omega)
  have hlt:a.length-x.back.toNat<a.length:=by omega
  obtain ⟨u,hu⟩ : ∃ u,a[a.length-x.back.toNat]?=some u:=⟨_,List.getElem?_eq_getElem hlt⟩
  obtain ⟨hu4,hu8⟩:=haok u (List.mem_of_getElem? hu)
  have hu4:=decO_le hu4
  have hR0:=baseR_ofs (s:=S) (t:=u.1) (n:=u.2) k1 (by omega) (by omega) hu
  have hch:=Lib.hid (hchain ([],u.2+1) (by show u.2+1≤_;omega) (hT.ext hxs (.inl ⟨k1,by omega,by omega,u,hu,rfl⟩)) w3 hb3)
  have hct:=(zAb (hct _ u.1 (by rw [List.getElem?_map,hu];rfl)) hgt b13) 0 _ rfl
  rw [Nat.add_zero,Nat.mul_one] at hct
  have k0:x.kind≠0:=by omega
  obtain ⟨Q,hQ⟩ : ∃ Q,a.length-x.back.toNat=Q:=⟨_,rfl⟩
  rw [hQ] at hct hlt
  have hw0:IntKind.i64.wrap ((a.length:Int)-x.back)=(Q:Int):=by rw [IntWalk.i64_in _ (by omega)];omega
  have hQi:(Q:Int)<(a.length:Int):=by omega
  clear hchain hT hxs hat hat0 heach haok htat hQ hu hlt lS cS lS3
  by_cases h8:8≤u.2
  ·have hR:=Lib.hid (zEm k0 (hR0.trans (if_pos h8)))
   have q8:(8:Int)<((u.2+1:Nat):Int):=by omega
   clear hR0 h8 k1 k0
   go_wp2_with (first
    | ((with_reducible refine hch.out.mono ?_);rintro e w4 ⟨rfl,rfl⟩))
   go_ret2
   exact ⟨by rw [hR.out];rfl,b13⟩
  have q8 : ¬ (8:Int)<((u.2+1:Nat):Int):=by omega
  have q0:0<x.kind:=by omega
  have hR1:=zCq k0 (hR0.trans (if_neg h8))
  have hap1:=hap u.1 (by omega)
  have hapl:=apD_len u.1 x.data
  clear h8 k1 k0 hR0 hap
  obtain ⟨T,hT1⟩ : ∃ T,(apD u.1 x.data).1=T:=⟨_,rfl⟩
  obtain ⟨c,hc1⟩ : ∃ c,(apD u.1 x.data).2=c:=⟨_,rfl⟩
  rw [hT1] at hR1 hapl
  rw [hc1] at hR1
  simp only [hT1,hc1] at hap1
  clear hT1 hc1
  by_cases c0:c=0
  ·subst c0
   rw [if_neg (by simp)] at hR1
   by_cases hdo:(decO T).isSome=true
   ·have hR:=Lib.hid (hR1.trans (if_pos hdo))
    have hde:=hdec T (by omega)
    simp only [hdo] at hde
    have hde:=fun W=>Lib.hid (hde W)
    clear hR1 hdo hdec
    go_wp2_with (first
     | ((with_reducible refine hch.out.mono ?_);rintro e w4 ⟨rfl,rfl⟩)
     | ((with_reducible refine (hap1 _).mono ?_);rintro e w6 ⟨rfl,hb6⟩
        have b6:=bthen b13 b13.size hb6)
     | ((with_reducible refine (hde _).out.mono ?_);rintro e w7 ⟨⟨cs,rfl,hcs,hcall⟩,hb7⟩)
     | ((with_reducible refine lit_new 74 (.tmp 16) (.tmp 96) cs 72 szObj hcs hcall _ ?_ ?_ ?_ ?_)
        ·first | exact hcs | exact zAu | rfl
        ·rfl
        ·rfl
        intro w8 hk8 hb8))
    all_goals try (exfalso;omega)
    go_ret2
    exact ⟨by rw [hR.out];rfl,bthen b6 b6.size (bthen hb7 hb7.size hb8)⟩
   ·have hR:=Lib.hid (hR1.trans (if_neg hdo))
    have hde:=hdec T (by omega)
    simp only [Bool.not_eq_true] at hdo
    simp only [hdo] at hde
    have hde:=fun W=>Lib.hid (hde W)
    clear hR1 hdo hdec
    go_wp2_with (first
     | ((with_reducible refine hch.out.mono ?_);rintro e w4 ⟨rfl,rfl⟩)
     | ((with_reducible refine (hap1 _).mono ?_);rintro e w6 ⟨rfl,hb6⟩
        have b6:=bthen b13 b13.size hb6)
     | ((with_reducible refine (hde _).out.mono ?_);rintro e w7 ⟨⟨cs,rfl,hcs,hcall⟩,hb7⟩)
     | ((with_reducible refine lit_new 74 (.tmp 16) (.tmp 96) cs 72 szObj hcs hcall _ ?_ ?_ ?_ ?_)
        ·first | exact hcs | exact zAu | rfl
        ·rfl
        ·rfl
        intro w8 hk8 hb8))
    all_goals try (exfalso;omega)
    go_ret2
    exact ⟨by rw [hR.out];rfl,bthen b6 b6.size (bthen hb7 hb7.size hb8)⟩
  ·have hR:=Lib.hid (hR1.trans (if_pos c0))
   have hne:((c:Int) != 0)=true:=by simp;omega
   clear hR1 c0 hdec
   go_wp2_with (first
    | ((with_reducible refine hch.out.mono ?_);rintro e w4 ⟨rfl,rfl⟩)
    | ((with_reducible refine (hap1 _).mono ?_);rintro e w6 ⟨rfl,hb6⟩
       have b6:=bthen b13 b13.size hb6))
   all_goals try (exfalso;omega)
   go_ret2
   exact ⟨by rw [hR.out];rfl,b6⟩
 have q1:(x.kind==1)=false:=by simp [k1]
 by_cases k2:x.kind=2
 ·have q2:0<x.kind:=by omega
  clear hchain hT hxs htat haok
  cases hg:getS S x.base with
  | none=>
    have hR:=Lib.hid (zEm (by omega) ((zDB (s:=S) (a:=a) k2).trans (by rw [hg])))
    have hat1:=Lib.hid (show Calls Tryz.prog 34 #[.agg #[.slice A es.length cap], .agg (u8s x.base)] w3 fun e w'=>e = .returned (.int .i64 (-1))∧Below w3.heap.size w3 w' from (hat0 w3 hb3).mono fun e w' ⟨h,hb⟩=>⟨(by
     rcases h with ⟨k,y,_,_,h3⟩ | ⟨h1,_⟩
     ·rw [hg] at h3;cases h3
     ·exact h1),hb⟩)
    have hm1:(-1:Int)<0:=by omega
    clear hat0 hg k1 k2 hat heach
    go_wp2_with (first
     | ((with_reducible refine hat1.out.mono ?_);rintro e w4 ⟨rfl,hb4⟩
        have b4:=bthen b13 b13.size hb4))
    all_goals try (exfalso;omega)
    go_ret2
    exact ⟨by rw [hR.out];rfl,b4⟩
  | some en=>
    have hR1:=zCq (by omega) ((zDB (s:=S) (a:=a) k2).trans (by rw [hg]))
    have hat1:=Lib.hid (show Calls Tryz.prog 34 #[.agg #[.slice A es.length cap], .agg (u8s x.base)] w3 fun e w'=>(∃ (k:Nat) (y:DiL),e = .returned (.int .i64 k)∧es[k]?=some y∧y.st=en)∧Below w3.heap.size w3 w' from (hat0 w3 hb3).mono fun e w' ⟨h,hb⟩=>⟨(by
     rcases h with ⟨k,y,h1,h2,h3⟩ | ⟨_,h3⟩
     ·rw [hg] at h3;exact ⟨k,y,h1,h2,(Option.some.inj h3).symm⟩
     ·rw [hg] at h3;cases h3),hb⟩)
    have hen:en.text.length≤4096:=by
     obtain ⟨o,ho⟩:=(hSok.each en (List.mem_of_find?_eq_some hg)).2
     exact (zB1 ho).2
    have hap1:=hap en.text (by omega)
    have hapl:=apD_len en.text x.data
    clear hat0 hg k1 k2 hap
    obtain ⟨T,hT1⟩ : ∃ T,(apD en.text x.data).1=T:=⟨_,rfl⟩
    obtain ⟨c,hc1⟩ : ∃ c,(apD en.text x.data).2=c:=⟨_,rfl⟩
    rw [hT1] at hR1 hapl
    rw [hc1] at hR1
    simp only [hT1,hc1] at hap1
    clear hT1 hc1
    by_cases c0:c=0
    ·subst c0
     rw [if_neg (by simp)] at hR1
     by_cases hdo:(decO T).isSome=true
     ·have hR:=Lib.hid (hR1.trans (if_pos hdo))
      have hde:=hdec T (by omega)
      simp only [hdo] at hde
      have hde:=fun W=>Lib.hid (hde W)
      clear hR1 hdo hdec
      go_wp2_with (first
       | ((with_reducible refine hat1.out.mono ?_);rintro e w4 ⟨⟨k,y,rfl,hy,hye⟩,hb4⟩
          have b4:=bthen b13 b13.size hb4
          have hkl:=(List.getElem?_eq_some_iff.1 hy).1
          have hk0:(0:Int)≤(k:Int):=by omega
          have hki:(k:Int)<(es.length:Int):=by omega
          obtain ⟨gd,od,rfl,hgd,hcd⟩:=hat (by omega)
          have htx:=zCm (zAb (hcd k y hy) hgd b4) (heach y (List.mem_of_getElem? hy)).id
          rw [hye] at htx
          have c4:=cS w4 (bthen hb3 hb3.size hb4)
          have g34:=g3 w4 hb4
          clear hcd hy hye)
       | ((with_reducible refine (hap1 _).mono ?_);rintro e w6 ⟨rfl,hb6⟩
          have b6:=bthen b4 b4.size hb6)
       | ((with_reducible refine (hde _).out.mono ?_);rintro e w7 ⟨⟨cs,rfl,hcs,hcall⟩,hb7⟩)
       | ((with_reducible refine lit_new 74 (.tmp 16) (.tmp 96) cs 72 szObj hcs hcall _ ?_ ?_ ?_ ?_)
          ·first | exact hcs | exact zAu | rfl
          ·rfl
          ·rfl
          intro w8 hk8 hb8))
      all_goals try (exfalso;omega)
      go_ret2
      exact ⟨by rw [hR.out];rfl,bthen b6 b6.size (bthen hb7 hb7.size hb8)⟩
     ·have hR:=Lib.hid (hR1.trans (if_neg hdo))
      have hde:=hdec T (by omega)
      simp only [Bool.not_eq_true] at hdo
      simp only [hdo] at hde
      have hde:=fun W=>Lib.hid (hde W)
      clear hR1 hdo hdec
      go_wp2_with (first
       | ((with_reducible refine hat1.out.mono ?_);rintro e w4 ⟨⟨k,y,rfl,hy,hye⟩,hb4⟩
          have b4:=bthen b13 b13.size hb4
          have hkl:=(List.getElem?_eq_some_iff.1 hy).1
          have hk0:(0:Int)≤(k:Int):=by omega
          have hki:(k:Int)<(es.length:Int):=by omega
          obtain ⟨gd,od,rfl,hgd,hcd⟩:=hat (by omega)
          have htx:=zCm (zAb (hcd k y hy) hgd b4) (heach y (List.mem_of_getElem? hy)).id
          rw [hye] at htx
          have c4:=cS w4 (bthen hb3 hb3.size hb4)
          have g34:=g3 w4 hb4
          clear hcd hy hye)
       | ((with_reducible refine (hap1 _).mono ?_);rintro e w6 ⟨rfl,hb6⟩
          have b6:=bthen b4 b4.size hb6)
       | ((with_reducible refine (hde _).out.mono ?_);rintro e w7 ⟨⟨cs,rfl,hcs,hcall⟩,hb7⟩)
       | ((with_reducible refine lit_new 74 (.tmp 16) (.tmp 96) cs 72 szObj hcs hcall _ ?_ ?_ ?_ ?_)
          ·first | exact hcs | exact zAu | rfl
          ·rfl
          ·rfl
          intro w8 hk8 hb8))
      all_goals try (exfalso;omega)
      go_ret2
      exact ⟨by rw [hR.out];rfl,bthen b6 b6.size (bthen hb7 hb7.size hb8)⟩
    ·have hR:=Lib.hid (hR1.trans (if_pos c0))
     have hne:((c:Int) != 0)=true:=by simp;omega
     clear hR1 c0 hdec
     go_wp2_with (first
      | ((with_reducible refine hat1.out.mono ?_);rintro e w4 ⟨⟨k,y,rfl,hy,hye⟩,hb4⟩
         have b4:=bthen b13 b13.size hb4
         have hkl:=(List.getElem?_eq_some_iff.1 hy).1
         have hk0:(0:Int)≤(k:Int):=by omega
         have hki:(k:Int)<(es.length:Int):=by omega
         obtain ⟨gd,od,rfl,hgd,hcd⟩:=hat (by omega)
         have htx:=zCm (zAb (hcd k y hy) hgd b4) (heach y (List.mem_of_getElem? hy)).id
         rw [hye] at htx
         have c4:=cS w4 (bthen hb3 hb3.size hb4)
         have g34:=g3 w4 hb4
         clear hcd hy hye)
      | ((with_reducible refine (hap1 _).mono ?_);rintro e w6 ⟨rfl,hb6⟩
         have b6:=bthen b4 b4.size hb6))
     all_goals try (exfalso;omega)
     go_ret2
     exact ⟨by rw [hR.out];rfl,b6⟩
 ·have k0:x.kind=0:=by omega
  have hR1:=oneR_full (s:=S) (a:=a) k0
  have q0 : ¬ 0<x.kind:=by omega
  clear hchain hT hxs hat hat0 heach haok htat lS cS lS3 k0 hap k1 k2
  by_cases hdo:(decO x.data).isSome=true
  ·have hR:=Lib.hid (hR1.trans (if_pos hdo))
   have hde:=hdec x.data hdl
   simp only [hdo] at hde
   have hde:=fun W=>Lib.hid (hde W)
   clear hR1 hdo hdec
   go_wp2_with (first
    | ((with_reducible refine (hde _).out.mono ?_);rintro e w7 ⟨⟨cs,rfl,hcs,hcall⟩,hb7⟩)
    | ((with_reducible refine lit_new 74 (.tmp 16) (.tmp 96) cs 72 szObj hcs hcall _ ?_ ?_ ?_ ?_)
       ·first | exact hcs | exact zAu | rfl
       ·rfl
       ·rfl
       intro w8 hk8 hb8))
   all_goals try (exfalso;omega)
   go_ret2
   exact ⟨by rw [hR.out];rfl,bthen b13 b13.size (bthen hb7 hb7.size hb8)⟩
  ·have hR:=Lib.hid (hR1.trans (if_neg hdo))
   have hde:=hdec x.data hdl
   simp only [Bool.not_eq_true] at hdo
   simp only [hdo] at hde
   have hde:=fun W=>Lib.hid (hde W)
   clear hR1 hdo hdec
   go_wp2_with (first
    | ((with_reducible refine (hde _).out.mono ?_);rintro e w7 ⟨⟨cs,rfl,hcs,hcall⟩,hb7⟩)
    | ((with_reducible refine lit_new 74 (.tmp 16) (.tmp 96) cs 72 szObj hcs hcall _ ?_ ?_ ?_ ?_)
       ·first | exact hcs | exact zAu | rfl
       ·rfl
       ·rfl
       intro w8 hk8 hb8))
   all_goals try (exfalso;omega)
   go_ret2
   exact ⟨by rw [hR.out];rfl,bthen b13 b13.size (bthen hb7 hb7.size hb8)⟩
end
section
section
attribute [local go_sem ↓] ldvS_eq
set_option maxRecDepth 100000 in
set_option maxHeartbeats 4000000 in
theorem zCo {w:World} {vm:Value} {es:List DiL} (hD:DocSt w vm es) (l:List Pl) (hok : ∀ p∈l,p.1.base.length=32∧p.1.data.length≤5000) (hl:l.length≤1000000) (va:Value) (hva:Rits w va l) :
 Calls Tryz.prog 12 #[va, .agg #[vm]] w fun e w'=>RslR (resR (es.map (·.st)) (itsP l) []) w.heap.size e w'∧Below w.heap.size w w':=by
 obtain ⟨W1,hW1⟩ : ∃ W1,w.alloc (.cells #[vm] 34)=W1:=⟨_,rfl⟩
 have s1:Blk W1 w.heap.size 34 #[vm]:=by rw [←hW1];exact Blk.new _ _ _
 have b1:Below w.heap.size w W1:=by rw [←hW1];exact (Below.refl _ _).alloc (Nat.le_refl _) _
 have lS:=fun W (hW:Below W1.heap.size W1 W)=>zAF (s1.below hW s1.lt)
 have hone:=fun W (hW:Below W1.heap.size W1 W) vt a ht hT hk p hp h1 h2=>one16_calls (hD.below (bthen b1 b1.size hW)) l hl va vt (hva.below (bthen b1 b1.size hW)) a ht hT hk p hp h1 h2
 have hSok:=hD.ok
 have hle1:=b1.size
 obtain ⟨S,hS⟩ : ∃ S,es.map (·.st)=S:=⟨_,rfl⟩
 rw [hS] at hSok ⊢
 simp only [hS] at hone
 obtain ⟨A,capa,rfl,ha1,ha2,_⟩:=hva
 generalize hgo:resR S (itsP l) []=R
 have hgo:Hid (resR S ((itsP l).drop 0) []=R):=hgo
 clear hD s1 hS
 go_enter Tryz.func12,Tryz.ntmps12
 go_wp2_with (fail)
 go_loopg [6,7] l.length (fun f v6 v7 wr => ∃ (v:Value) (a:List Ahd),v=v6∧v7 = .int .i64 a.length∧a.length+f=l.length∧Hid (resR S ((itsP l).drop a.length) a=R)∧AhdOk a∧Trk (itsP l) a∧OwnTxs wr W1.heap.size v (a.map (·.1))∧Below W1.heap.size W1 wr)
 case atStart=>exact ⟨_,[],rfl,rfl,by simp,hgo,fun t ht=>by simp at ht,Trk.nil _,World.ownsRow_nil _ _ _ _,Below.refl _ _⟩
 case round=>
  obtain ⟨v,a,rfl,rfl,hkf,hun,haok,hT,hown,hbel⟩:=hrel
  clear hgo hW1
  have hbs:=hbel.size
  have hb0:=bthen b1 hle1 hbel
  obtain ⟨Ao,co,hvf⟩:=zAm hown
  rw [List.length_map] at hvf
  subst hvf
  cases gk with
  | zero=>
    have hki : ¬ (a.length:Int)<(l.length:Int):=by omega
    have hR:Hid (R = .inl a):=Lib.hid (by rw [←hun.out,List.drop_of_length_le (by rw [List.length_map];omega)];rfl)
    clear hun hone hkf
    go_wp2_with (fail)
    all_goals try (exfalso;omega)
    go_ret2
    exact ⟨⟨_,by rw [hR.out];rfl,by rw [hR.out];exact zAE hown hle1⟩,hb0⟩
  | succ f=>
    have hki:(a.length:Int)<(l.length:Int):=by omega
    obtain ⟨p,hp⟩ : ∃ p,l[a.length]?=some p:=⟨_,List.getElem?_eq_getElem (by omega)⟩
    obtain ⟨hp1,hp2⟩:=hok p (List.mem_of_getElem? hp)
    have hxs:(itsP l)[a.length]?=some p.1:=by rw [List.getElem?_map,hp];rfl
    have hdr:(itsP l).drop a.length=p.1::(itsP l).drop (a.length+1):=by
     obtain ⟨hlt,he⟩:=List.getElem?_eq_some_iff.1 hxs
     rw [List.drop_eq_getElem_cons hlt,he]
    rw [hdr] at hun
    have hc:=Lib.hid (hone wr hbel _ a (OwnTxs.txs hown) hT haok p hp hp1 hp2)
    have q1:=lS wr hbel
    have hlm:(a.map (·.1)).length=a.length:=List.length_map _
    rcases ho:oneR S a p.1 with t | n
    ·rw [resR_step ho] at hun
     have hc:Hid (Calls Tryz.prog 40 #[.slice A l.length capa, .int .i64 a.length, .slice Ao a.length co, .agg #[vm]] wr fun e w'=>e = .returned (.tuple #[.string (B t.1), .int .i64 0])∧Below wr.heap.size wr w'):=Lib.hid (by have:=hc.out;rw [ho] at this;exact this)
     have hok2:=Lib.hid (haok.snoc (oneR_ok hSok haok ho))
     have hT2:=Lib.hid (hT.snoc hxs ho)
     have hm:Hid ((a++[t]).map (·.1)=a.map (·.1)++[t.1]):=Lib.hid (by rw [List.map_append];rfl)
     have hlen:Hid ((a++[t]).length=a.length+1):=Lib.hid (by rw [List.length_append];rfl)
     have hun2:Hid (resR S ((itsP l).drop (a++[t]).length) (a++[t])=R):=Lib.hid (by rw [hlen.out];exact hun.out)
     obtain ⟨L1,hL1⟩ : ∃ L,a.map (·.1)=L:=⟨_,rfl⟩
     rw [hL1] at hown hm hlm
     have m0:L1.length≤1000000:=by omega
     have m1:L1.length+1≤9223372036854775807:=by omega
     have m2:(L1.length+1)*16≤140737488355328:=by omega
     have hc1:(#[Value.string (B t.1)]:Array Value).size=1*1:=rfl
     have hc2 : ∀ u∈(#[Value.string (B t.1)]:Array Value).toList,u.oneCell'=true:=by intro u hu;rw [show u = .string (B t.1) by simpa using hu];rfl
     clear hone hp hxs hdr ho haok hT hun hL1 hlm
     generalize a++[t]=a2 at *
     go_wp2_with (first
      | ((with_reducible refine hc.out.mono ?_);rintro e w4 ⟨rfl,hb4⟩
         have b4:=hbel.trans (hb4.mono hbs)
         have hle4:=b4.size
         have o4:=zAf hown hb4)
      | (at_builtin
         (with_reducible refine zAl (.tmp 27) (.tmp 29) 1 _ Tryz.txTy o4 #[.string (B t.1)] hc1 hc2 m1 m2 hle4 ?_ ?_ ?_);rfl;rfl
         intro v5 w5 hv5 hb5 hg5 hn5
         have b5:=b4.trans hb5
         clear hg5 hn5))
     all_goals try (exfalso;omega)
     have o5:OwnTxs w5 W1.heap.size v5 (a2.map (·.1)):=by rw [hm.out];exact OwnTxs.more hv5
     go_roundg f
     case rel=>exact ⟨v5,a2,rfl,by rw [hlen.out];go_num,by rw [hlen.out];omega,hun2,hok2.out,hT2.out,o5,b5⟩
     case measure=>omega
    ·rw [resR_err ho] at hun
     have hc:Hid (Calls Tryz.prog 40 #[.slice A l.length capa, .int .i64 a.length, .slice Ao a.length co, .agg #[vm]] wr fun e w'=>e = .returned (.tuple #[.string (B []), .int .i64 n])∧Below wr.heap.size wr w'):=Lib.hid (by have:=hc.out;rw [ho] at this;exact this)
     have hne:((n:Int) != 0)=true:=by have:=oneR_err0 ho;simp;omega
     obtain ⟨L1,hL1⟩ : ∃ L,a.map (·.1)=L:=⟨_,rfl⟩
     rw [hL1] at hown hlm
     clear hone hp hxs hdr ho haok hT hL1 hlm
     go_wp2_with (first
      | ((with_reducible refine hc.out.mono ?_);rintro e w4 ⟨rfl,hb4⟩
         have b4:=bthen b1 hle1 (hbel.trans (hb4.mono hbs))))
     all_goals try (exfalso;omega)
     go_ret2
     exact ⟨⟨_,by rw [←hun.out];rfl,by rw [←hun.out];exact World.ownsRow_nil _ _ _ _⟩,b4⟩
end
theorem drop_same {l m:List Txt} {k:Nat} {x y:Txt} (hx:l[k]?=some x) (hy:m[k]?=some y):decide (l.drop k=m.drop k)=if x=y then decide (l.drop (k+1)=m.drop (k+1)) else false:=by
 obtain ⟨h1,e1⟩:=List.getElem?_eq_some_iff.1 hx
 obtain ⟨h2,e2⟩:=List.getElem?_eq_some_iff.1 hy
 rw [List.drop_eq_getElem_cons h1,List.drop_eq_getElem_cons h2,e1,e2]
 split
 ·rename_i h;subst h;simp
 ·rename_i h;simp [h]
set_option maxRecDepth 100000 in
set_option maxHeartbeats 2000000 in
theorem same16_calls (l m:List Txt) (va vb:Value) (w:World) (hva:Txs w va l) (hvb:Txs w vb m) :
 Calls Tryz.prog 13 #[va,vb] w fun e w'=>e = .returned (.bool (decide (l=m)))∧Below w.heap.size w w':=by
 obtain ⟨A,ca,rfl,ha1,ha2,hata⟩:=hva
 obtain ⟨A2,cb,rfl,hb1,hb2,hatb⟩:=hvb
 by_cases hlen:l.length=m.length
 ·have q0:((l.length:Int) != (m.length:Int))=false:=by simp [hlen]
  have q0':((l.length:Int)==(m.length:Int))=true:=by simp [hlen]
  have hgo:Hid (decide (l.drop 0=m.drop 0)=decide (l=m)):=Lib.hid rfl
  generalize decide (l=m)=R at *
  have hlm:=Lib.hid hlen
  clear hlen
  go_enter Tryz.func13,Tryz.ntmps13
  go_wp2_with (fail)
  go_loopg [5] l.length (fun f v5 wr => ∃ k:Nat,v5 = .int .i64 k∧k+f=l.length∧Hid (decide (l.drop k=m.drop k)=R)∧Below w.heap.size w wr)
  case atStart=>exact ⟨0,rfl,by omega,hgo,Below.refl _ _⟩
  case round=>
   obtain ⟨k,rfl,hkf,hun,hbel⟩:=hrel
   have hlm2:=hlm.out
   cases gk with
   | zero=>
     have hki : ¬ (k:Int)<(l.length:Int):=by omega
     have hR:Hid (R=true):=Lib.hid (by rw [←hun.out,List.drop_of_length_le (by omega),List.drop_of_length_le (by omega)];rfl)
     clear hun hata hatb hgo hlm2 hkf
     go_wp2_with (fail)
     go_ret
     exact ⟨by rw [hR.out];rfl,hbel⟩
   | succ f=>
     have hki:(k:Int)<(l.length:Int):=by omega
     have hkj:(k:Int)<(m.length:Int):=by omega
     obtain ⟨ga,oa,rfl,hga,hca⟩:=hata (by omega)
     obtain ⟨gb,ob,rfl,hgb,hcb⟩:=hatb (by omega)
     obtain ⟨x,hx⟩ : ∃ x,l[k]?=some x:=⟨_,List.getElem?_eq_getElem (by omega)⟩
     obtain ⟨y,hy⟩ : ∃ y,m[k]?=some y:=⟨_,List.getElem?_eq_getElem (by omega)⟩
     have c1:=(zAb (hca k x hx) hga hbel) 0 _ rfl
     have c2:=(zAb (hcb k y hy) hgb hbel) 0 _ rfl
     rw [Nat.add_zero,Nat.mul_one] at c1 c2
     have hst:=drop_same hx hy
     clear hx hy hca hcb hata hatb hgo hlm2
     by_cases he:x=y
     ·subst he
      rw [if_pos rfl] at hst
      have hun2:Hid (decide (l.drop (k+1)=m.drop (k+1))=R):=Lib.hid (by rw [←hst];exact hun.out)
      clear hst hun
      go_wp2_with (fail)
      all_goals try (exfalso;omega)
      go_quiet (fail)
      go_wp2_with (fail)
      go_roundg f
      case rel=>exact ⟨k+1,by go_num,by omega,hun2,bdrewN hbel _⟩
      case measure=>omega
     ·rw [if_neg he] at hst
      have hR:Hid (R=false):=Lib.hid (by rw [←hun.out];exact hst)
      have he1:(x==y)=false:=by simp [he]
      have he2:(x != y)=true:=by simp [he]
      clear hst hun he
      go_wp2_with (fail)
      all_goals try (exfalso;omega)
      go_quiet (fail)
      go_wp2_with (fail)
      go_ret
      exact ⟨by rw [hR.out];rfl,bdrewN hbel _⟩
 ·have q0:((l.length:Int) != (m.length:Int))=true:=by simp;omega
  have q0':((l.length:Int)==(m.length:Int))=false:=by simp;omega
  have hR:Hid (decide (l=m)=false):=Lib.hid (by simp;intro h;exact hlen (by rw [h]))
  clear hlen
  go_enter Tryz.func13,Tryz.ntmps13
  go_wp2_with (fail)
  go_ret
  exact ⟨by rw [hR.out];rfl,Below.refl _ _⟩
end
end Go.Proofs.YtodebknbchaccaaGreatDoor
namespace Go.Proofs.YtodebknbchaccaaGreatDoor
open Go.ChangeShapes Go.WideShapes Go.ChangeAt Go.RowKit
section
variable {H:Type} {enc:TypeId×Value→H} {P:Program} {w:World} {base:Nat} {sp:Nat→Bool} {held:Bool}
open Go.Deep in
theorem zCI {α:Type} (en:α→List Value) (k:Nat) (hk0:0<k) (Ok:α→Prop) {t e:TypeId} {fuel:Nat} {v:Value} {x:DataW H×List MemPlace} (ht:P.underlying t=some (.slice e)) (hk:P.cellsOf e=k)
 (hen : ∀ y,Ok y→(en y).length=k) (key : ∀ fuel cs x,DataW.trod enc P w base sp held fuel e cs=some x→cs.length=k → ∃ y:α,cs=en y∧Ok y) (h:DataW.trod enc P w base sp held fuel t [v]=some x) :
 ∃ l:List α,SliceAt w k en v l ∧ ∀ y∈l,Ok y:=by
 rcases open_slice ht h with ⟨h0,_⟩ | ⟨a,len,cap,m,n,D,Pl,hcs,hb,hl,hm,hmm,hx,hi⟩
 ·injection h0 with h0
  subst h0
  exact ⟨[],SliceAt.nil,fun y hy=>by simp at hy⟩
 ·injection hcs with hcs
  subst hcs
  have hlm:len≤m:=by rw [hmm];split<;>omega
  have per : ∀ i,i<len → ∃ y:α,(∀ j u,(en y)[j]?=some u→w.cell? ((a.add (i*k)).add j)=some u)∧Ok y:=by
   intro i hil
   obtain ⟨cs',hc,ht'⟩:=hi i (by omega)
   rw [hk] at hc
   obtain ⟨_,hcl,hat⟩:=World.cells?_some hc
   obtain ⟨y,rfl,hok⟩:=key _ _ _ ht' hcl
   refine ⟨y,fun j u hu=>?_,hok⟩
   have hj:=(List.getElem?_eq_some_iff.1 hu).1
   rw [hat j (by omega)]
   exact hu
  obtain ⟨l,hll,hp⟩:=list_of len _ per
  subst hll
  have hcm:cap≤9223372036854775807:=by unfold maxLen at hm;omega
  refine ⟨l,⟨some a,cap,rfl,hl,hcm,fun h0=>?_⟩,fun y hy=>?_⟩
  ·have hy0:=(hp 0 h0).1
   have hlen0:=hen _ (hp 0 h0).2
   have hc0:=hy0 0 _ (List.getElem?_eq_getElem (by omega))
   simp only [Nat.zero_mul] at hc0
   have e00:(a.add 0).add 0=a:=by simp [Addr.add]
   rw [e00] at hc0
   obtain ⟨ha,hlt⟩:=addr_form hc0
   refine ⟨a.block,a.off,by rw [←ha],hlt,fun i y hy j u hu=>?_⟩
   obtain ⟨hi',he⟩:=List.getElem?_eq_some_iff.1 hy
   have hc:=(hp i hi').1 j u (by rw [he];exact hu)
   rw [ha] at hc
   simp only [addr_add] at hc
   exact hc
  ·obtain ⟨i,hi',rfl⟩:=List.getElem_of_mem hy
   exact (hp i hi').2
end
end Go.Proofs.YtodebknbchaccaaGreatDoor
namespace Go.Proofs.YtodebknbchaccaaGreatDoor
open Go.ChangeShapes Go.WideShapes Go.ChangeAt Go.RowKit
theorem trod_bytes {H:Type} {enc:TypeId×Value→H} {P:Program} {w:World} {base:Nat} {sp:Nat→Bool} {held:Bool} {fuel:Nat} {t e:TypeId} {n:Nat} {cs:List Value} {x:DataW H×List MemPlace}
 (ht:P.underlying t=some (.array n e)) (he:P.underlying e=some (.int .u8)) (hce:P.cellsOf e=1) (hct:P.cellsOf t=n)
 (h:DataW.trod enc P w base sp held fuel t cs=some x) : ∃ l:List UInt8,l.length=n∧cs=l.map u8v:=by
 cases fuel with
 | zero=>simp [DataW.trod] at h
 | succ fuel=>
   simp only [DataW.trod,ht,hce,hct,Nat.mul_one] at h
   split at h
   ·rename_i hl
    obtain ⟨xs,hm,_⟩:=Option.map_eq_some_iff.1 h
    have key : ∀ i,i<n → ∃ c:UInt8,cs[i]?=some (u8v c):=by
     intro i hi
     obtain ⟨b,_,hf⟩:=Lib.mapM_at hm i i (by simp [hi])
     obtain ⟨z,hc,_,hw⟩:=DataW.trod_int he hf
     have h1:cs[i]?=some (.int .u8 z):=by
      have:=congrArg (·[0]?) hc
      simpa [List.getElem?_take,List.getElem?_drop] using this
     have hb:=zB6 hw
     refine ⟨UInt8.ofNat z.toNat,?_⟩
     rw [h1,u8v,zBy _ (by omega),Int.toNat_of_nonneg hb.1]
    obtain ⟨l,hll,hp⟩:=list_of n (fun i c=>cs[i]?=some (u8v c)) key
    refine ⟨l,hll,List.ext_getElem? fun i=>?_⟩
    rcases Nat.lt_or_ge i n with hi | hi
    ·rw [hp i (by omega),List.getElem?_map,List.getElem?_eq_getElem (show i<l.length by omega)]
     rfl
    ·rw [List.getElem?_eq_none (by omega),List.getElem?_eq_none (by simp;omega)]
   ·cases h
end Go.Proofs.YtodebknbchaccaaGreatDoor
namespace Go.Proofs.YtodebknbchaccaaGreatDoor
open Go.ChangeShapes Go.WideShapes Go.ChangeAt Go.RowKit
section
variable {H:Type} {enc:TypeId×Value→H} {w:World} {base:Nat} {sp:Nat→Bool} {held:Bool}
theorem chain {cs a:List Value} {n k m:Nat} (h:(cs.drop n).take k=a) (hm:n+k=m):cs.drop n=a++cs.drop m:=by
 rw [←h,←hm,←List.drop_drop]
 exact (List.take_append_drop k _).symm
theorem zBx {fuel:Nat} {t:TypeId} {cs:List Value} {x:DataW H×List MemPlace} (hc:cs.length=1) (h:DataW.trod enc Tryz.prog w base sp held fuel t cs=some x) : ∃ v,cs=[v]∧DataW.trod enc Tryz.prog w base sp held fuel t [v]=some x:=by
 match cs,hc with
 | [v],_=>exact ⟨v,rfl,h⟩
end
end Go.Proofs.YtodebknbchaccaaGreatDoor
namespace Go.Proofs.YtodebknbchaccaaGreatDoor
open Go.ChangeShapes Go.WideShapes Go.ChangeAt Go.RowKit
structure SdL where
 kind:UInt8
 refs:Txt
 time:Nat
 text:Txt
 vr:Value
def sdC (e:SdL):List Value:=[u8v e.kind,e.vr, .int .u16 e.time, .string (B e.text)]
def byC (c:UInt8):List Value:=[u8v c]
structure SdOk (w:World) (e:SdL):Prop where
 refs:SliceAt w 1 byC e.vr e.refs
 time:e.time<65536
 text:e.text.length≤9223372036854775807
theorem SdOk.below {w w':World} {e:SdL} (h:SdOk w e) (hb:Below w.heap.size w w'):SdOk w' e:=⟨h.refs.below hb,h.time,h.text⟩
structure Seeds (w:World) (v:Value) (l:List SdL):Prop where
 at_:SliceAt w 4 sdC v l
 each : ∀ e∈l,SdOk w e
theorem Seeds.below {w w':World} {v:Value} {l:List SdL} (h:Seeds w v l) (hb:Below w.heap.size w w'):Seeds w' v l:=⟨h.at_.below hb,fun e he=>(h.each e he).below hb⟩
section
variable {H:Type} {enc:TypeId×Value→H} {w:World} {base:Nat} {sp:Nat→Bool} {held:Bool}
theorem elem_byte (fuel:Nat) (cs:List Value) (x:DataW H×List MemPlace) (h:DataW.trod enc Tryz.prog w base sp held fuel 5 cs=some x) (hl:cs.length=1) : ∃ c:UInt8,cs=byC c∧True:=by
 obtain ⟨n,e,_,w0⟩:=DataW.trod_int Tryz.underlying5 h
 have hb:=zB6 w0
 obtain ⟨k,rfl⟩:=Int.eq_ofNat_of_zero_le hb.1
 refine ⟨UInt8.ofNat k,?_,trivial⟩
 rw [e]
 unfold byC
 rw [zCe k (by omega)]
set_option maxRecDepth 200000 in
theorem elem_seed (fuel:Nat) (cs:List Value) (x:DataW H×List MemPlace) (h:DataW.trod enc Tryz.prog w base sp held fuel 137 cs=some x) (hl:cs.length=4) : ∃ r:SdL,cs=sdC r∧SdOk w r:=by
 obtain ⟨ys,n',hn',hy,hlen,hyl,hf⟩:=DataW.trod_struct Tryz.underlying137 h
 have hyl:ys.length=4:=hyl
 have h0:=hf 0 _ rfl
 have h1:=hf 1 _ rfl
 have h2:=hf 2 _ rfl
 have h3:=hf 3 _ rfl
 rw [List.getElem?_eq_getElem (show 0<ys.length by omega)] at h0
 rw [List.getElem?_eq_getElem (show 1<ys.length by omega)] at h1
 rw [List.getElem?_eq_getElem (show 2<ys.length by omega)] at h2
 rw [List.getElem?_eq_getElem (show 3<ys.length by omega)] at h3
 have cU:Tryz.prog.cellsOf 5=1:=by kernel_rfl
 have cB:Tryz.prog.cellsOf 24=1:=by kernel_rfl
 have cT:Tryz.prog.cellsOf 135=1:=by kernel_rfl
 have cS:Tryz.prog.cellsOf 9=1:=by kernel_rfl
 obtain ⟨n0,e0,_,w0⟩:=DataW.trod_int Tryz.underlying5 h0
 obtain ⟨n2,e2,_,w2⟩:=DataW.trod_int Tryz.underlying135 h2
 obtain ⟨s3,e3,_,w3⟩:=DataW.trod_string Tryz.underlying9 h3
 obtain ⟨v1,e1,t1⟩:=zBx (by
  show ((cs.drop 1).take (Tryz.prog.cellsOf 24)).length=1
  rw [cB,List.length_take,List.length_drop];omega) h1
 obtain ⟨lr,hlr,_⟩:=zCI byC 1 (by omega) (fun _=>True) Tryz.underlying24 cU (fun y _=>rfl) elem_byte t1
 obtain ⟨a3,rfl⟩:=B_mk s3
 have b0:=zB6 w0
 have b2:=bounds_u16 w2
 obtain ⟨k0,rfl⟩:=Int.eq_ofNat_of_zero_le b0.1
 obtain ⟨k2,rfl⟩:=Int.eq_ofNat_of_zero_le b2.1
 have e0':(cs.drop 0).take 1=[u8v (UInt8.ofNat k0)]:=by rw [zCe k0 (by omega),←cU];exact e0
 have e1':(cs.drop 1).take 1=[v1]:=by rw [←cB];exact e1
 have e2':(cs.drop 2).take 1=[.int .u16 k2]:=by rw [←cT];exact e2
 have e3':(cs.drop 3).take 1=[.string (B a3)]:=by rw [←cS];exact e3
 refine ⟨⟨UInt8.ofNat k0,lr,k2,a3,v1⟩,?_,⟨hlr,by show k2<_;omega,by unfold maxLen at w3;rw [size_B] at w3;exact w3⟩⟩
 have:=chain e0' (m:=1) rfl
 rw [List.drop_zero,chain e1' (m:=2) rfl,chain e2' (m:=3) rfl,chain e3' (m:=4) rfl,List.drop_of_length_le (by omega)] at this
 rw [this]
 rfl
end
section
variable {w:World} {g o:Nat} {e:SdL}
theorem sd_refs (h:w.rangeAt g o (sdC e)):w.cell? ⟨g,o+1,none⟩=some e.vr:=h 1 _ rfl
theorem sd_text (h:w.rangeAt g o (sdC e)):w.cell? ⟨g,o+3,none⟩=some (.string (B e.text)):=h 3 _ rfl
end
theorem szSeed : (Tryz.prog.info? 137).map (·.size)=some 4:=by kernel_rfl
def FewB (l:List SdL) (most:Nat) (e:Ending):Prop := ∃ b,e = .returned (.bool b)∧(b=true→l.length≤most ∧ ∀ x∈l,x.refs.length≤10∧x.text.length≤300)
set_option maxRecDepth 100000 in
set_option maxHeartbeats 4000000 in
theorem few_calls11 (l:List SdL) (most:Nat) (hm:most≤1000) (va:Value) (w:World) (h:Seeds w va l):Calls Tryz.prog 26 #[va, .int .i64 most] w fun e w'=>FewB l most e∧Below w.heap.size w w':=by
 have hla:=h.at_.len
 have heach:=h.each
 obtain ⟨A,capa,rfl,ha1,ha2,hata⟩:=h.at_
 clear h
 go_enter Tryz.func26,Tryz.ntmps26
 go_wp2
 go_loopw [5] (fun i wr => ∃ k:Nat,i = .int .i64 k∧k≤l.length∧k≤most∧(∀ j x,j<k→l[j]?=some x→x.refs.length≤10∧x.text.length≤300)∧Below w.heap.size w wr) (fun i _=>l.length-(intOf i).toNat)
 case atStart=>exact ⟨0,rfl,by omega,by omega,fun j x hj=>by omega,Below.refl _ _⟩
 case round=>
  obtain ⟨k,rfl,hk,hkm,hall,hbel⟩:=hrel
  by_cases hlt:k<l.length
  ·have hki:(k:Int)<(l.length:Int):=by omega
   by_cases h20:k<most
   ·have hk2:(k:Int)<(most:Int):=by omega
    obtain ⟨ga,oa,rfl,hga,hca⟩:=hata (by omega)
    obtain ⟨x,hx⟩ : ∃ x,l[k]?=some x:=⟨_,List.getElem?_eq_getElem hlt⟩
    obtain ⟨A2,cap2,hvr,_⟩:=(heach x (List.mem_of_getElem? hx)).refs
    have q1:=sd_refs (zAb (hca k x hx) hga hbel)
    rw [hvr] at q1
    have q3:=sd_text (zAb (hca k x hx) hga hbel)
    by_cases hd:x.refs.length≤10
    ·have d1 : ¬ (10:Int)<(x.refs.length:Int):=by omega
     by_cases hd2:x.text.length≤300
     ·have d2 : ¬ (300:Int)<(x.text.length:Int):=by omega
      have hall2 : ∀ j y,j<k+1→l[j]?=some y→y.refs.length≤10∧y.text.length≤300:=fun j y hj hy=>by
       by_cases e:j=k
       ·rw [e,hx] at hy
        injection hy with hy
        rw [←hy];exact ⟨hd,hd2⟩
       ·exact hall j y (by omega) hy
      clear hx hata hca hd hd2 hall heach hvr
      go_wp2
      all_goals try (exfalso;omega)
      go_roundw
      case rel=>exact ⟨k+1,by go_num,by omega,by omega,hall2,hbel⟩
      case measure=>simp [intOf];omega
     ·have d2:(300:Int)<(x.text.length:Int):=by omega
      clear hx hata hca hd hd2 hall heach hvr
      go_wp2
      all_goals try (exfalso;omega)
      go_ret
      exact ⟨⟨false,rfl,fun h=>by cases h⟩,hbel⟩
    ·have d1:(10:Int)<(x.refs.length:Int):=by omega
     clear hx hata hca hd hall heach hvr
     go_wp2
     all_goals try (exfalso;omega)
     go_ret
     exact ⟨⟨false,rfl,fun h=>by cases h⟩,hbel⟩
   ·have hk2 : ¬ (k:Int)<(most:Int):=by omega
    have hno : ¬ (l.length:Int)≤(most:Int):=by omega
    clear hata hall heach
    go_wp2
    all_goals try (exfalso;omega)
    go_ret
    exact ⟨⟨_,rfl,fun h=>by simp at h⟩,hbel⟩
  ·have hki : ¬ (k:Int)<(l.length:Int):=by omega
   have h20:(l.length:Int)≤(most:Int):=by omega
   have hall2:=Lib.hid hall
   clear hata hall heach
   go_wp2
   all_goals try (exfalso;omega)
   go_ret
   refine ⟨⟨_,rfl,fun _=>⟨by omega,fun x hx=>?_⟩⟩,hbel⟩
   obtain ⟨j,hj,rfl⟩:=List.getElem_of_mem hx
   exact hall2.out j _ (by omega) (List.getElem?_eq_getElem hj)
set_option maxRecDepth 100000 in
theorem name_calls11 (k:Nat) (hk:k≤1000) (w:World):Calls Tryz.prog 92 #[.int .i64 k] w fun e w'=>(∃ c:UInt8,e = .returned (.string (B [c])))∧Below w.heap.size w w':=by
 have h1:IntKind.i64.wrap ((97:Int)+(k:Int)%20)=97+(k:Int)%20:=IntWalk.i64_in _ (by omega)
 have hs:=Tryz.str_of_one w ((97:Int)+(k:Int)%20)
 go_enter Tryz.func92,Tryz.ntmps92
 go_wp2
 go_ret
 exact ⟨⟨_,rfl⟩,(Below.refl _ _).alloc (Nat.le_refl _) _⟩
end Go.Proofs.YtodebknbchaccaaGreatDoor
namespace Go.Proofs.YtodebknbchaccaaGreatDoor
open Go.ChangeShapes Go.WideShapes Go.ChangeAt Go.RowKit
structure ThgL where
 kind:UInt8
 text:UInt8
 back:UInt8
 raw:Txt
def thgC (e:ThgL):List Value:=[u8v e.kind,u8v e.text,u8v e.back, .string (B e.raw)]
structure PckL where
 seeds:List SdL
 things:List ThgL
 sto:Txt
structure PckOk (w:World) (v0 v1 v2:Value) (x:PckL):Prop where
 seeds:Seeds w v0 x.seeds
 things:SliceAt w 4 thgC v1 x.things
 raw : ∀ e∈x.things,e.raw.length≤9223372036854775807
 sto:SliceAt w 1 byC v2 x.sto
theorem PckOk.below {w w':World} {v0 v1 v2:Value} {x:PckL} (h:PckOk w v0 v1 v2 x) (hb:Below w.heap.size w w'):PckOk w' v0 v1 v2 x:=⟨h.seeds.below hb,h.things.below hb,h.raw,h.sto.below hb⟩
section
variable {H:Type} {enc:TypeId×Value→H} {w:World} {base:Nat} {sp:Nat→Bool} {held:Bool}
set_option maxRecDepth 200000 in
theorem elem_thing (fuel:Nat) (cs:List Value) (x:DataW H×List MemPlace) (h:DataW.trod enc Tryz.prog w base sp held fuel 93 cs=some x) (hl:cs.length=4) : ∃ r:ThgL,cs=thgC r∧r.raw.length≤9223372036854775807:=by
 obtain ⟨ys,n',hn',hy,hlen,hyl,hf⟩:=DataW.trod_struct Tryz.underlying93 h
 have hyl:ys.length=4:=hyl
 have h0:=hf 0 _ rfl
 have h1:=hf 1 _ rfl
 have h2:=hf 2 _ rfl
 have h3:=hf 3 _ rfl
 rw [List.getElem?_eq_getElem (show 0<ys.length by omega)] at h0
 rw [List.getElem?_eq_getElem (show 1<ys.length by omega)] at h1
 rw [List.getElem?_eq_getElem (show 2<ys.length by omega)] at h2
 rw [List.getElem?_eq_getElem (show 3<ys.length by omega)] at h3
 have cU:Tryz.prog.cellsOf 5=1:=by kernel_rfl
 have cS:Tryz.prog.cellsOf 9=1:=by kernel_rfl
 obtain ⟨n0,e0,_,w0⟩:=DataW.trod_int Tryz.underlying5 h0
 obtain ⟨n1,e1,_,w1⟩:=DataW.trod_int Tryz.underlying5 h1
 obtain ⟨n2,e2,_,w2⟩:=DataW.trod_int Tryz.underlying5 h2
 obtain ⟨s3,e3,_,w3⟩:=DataW.trod_string Tryz.underlying9 h3
 obtain ⟨a3,rfl⟩:=B_mk s3
 have b0:=zB6 w0
 have b1:=zB6 w1
 have b2:=zB6 w2
 obtain ⟨k0,rfl⟩:=Int.eq_ofNat_of_zero_le b0.1
 obtain ⟨k1,rfl⟩:=Int.eq_ofNat_of_zero_le b1.1
 obtain ⟨k2,rfl⟩:=Int.eq_ofNat_of_zero_le b2.1
 have e0':(cs.drop 0).take 1=[u8v (UInt8.ofNat k0)]:=by rw [zCe k0 (by omega),←cU];exact e0
 have e1':(cs.drop 1).take 1=[u8v (UInt8.ofNat k1)]:=by rw [zCe k1 (by omega),←cU];exact e1
 have e2':(cs.drop 2).take 1=[u8v (UInt8.ofNat k2)]:=by rw [zCe k2 (by omega),←cU];exact e2
 have e3':(cs.drop 3).take 1=[.string (B a3)]:=by rw [←cS];exact e3
 refine ⟨⟨UInt8.ofNat k0,UInt8.ofNat k1,UInt8.ofNat k2,a3⟩,?_,by unfold maxLen at w3;rw [size_B] at w3;exact w3⟩
 have:=chain e0' (m:=1) rfl
 rw [List.drop_zero,chain e1' (m:=2) rfl,chain e2' (m:=3) rfl,chain e3' (m:=4) rfl,List.drop_of_length_le (by omega)] at this
 rw [this]
 rfl
set_option maxRecDepth 200000 in
theorem open_pack {base0:Nat} {v:Value} {d:DataW H} {p:List MemPlace} (hv:Value.okWide Tryz.prog w .any base0 26 v) (h0:DataW.Trod enc Tryz.prog w base sp held 26 v d p) : ∃ (v0 v1 v2:Value) (x:PckL),v = .agg #[v0,v1,v2]∧PckOk w v0 v1 v2 x:=by
 simp only [Value.okWide,Tryz.underlying26] at hv
 obtain ⟨cs0,rfl,hsz,hvv⟩:=hv
 obtain ⟨fuel,hf0⟩:=h0
 have h7:Tryz.prog.cellsOf 26=3:=by kernel_rfl
 have hl:cs0.toList.length=3:=by rw [Array.length_toList,hsz,h7]
 have hf1:DataW.trod enc Tryz.prog w base sp held fuel 26 cs0.toList=some (d,p):=hf0
 obtain ⟨cs,hcs⟩ : ∃ cs,cs0.toList=cs:=⟨_,rfl⟩
 rw [hcs] at hl hf1
 obtain ⟨ys,n',hn',hy,hlen,hyl,hf⟩:=DataW.trod_struct Tryz.underlying26 hf1
 have hyl:ys.length=3:=hyl
 have h0:=hf 0 _ rfl
 rw [List.getElem?_eq_getElem (show 0<ys.length by omega)] at h0
 have h1:=hf 1 _ rfl
 rw [List.getElem?_eq_getElem (show 1<ys.length by omega)] at h1
 have h2:=hf 2 _ rfl
 rw [List.getElem?_eq_getElem (show 2<ys.length by omega)] at h2
 have k0:Tryz.prog.cellsOf 22=1:=by kernel_rfl
 have k1:Tryz.prog.cellsOf 23=1:=by kernel_rfl
 have k2:Tryz.prog.cellsOf 24=1:=by kernel_rfl
 obtain ⟨v0,e0,t0⟩:=zBx (by
  show ((cs.drop 0).take (Tryz.prog.cellsOf 22)).length=1
  rw [k0,List.length_take,List.length_drop];omega) h0
 obtain ⟨l0,hl0,ho0⟩:=zCI sdC 4 (by omega) (SdOk w) Tryz.underlying22 (by kernel_rfl) (fun y _=>rfl) elem_seed t0
 have e0':(cs.drop 0).take 1=[v0]:=by rw [←k0];exact e0
 obtain ⟨v1,e1,t1⟩:=zBx (by
  show ((cs.drop 1).take (Tryz.prog.cellsOf 23)).length=1
  rw [k1,List.length_take,List.length_drop];omega) h1
 obtain ⟨l1,hl1,ho1⟩:=zCI thgC 4 (by omega) (fun e=>e.raw.length≤9223372036854775807) Tryz.underlying23 (by kernel_rfl) (fun y _=>rfl) elem_thing t1
 have e1':(cs.drop 1).take 1=[v1]:=by rw [←k1];exact e1
 obtain ⟨v2,e2,t2⟩:=zBx (by
  show ((cs.drop 2).take (Tryz.prog.cellsOf 24)).length=1
  rw [k2,List.length_take,List.length_drop];omega) h2
 obtain ⟨l2,hl2,ho2⟩:=zCI byC 1 (by omega) (fun _=>True) Tryz.underlying24 (by kernel_rfl) (fun y _=>rfl) elem_byte t2
 have e2':(cs.drop 2).take 1=[v2]:=by rw [←k2];exact e2
 have hcsE:cs=[v0,v1,v2]:=by
  have:=chain e0' (m:=1) rfl
  rw [List.drop_zero,chain e1' (m:=2) rfl,chain e2' (m:=3) rfl,List.drop_of_length_le (by omega)] at this
  exact this
 refine ⟨v0,v1,v2,⟨l0,l1,l2⟩,?_,⟨⟨hl0,ho0⟩,hl1,ho1,hl2⟩⟩
 congr 1
 apply Array.ext'
 rw [hcs,hcsE]
end
end Go.Proofs.YtodebknbchaccaaGreatDoor
namespace Go.Proofs.YtodebknbchaccaaGreatDoor
open Go.RowKit
section
attribute [local go_sem ↓] ldvI_eq
structure TwoC (w:World) (ga oa gb ob:Nat) (x:Txt) (w':World):Prop where
 a_:w'.rangeAt ga oa (idC x)
 b_:w'.rangeAt gb ob (idC x)
 bel:Below w.heap.size w w'
theorem TwoC.drew {w:World} {ga oa gb ob:Nat} {x:Txt} {w':World} (h:TwoC w ga oa gb ob x w'):TwoC w ga oa gb ob x w'.drew:=⟨h.a_,h.b_,h.bel.drew⟩
end
section
attribute [local go_sem ↓] ldvI_eq
end
theorem bytesLess_at {a b:List UInt8} (k:Nat) (ha:k<a.length) (hb:k<b.length) (he:a.take k=b.take k) (hne:a.getD k 0≠b.getD k 0) :
 Op.bytesLess a b=decide (((a.getD k 0).toNat:Int)<((b.getD k 0).toNat:Int)):=by
 induction k generalizing a b with
 | zero=>
   cases a with
   | nil=>simp at ha
   | cons x a=>
     cases b with
     | nil=>simp at hb
     | cons y b=>
       have hxy:x≠y:=hne
       rw [Op.bytesLess,Bool.eq_iff_iff]
       simp only [Bool.or_eq_true,Bool.and_eq_true,decide_eq_true_eq,beq_iff_eq,hxy,false_and,or_false,List.getD_cons_zero,UInt8.lt_iff_toNat_lt]
       omega
 | succ k ih=>
   cases a with
   | nil=>simp at ha
   | cons x a=>
     cases b with
     | nil=>simp at hb
     | cons y b=>
       simp only [List.take_succ_cons,List.cons.injEq] at he
       obtain ⟨rfl,he⟩:=he
       have:=ih (a:=a) (b:=b) (by simpa using ha) (by simpa using hb) he hne
       rw [Op.bytesLess]
       simp only [List.getD_cons_succ,beq_self_eq_true,Bool.true_and,UInt8.lt_irrefl,decide_false,Bool.false_or]
       exact this
theorem bytesLess_self (a:List UInt8):Op.bytesLess a a=false:=by
 induction a with
 | nil=>rfl
 | cons x a ih=>rw [Op.bytesLess,ih];simp
set_option maxRecDepth 100000 in
set_option maxHeartbeats 1000000 in
theorem refLess_calls (a b:List UInt8) (ha:a.length=32) (hb:b.length=32) (w:World) :
 Calls Tryz.prog 57 #[.agg (u8s a), .agg (u8s b)] w fun e w'=>e = .returned (.bool (Op.bytesLess a b))∧Below w.heap.size w w':=by
 have h0:Blk ((w.alloc (.cells (u8s a) 28)).alloc (.cells (u8s b) 28)) w.heap.size 28 (u8s a):=(Blk.new w _ _).alloc _
 have h1:Blk ((w.alloc (.cells (u8s a) 28)).alloc (.cells (u8s b) 28)) (w.heap.size+1) 28 (u8s b):=blk_at2 _ _ _ _
 have bb:Below w.heap.size w ((w.alloc (.cells (u8s a) 28)).alloc (.cells (u8s b) 28)):=((Below.refl _ _).alloc (Nat.le_refl _) _).alloc (by simp) _
 obtain ⟨r,hr⟩ : ∃ r,Hid (Op.bytesLess a b=r):=⟨_,rfl⟩
 rw [hr.out]
 go_enter Tryz.func57,Tryz.ntmps57
 go_wp2
 go_loopw [5] (fun i wr => ∃ k:Nat,i = .int .i64 k∧k≤32∧Hid (a.take k=b.take k)∧Blk wr w.heap.size 28 (u8s a)∧Blk wr (w.heap.size+1) 28 (u8s b)∧Below w.heap.size w wr) (fun i _=>32-(intOf i).toNat)
 case atStart=>exact ⟨0,rfl,by omega,rfl,h0,h1,bb⟩
 case round=>
  clear h0 h1 bb
  obtain ⟨k,rfl,hk,hek,h0,h1,hbel⟩:=hrel
  have hbs:=h1.lt
  by_cases hlt:k<32
  ·have hki:(k:Int)<32:=by omega
   have hat:=fun hne=>Lib.hid (bytesLess_at k (by omega) (by omega) hek.out (a:=a) (b:=b) hne)
   have hc0:wr.cell? ⟨w.heap.size,k,none⟩=some (.int .u8 ((a.getD k 0).toNat:Nat)):=by rw [h0.cell,u8s_get a k (by omega)]
   have hc1:wr.cell? ⟨w.heap.size+1,k,none⟩=some (.int .u8 ((b.getD k 0).toNat:Nat)):=by rw [h1.cell,u8s_get b k (by omega)]
   have hnx:Hid (a.getD k 0=b.getD k 0→a.take (k+1)=b.take (k+1)):=by
    intro he
    rw [List.take_add_one,List.take_add_one,hek.out]
    congr 1
    simp only [List.getD,List.getElem?_eq_getElem (show k<a.length by omega),List.getElem?_eq_getElem (show k<b.length by omega),Option.getD_some] at he
    rw [List.getElem?_eq_getElem (show k<a.length by omega),List.getElem?_eq_getElem (show k<b.length by omega),he]
   generalize a.getD k 0=x at *
   generalize b.getD k 0=y at *
   by_cases hxy:x=y
   ·have hn:=Lib.hid (hnx.out hxy)
    have hx1:((x.toNat:Int) != (y.toNat:Int))=false:=by rw [hxy];simp
    clear hat hnx hxy
    go_wp2
    go_quiet (fail)
    go_wp2
    go_roundw
    case rel=>exact ⟨k+1,by go_num,by omega,hn,h0.drewN nq,h1.drewN nq,bdrewN hbel nq⟩
    case measure=>simp [intOf];omega
   ·have hx1:((x.toNat:Int) != (y.toNat:Int))=true:=by
     simp only [bne_iff_ne,ne_eq]
     exact fun h=>hxy (UInt8.toNat_inj.1 (by omega))
    have hres:=hat hxy
    have hrr:Hid (r=decide (x.toNat<y.toNat)):=by show _=_;rw [←hr.out,hres.out];exact decide_eq_decide.2 Int.ofNat_lt
    clear hat hnx hxy hres
    go_wp2
    go_quiet (fail)
    have hc0':(wr.drewN nq).cell? ⟨w.heap.size,k,none⟩=some (.int .u8 (x.toNat:Nat)):=hc0
    have hc1':(wr.drewN nq).cell? ⟨w.heap.size+1,k,none⟩=some (.int .u8 (y.toNat:Nat)):=hc1
    have hbel':=bdrewN hbel nq
    clear hc0 hc1 h0 h1 hbel
    generalize wr.drewN nq=wo at *
    go_wp2
    go_quiet (fail)
    go_wp2
    go_ret
    exact ⟨by rw [hrr.out];rfl,bdrewN hbel' nq⟩
  ·have hk32:k=32:=by omega
   have hki : ¬ (k:Int)<32:=by omega
   have hrr:Hid (r=false):=by
    have:=hek.out
    rw [hk32,List.take_of_length_le (by omega),List.take_of_length_le (by omega)] at this
    show _=_
    rw [←hr.out,this,bytesLess_self]
   clear hk32
   go_wp2
   go_ret
   exact ⟨by rw [hrr.out];rfl,hbel⟩
end Go.Proofs.YtodebknbchaccaaGreatDoor
namespace Go.Proofs.YtodebknbchaccaaGreatDoor
def figN (c:UInt8):Nat:=if 48≤c.toNat∧c.toNat≤57 then c.toNat-48 else if 97≤c.toNat∧c.toNat≤102 then c.toNat-87 else 16
def fg (s:List UInt8) (i:Nat):Nat:=figN (s.getD i 0)
def Figs (s:List UInt8) (i:Nat):Prop := ∀ j,j<i→fg s j<16
theorem Figs.step {s:List UInt8} {i:Nat} (h:Figs s i) (hi:fg s i<16):Figs s (i+1):=fun j hj=>by
 rcases Nat.lt_or_ge j i with h1 | h1
 ·exact h j h1
 ·rw [show j=i from by omega];exact hi
end Go.Proofs.YtodebknbchaccaaGreatDoor
namespace Go.Proofs.YtodebknbchaccaaGreatDoor
open Go.RowKit
theorem zBh {P:Program} {fn:Func} {p q r:Tmp} {ty ty':TypeId} (h:fn.results = #[.cell p ty, .cell q ty', .tmp r]) (tmps:Array Value) (w:World) (g g':Nat) (t t':TypeId) (cs cs':Array Value) (fr fr':Nat×Nat) (d d':TypeDesc)
 (hp:tmps.getD p undef = .pointer (some ⟨g,0,none⟩)) (hg:w.heap[g]?=some (.cells cs t fr)) (hq:tmps.getD q undef = .pointer (some ⟨g',0,none⟩)) (hg':w.heap[g']?=some (.cells cs' t' fr'))
 (hu:P.underlying ty=some d) (hd:(match d with | .struct _ | .array _ _=>true | _=>false)=true) (hi:(P.info? ty).map (·.size)=some cs.size)
 (hu':P.underlying ty'=some d') (hd':(match d' with | .struct _ | .array _ _=>true | _=>false)=true) (hi':(P.info? ty').map (·.size)=some cs'.size) :
 (results fn tmps).run P w = .ok (.tuple #[.agg cs, .agg cs',tmps.getD r undef]) w:=by
 have hp':tmps[p]?.getD undef = .pointer (some ⟨g,0,none⟩):=by simpa using hp
 have hq':tmps[q]?.getD undef = .pointer (some ⟨g',0,none⟩):=by simpa using hq
 simp [results,h,hp',hq',asAddr,run_loadVar_row w g t ty cs fr d hg hu hd hi,run_loadVar_row w g' t' ty' cs' fr' d' hg' hu' hd' hi']
theorem built_docSt (A:Option Addr) (n c:Nat):Tryz.prog.built 34 [(0, .slice A n c)]=some #[.slice A n c]:=by kernel_rfl
set_option maxRecDepth 100000 in
theorem built_dit {w:World} (e:DiL) (he:DitOk w e):Tryz.prog.built 98 [(0, .agg (u8s e.st.id)),(1, .string (B e.st.text)),(2, .agg (objC e.o e.ve e.vp).toArray)]=some (ditC e).toArray:=by
 obtain ⟨it,hi,hz,hs,hb⟩:=Tryz.ditTy.hi
 have hpl:(match Tryz.prog.underlying 98 with | some (.struct fields)=>fields.toList.mapM (fun f=>(Tryz.prog.info? f.type).map fun i=>(f.offset,i.size)) | _=>none)=some [(0,32),(32,1),(33,72)]:=by kernel_rfl
 have hu:=Tryz.underlying98
 rw [hu] at hpl
 unfold Program.built
 rw [hi,hu]
 simp only [hz]
 simp only at hpl
 rw [hpl]
 have hid:=he.id
 have hO:=zAC he.val.ok e.ve e.vp
 have e0:(Value.agg (u8s e.st.id)).cells=u8s e.st.id:=rfl
 have e1:(Value.string (B e.st.text)).cells = #[.string (B e.st.text)]:=rfl
 have e2:(Value.agg (objC e.o e.ve e.vp).toArray).cells=(objC e.o e.ve e.vp).toArray:=rfl
 have f1 : ∀ c:Array Value,Array.foldl (fun cs (x:Value×Nat)=>cs.setIfInBounds (32+x.snd) x.fst) c (#[.string (B e.st.text)]:Array Value).zipIdx=c.setIfInBounds 32 (.string (B e.st.text)):=fun c=>rfl
 have f0 : ∀ c:Array Value,Array.foldl (fun cs (x:Value×Nat)=>cs.setIfInBounds (0+x.snd) x.fst) c (u8s e.st.id).zipIdx=(u8s e.st.id).toList.zipIdx.foldl (fun cs (x:Value×Nat)=>cs.setIfInBounds (0+x.snd) x.fst) c:=fun c=>by
  rw [←Array.foldl_toList,Array.toList_zipIdx]
 have f2 : ∀ c:Array Value,Array.foldl (fun cs (x:Value×Nat)=>cs.setIfInBounds (33+x.snd) x.fst) c (objC e.o e.ve e.vp).toArray.zipIdx=(objC e.o e.ve e.vp).zipIdx.foldl (fun cs (x:Value×Nat)=>cs.setIfInBounds (33+x.snd) x.fst) c:=fun c=>by
  rw [←Array.foldl_toList,Array.toList_zipIdx,List.toList_toArray]
 have g0:(#[(0,32),(32,1),(33,72)]:Array (Nat×Nat))[0]?=some (0,32):=rfl
 have g1:(#[(0,32),(32,1),(33,72)]:Array (Nat×Nat))[1]?=some (32,1):=rfl
 have g2:(#[(0,32),(32,1),(33,72)]:Array (Nat×Nat))[2]?=some (33,72):=rfl
 obtain ⟨Z,hZ⟩ : ∃ Z,Z=zDit.cells:=⟨_,rfl⟩
 have hZl:Z.size=105:=by rw [hZ];rfl
 have hidl:(u8s e.st.id).toList.length=32:=by rw [zAW,hid]
 have h1:(u8s e.st.id).toList.zipIdx.foldl (fun cs (x:Value×Nat)=>cs.setIfInBounds (0+x.snd) x.fst) Z=([]++((u8s e.st.id).toList++Z.toList.drop 32)).toArray:=by
  refine fold_mid 0 _ [] (u8s e.st.id).toList (Z.toList.drop 32) rfl (by rw [List.length_drop,hidl,Array.length_toList,hZl]) (fun i hi=>absurd hi (by omega)) (fun i=>?_)
  rw [hidl,List.getElem?_drop,Array.getElem?_toList,Nat.zero_add]
 have hd32:Z.toList.drop 32=Z.toList[32]'(by rw [Array.length_toList,hZl];omega)::Z.toList.drop 33:=List.drop_eq_getElem_cons (by rw [Array.length_toList,hZl];omega)
 have h2:(([]:List Value)++((u8s e.st.id).toList++Z.toList.drop 32)).toArray.setIfInBounds 32 (.string (B e.st.text))=((u8s e.st.id).toList++Value.string (B e.st.text)::Z.toList.drop 33).toArray:=by
  rw [List.nil_append,List.setIfInBounds_toArray,List.set_append_right _ _ (by omega),hidl,hd32]
  rfl
 have h3:(objC e.o e.ve e.vp).zipIdx.foldl (fun cs (x:Value×Nat)=>cs.setIfInBounds (33+x.snd) x.fst) ((u8s e.st.id).toList++Value.string (B e.st.text)::Z.toList.drop 33).toArray=(((u8s e.st.id).toList++[Value.string (B e.st.text)])++(objC e.o e.ve e.vp++[])).toArray:=by
  refine fold_mid 33 _ ((u8s e.st.id).toList++[Value.string (B e.st.text)]) (objC e.o e.ve e.vp) [] (by rw [List.length_append,hidl];rfl) ?_ (fun i hi=>?_) (fun i=>?_)
  ·rw [List.size_toArray,List.length_append,hidl,List.length_cons,List.length_drop,Array.length_toList,hZl,hO];rfl
  ·rw [List.getElem?_toArray,show (u8s e.st.id).toList++Value.string (B e.st.text)::Z.toList.drop 33=((u8s e.st.id).toList++[Value.string (B e.st.text)])++Z.toList.drop 33 from by simp,List.getElem?_append_left (by rw [List.length_append,hidl];exact hi)]
  ·rw [List.getElem?_toArray,hO,List.getElem?_eq_none (by rw [List.length_append,hidl,List.length_cons,List.length_drop,Array.length_toList,hZl];omega)]
   rfl
 simp only [Instr.fill,g0,g1,g2,e0,e1,e2]
 rw [←hZ,f0,if_neg (by simp [zAh,hid,hZl]),h1,f1,if_neg (by simp [hidl,hZl]),h2,f2,if_neg (by simp [hidl,hZl,hO]),h3]
 congr 1
 unfold ditC
 simp
def accL (es:List DiL) (nw:DiL) (p k:Nat):List DiL:=if p<k then es.take p++[nw]++(es.take k).drop p else es.take k
theorem acc_before {es:List DiL} {nw x:DiL} {p k:Nat} (hx:es[k]?=some x) (h:k<p):accL es nw p (k+1)=accL es nw p k++[x]:=by
 unfold accL
 rw [if_neg (by omega),if_neg (by omega),List.take_add_one,hx]
 rfl
theorem acc_at {es:List DiL} {nw x:DiL} {p:Nat} (hx:es[p]?=some x):accL es nw p (p+1)=accL es nw p p++[nw]++[x]:=by
 have hlt:=(List.getElem?_eq_some_iff.1 hx).1
 unfold accL
 rw [if_pos (by omega),if_neg (by omega),List.take_add_one,hx]
 congr 1
 rw [List.drop_append,List.drop_eq_nil_of_le (by rw [List.length_take];omega),List.length_take,Nat.min_eq_left (by omega),Nat.sub_self]
 rfl
theorem acc_behind {es:List DiL} {nw x:DiL} {p k:Nat} (hx:es[k]?=some x) (h:p<k):accL es nw p (k+1)=accL es nw p k++[x]:=by
 have hlt:=(List.getElem?_eq_some_iff.1 hx).1
 unfold accL
 rw [if_pos (by omega),if_pos h,List.take_add_one,hx,List.drop_append_of_le_length (by rw [List.length_take];omega),List.append_assoc,List.append_assoc,List.append_assoc]
 rfl
theorem acc_end {es:List DiL} {nw:DiL} {p:Nat} (h:p<es.length):accL es nw p es.length=es.take p++[nw]++es.drop p:=by
 unfold accL
 rw [if_pos h,List.take_length]
theorem acc_last {es:List DiL} {nw:DiL}:accL es nw es.length es.length++[nw]=es.take es.length++[nw]++es.drop es.length:=by
 unfold accL
 rw [if_neg (by omega),List.drop_length,List.append_nil]
theorem acc_len (es:List DiL) (nw:DiL) (p k:Nat):(accL es nw p k).length≤es.length+1:=by
 unfold accL
 split
 ·simp only [List.length_append,List.length_take,List.length_drop,List.length_cons,List.length_nil];omega
 ·rw [List.length_take];omega
theorem OwnDits.more {w:World} {B:Nat} {v:Value} {l:List DiL} {x:DiL} (h:w.ownsRow B 98 105 v (l.length+1) (rowsOf ditC l++(ditC x).toArray.toList)):OwnDits w B v (l++[x]):=by
 unfold OwnDits
 rw [zAo,zAx,List.length_append]
 rwa [List.toList_toArray] at h
end Go.Proofs.YtodebknbchaccaaGreatDoor
