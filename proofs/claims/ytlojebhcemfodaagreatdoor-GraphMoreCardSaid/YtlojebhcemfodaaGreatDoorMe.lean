/- Texts of this claim, laid together: ObjD, ObjS, ObjF, LinkW, LinkO, Varint2, ObjK, ObjKn, RdW, Take, RdX, LzBP, RdL, RdM, RdB, Far2. -/
import Derived.Test.YtlojebhcemfodaaGreatDoorMd
import Derived.Great.FillDense
import Derived.Lib.Hide
import Derived.Lib.BufferWrite
namespace Go.Proofs.YtlojebhcemfodaaGreatDoor
open Go.RowKit
structure BodC (w:World) (g gs os:Nat) (o:ObjL) (ve vp:Value) (w':World):Prop where
 enc:EncC w g o ve vp w'
 at_ : ∀ i x,o.ents[i]?=some x→w'.rangeAt gs (os+i*34) (entC x)
 gs_:gs<w'.heap.size
section
variable {w w' w'' w0:World} {g gs os:Nat} {o:ObjL} {ve vp:Value} {f:FuncId} {args:Array Value} {v:Value}
theorem BodC.drew (h:BodC w g gs os o ve vp w'):BodC w g gs os o ve vp w'.drew:=⟨h.enc.drew,h.at_,h.gs_⟩
theorem BodC.below (h:BodC w g gs os o ve vp w') (hb:Below w'.heap.size w' w''):BodC w g gs os o ve vp w'':=⟨h.enc.below hb,fun i x hx=>rangeAt_below (h.at_ i x hx) h.gs_ hb,Nat.lt_of_lt_of_le h.gs_ hb.size⟩
theorem keepBod (h:Calls Tryz.prog f args w0 fun e w'=>e = .returned v∧Below w0.heap.size w0 w') (hS:BodC w g gs os o ve vp w0):Calls Tryz.prog f args w0 fun e w'=>e = .returned v∧BodC w g gs os o ve vp w':=
 h.mono fun _ _ ⟨he,hb⟩=>⟨he,hS.below hb⟩
theorem keepEnc (h:Calls Tryz.prog f args w0 fun e w'=>e = .returned v∧Below w0.heap.size w0 w') (hS:EncC w g o ve vp w0):Calls Tryz.prog f args w0 fun e w'=>e = .returned v∧EncC w g o ve vp w':=
 h.mono fun _ _ ⟨he,hb⟩=>⟨he,hS.below hb⟩
theorem szl {l:Txt} (h:l.length=32):(Tryz.prog.info? 42).map (·.size)=some (u8s l).toList.length:=by rw [u8s_len,h];exact sz32
end
set_option maxRecDepth 100000 in
set_option maxHeartbeats 8000000 in
theorem refBody_calls (o:ObjL) (hs:Small o) (A1 A2:Option Addr) (k1 k2:Nat) (w:World) (hv:ObjV w (.slice A1 o.ents.length k1) (.slice A2 o.pars.length k2) o):Calls Tryz.prog 52 #[.agg (objC o (.slice A1 o.ents.length k1) (.slice A2 o.pars.length k2)).toArray] w fun e w'=>e = .returned (.string (B (bodyR o)))∧Below w.heap.size w w':=by
 have ho:=hv.ok
 have hO:=boxed (w:=w) (ve := .slice A1 o.ents.length k1) (vp := .slice A2 o.pars.length k2) ho
 have b0:Below w.heap.size w (w.alloc (.cells (objC o (.slice A1 o.ents.length k1) (.slice A2 o.pars.length k2)).toArray 54)):=(Below.refl _ _).alloc (Nat.le_refl _) _
 have hv0:=hv.below b0
 obtain ⟨W0,hW0⟩ : ∃ W0,w.alloc (.cells (objC o (.slice A1 o.ents.length k1) (.slice A2 o.pars.length k2)).toArray 54)=W0:=⟨_,rfl⟩
 rw [hW0] at hO b0 hv0
 have hE0:EncC w w.heap.size o (.slice A1 o.ents.length k1) (.slice A2 o.pars.length k2) W0:=⟨hO,hv0,b0⟩
 have c1:=hO.data
 obtain ⟨r,hr⟩ : ∃ r,Hid (r=bodyR o):=⟨_,Lib.hid rfl⟩
 rw [←hr.out]
 have hoE:=Lib.hid ho.ents
 have hoP:=Lib.hid ho.pars
 have hnE:=Lib.hid hs.names
 have htr:=Lib.hid ho.tree
 have hta:=Lib.hid ho.target
 have hen70:=hs.ents
 have hp20:=hs.pars
 have hd5:=hs.data
 have ht5:=hs.text
 have hn1:=hs.name
 have htime:=ho.time
 have hbound : ∀ k,(entsE (o.ents.take k)).length≤353500:=fun k=>by
  have:=entsE_len' (l:=o.ents.take k) (fun e he=>⟨hs.names e (List.mem_of_mem_take he),(ho.ents e (List.mem_of_mem_take he)).id⟩)
  rw [List.length_take] at this
  omega
 have hbound:=Lib.hid hbound
 have hboundP:Hid (∀ k,((o.pars.take k).flatten).length≤640):=fun k=>by
  have:=flat_len (l:=o.pars.take k) (fun e he=>hoP.out e (List.mem_of_mem_take he))
  rw [List.length_take] at this
  omega
 clear hv ho hs hv0 hO b0
 generalize (objC o (.slice A1 o.ents.length k1) (.slice A2 o.pars.length k2)).toArray=cs at *
 go_enter Tryz.func52,Tryz.ntmps52
 go_wp2
 clear hW0 c1
 obtain ⟨g,hg⟩ : ∃ g,w.heap.size=g:=⟨_,rfl⟩
 simp only [hg] at hE0 ⊢
 go_loopw [3,4] (fun vs vi wr => ∃ (k:Nat) (s:Txt),vs = .string (B s)∧vi = .int .i64 k∧k≤o.ents.length∧Hid (s=o.data++entsE (o.ents.take k))∧EncC w g o (.slice A1 o.ents.length k1) (.slice A2 o.pars.length k2) wr) (fun _ vi _=>o.ents.length-(intOf vi).toNat)
 case atStart=>exact ⟨0,o.data,rfl,rfl,by omega,Lib.hid (by simp [entsE]),hE0⟩
 case round=>
  obtain ⟨k,s,rfl,rfl,hk,hs,hE⟩:=hrel
  have f0:=hE.obj.ents
  have hsl:s.length≤358500:=by
   rw [hs.out,List.length_append]
   have:=hbound.out k
   omega
  by_cases hlt:k<o.ents.length
  ·have hki:(k:Int)<(o.ents.length:Int):=by omega
   obtain ⟨A,cap,he,_,_,hat⟩:=hE.val.ents
   injection he with he _ hcp
   subst he
   subst hcp
   obtain ⟨gs,os,rfl,hgs,hcell⟩:=hat (by omega)
   have hBC:BodC w g gs os o (.slice (some ⟨gs,os,none⟩) o.ents.length k1) (.slice A2 o.pars.length k2) wr:=⟨hE,hcell,hgs⟩
   obtain ⟨x,hx⟩ : ∃ x,o.ents[k]?=some x:=⟨_,List.getElem?_eq_getElem hlt⟩
   have hxok:EntOk x:=hoE.out x (List.mem_of_getElem? hx)
   have hxn:=hnE.out x (List.mem_of_getElem? hx)
   have hst:=Lib.hid (entsE_take hx)
   have hxh:=Lib.hid hx
   have hone:=fun W=>Lib.hid (one_calls x.kind W)
   have hbytes:=fun W=>Lib.hid (bytes_calls x.id hxok.id W)
   have htext:=fun W=>Lib.hid (refText_calls x.name (by omega) W)
   have htl:(textE x.name).length≤5010:=by have:=put_length x.name.length;unfold textE;rw [List.length_append];omega
   have hee:Hid (entE x=byteK x.kind::(textE x.name++x.id)):=Lib.hid rfl
   have hidx:=szl hxok.id
   have hx32:=hxok.id
   generalize textE x.name=TX at *
   have n1 : ¬ 9223372036854775807<s.length+1:=by omega
   have n2 : ¬ 9223372036854775807<s.length+1+TX.length:=by omega
   have n3 : ¬ 9223372036854775807<s.length+1+TX.length+32:=by omega
   have n2' : ¬ 9223372036854775807<s.length+(TX.length+1):=by omega
   have n3' : ¬ 9223372036854775807<s.length+(TX.length+1)+32:=by omega
   have n4 : ¬ 9223372036854775807<s.length+1+TX.length+x.id.length:=by omega
   have n4' : ¬ 9223372036854775807<s.length+(TX.length+1)+x.id.length:=by omega
   clear hx hat hE0 hoE hnE hoP hbound hboundP htr hta hr hcell
   go_wp2
   clear hE f0
   refine wp_region_class (C:=BodC w g gs os o (.slice (some ⟨gs,os,none⟩) o.ents.length k1) (.slice A2 o.pars.length k2)) (by kernel_rfl) (by kernel_rfl) hBC.drew ?_
   repeat
    first
     | ((with_reducible refine wpQuiet_ex ?_ ?_)
        ·(go_simp;done)
        apply Exists.intro
        refine ⟨fun W hW=>?_,?_⟩
        ·first
          | exact quiet_load_mid _ _ rfl gs (os+k*34+2) rfl (u8s x.id).toList _ (range_entId (hW.at_ k x hxh.out)) Tryz.underlying42 rfl hidx rfl
          | (have f2:=hW.enc.obj.ents
             have f3:=(range_ent (hW.at_ k x hxh.out)).2
             have f4:=(range_ent (hW.at_ k x hxh.out)).1
             go_simp
             first
              | rfl
              | (go_at_call 50;with_reducible exact keepBod (hone _).out hW)
              | (go_at_call 51;with_reducible exact keepBod (htext _).out hW)
              | (go_at_call 72;with_reducible exact keepBod (hbytes _).out hW))
        simp only [Act.put,List.setIfInBounds_toArray,List.set_cons_zero,List.set_cons_succ])
     | ((with_reducible refine wpQuiet_pass ?_ ?_)
        ·(first | rfl | (go_simp;done))
        simp only [Act.put,List.setIfInBounds_toArray,List.set_cons_zero,List.set_cons_succ])
   with_reducible refine wpQuiet_nil ?_
   intro w5 hW5
   have hst2:Hid (s++[byteK x.kind]++TX++x.id=o.data++entsE (o.ents.take (k+1))):=by
    show _=_
    rw [hst.out,hee.out,hs.out]
    simp
   clear n1 n2 n3 n2' n3' n4 n4' hst hee hs
   go_wp2
   go_roundw
   case rel=>exact ⟨k+1,_,by first | rfl | (congr 2;simp),by go_num,by omega,hst2,hW5.enc⟩
   case measure=>simp [intOf];omega
  ·have hki : ¬ (k:Int)<(o.ents.length:Int):=by omega
   have hse:Hid (s=o.data++entsE o.ents):=by show s=_;rw [hs.out,List.take_of_length_le (by omega)]
   clear hs hoE hnE hbound hE0 hlt hk
   have c0:=hE.obj.kind
   by_cases h3:o.kind=3
   ·have hrr:Hid (r=s++o.tree++put o.pars.length++o.pars.flatten++put o.time++textE o.text):=by
     show r=_
     rw [hr.out,bodyR,if_pos h3,hse.out]
     simp [commitE]
    rw [h3] at c0
    have hbt:=fun W=>Lib.hid (bytes_calls o.tree htr.out W)
    have hpn:=fun W=>Lib.hid (refPut_calls o.pars.length (by omega) W)
    have hpt:=fun W=>Lib.hid (refPut_calls o.time (by omega) W)
    have htx:=fun W=>Lib.hid (refText_calls o.text (by omega) W)
    have hl1:=put_length o.pars.length
    have hl2:=put_length o.time
    have htl:(textE o.text).length≤5010:=by have:=put_length o.text.length;unfold textE;rw [List.length_append];omega
    have ht32:=htr.out
    have hwu:IntKind.u64.wrap ((o.pars.length:Nat):Int)=((o.pars.length:Nat):Int):=by rw [IntKind.wrap_u64];omega
    have hwt:IntKind.u64.wrap ((o.time:Nat):Int)=((o.time:Nat):Int):=by rw [IntKind.wrap_u64];omega
    have hidt:=szl ht32
    have h3':=h3
    clear hr hse h3
    generalize textE o.text=TX at *
    generalize put o.pars.length=PN at *
    generalize put o.time=PT at *
    have n1 : ¬ 9223372036854775807<s.length+32:=by omega
    have n2 : ¬ 9223372036854775807<s.length+32+PN.length:=by omega
    have n1' : ¬ 9223372036854775807<s.length+o.tree.length:=by omega
    have n2' : ¬ 9223372036854775807<s.length+o.tree.length+PN.length:=by omega
    go_wp2
    clear c0 f0
    refine wp_region_class (C:=EncC w g o (.slice A1 o.ents.length k1) (.slice A2 o.pars.length k2)) (by kernel_rfl) (by kernel_rfl) hE.drew ?_
    repeat
     first
      | ((with_reducible refine wpQuiet_ex ?_ ?_)
         ·(go_simp;done)
         apply Exists.intro
         refine ⟨fun W hW=>?_,?_⟩
         ·first
           | exact quiet_load_mid _ _ rfl g 3 rfl (u8s o.tree).toList _ hW.obj.tree Tryz.underlying42 rfl hidt rfl
           | (have f2:=hW.obj.pars
              go_simp
              first
               | rfl
               | (go_at_call 72;with_reducible exact keepEnc (hbt _).out hW)
               | (go_at_call 71;with_reducible exact keepEnc (hpn _).out hW))
         simp only [Act.put,List.setIfInBounds_toArray,List.set_cons_zero,List.set_cons_succ])
      | ((with_reducible refine wpQuiet_pass ?_ ?_)
         ·(first | rfl | (go_simp;done))
         simp only [Act.put,List.setIfInBounds_toArray,List.set_cons_zero,List.set_cons_succ])
    with_reducible refine wpQuiet_nil ?_
    intro w5 hW5
    generalize hS2:s++o.tree++PN=S2 at *
    have hS2l:S2.length≤359000:=by rw [←hS2];simp only [List.length_append];omega
    replace hS2:=Lib.hid hS2
    clear hE n1 n2 n1' n2' hpn hbt hidt ht32
    have hE:=hW5
    go_wp2
    go_loopw [3,5] (fun vs vi wr => ∃ (k:Nat) (q:Txt),vs = .string (B q)∧vi = .int .i64 k∧k≤o.pars.length∧Hid (q=S2++(o.pars.take k).flatten)∧EncC w g o (.slice A1 o.ents.length k1) (.slice A2 o.pars.length k2) wr) (fun _ vi _=>o.pars.length-(intOf vi).toNat)
    case atStart=>exact ⟨0,S2,by first | rfl | (rw [←hS2.out,List.append_assoc]),rfl,by omega,Lib.hid (by simp),hE⟩
    case round=>
     obtain ⟨k,q,rfl,rfl,hk,hq,hE2⟩:=hrel
     have f0:=hE2.obj.pars
     have hql:q.length≤359640:=by
      rw [hq.out,List.length_append]
      have:=hboundP.out k
      omega
     by_cases hlt:k<o.pars.length
     ·have hki:(k:Int)<(o.pars.length:Int):=by omega
      obtain ⟨A,cap,he,_,_,hat⟩:=hE2.val.pars
      injection he with he _ hcp
      subst he
      subst hcp
      obtain ⟨gs,os,rfl,hgs,hcell⟩:=hat (by omega)
      obtain ⟨x,hx⟩ : ∃ x,o.pars[k]?=some x:=⟨_,List.getElem?_eq_getElem hlt⟩
      have hx32:x.length=32:=hoP.out x (List.mem_of_getElem? hx)
      have hx0:wr.rangeAt gs (os+k*32) (u8s x).toList:=hcell k x hx
      have hst:=Lib.hid (flat_take hx)
      have hbytes:=fun W=>Lib.hid (bytes_calls x hx32 W)
      have n1 : ¬ 9223372036854775807<q.length+32:=by omega
      have n1' : ¬ 9223372036854775807<q.length+x.length:=by omega
      clear hx hat hcell hW5 hE
      go_wp2_with (first
       | ((with_reducible refine lit_load_id (.tmp 65) gs (os+k*32) x hx32 hx0 ?_ ?_);rfl)
       | ((with_reducible refine (hbytes _).out.mono ?_);rintro e w6 ⟨rfl,hb6⟩))
      have hE3:=hE2.below hb6
      have hst2:Hid (q++x=S2++(o.pars.take (k+1)).flatten):=by
       show _=_
       rw [hst.out,hq.out]
       simp
      clear n1 n1' hst hq
      go_roundw
      case rel=>
       (repeat apply Exists.intro)
       exact ⟨⟨k+1,_,rfl,by go_num,by omega,hst2,hE3⟩,rfl⟩
      case measure=>simp [intOf];omega
     ·have hki : ¬ (k:Int)<(o.pars.length:Int):=by omega
      have hqe:Hid (q=S2++o.pars.flatten):=by show q=_;rw [hq.out,List.take_of_length_le (by omega)]
      have n1 : ¬ 9223372036854775807<q.length+PT.length:=by omega
      have n2 : ¬ 9223372036854775807<q.length+PT.length+TX.length:=by omega
      have hfin:Hid (r=q++PT++TX):=by
       show r=_
       rw [hrr.out,hqe.out,←hS2.out]
      have c0:=hE2.obj.kind
      rw [h3'] at c0
      clear hq hqe hrr hlt hk hboundP hW5 hE
      go_wp2
      clear f0
      refine wp_region_class (C:=EncC w g o (.slice A1 o.ents.length k1) (.slice A2 o.pars.length k2)) (by kernel_rfl) (by kernel_rfl) hE2.drew ?_
      repeat
       first
        | ((with_reducible refine wpQuiet_ex ?_ ?_)
           ·(go_simp;done)
           apply Exists.intro
           refine ⟨fun W hW=>?_,?_⟩
           ·first
             | (have f2:=hW.obj.time
                have f3:=hW.obj.text
                go_simp
                first
                 | rfl
                 | (go_at_call 51;with_reducible exact keepEnc (htx _).out hW)
                 | (go_at_call 71;with_reducible exact keepEnc (hpt _).out hW))
           simp only [Act.put,List.setIfInBounds_toArray,List.set_cons_zero,List.set_cons_succ])
        | ((with_reducible refine wpQuiet_pass ?_ ?_)
           ·(first | rfl | (go_simp;done))
           simp only [Act.put,List.setIfInBounds_toArray,List.set_cons_zero,List.set_cons_succ])
      with_reducible refine wpQuiet_nil ?_
      intro w5 hW5
      have c0:=hW5.obj.kind
      rw [h3'] at c0
      clear n1 n2
      go_wp2
      go_ret
      exact ⟨by rw [hfin.out];simp,by first | exact hW5.bel | (rw [←hg];exact hW5.bel)⟩
   by_cases h4:o.kind=4
   ·have hrr:Hid (r=s++[byteK o.of_]++o.target++textE o.name):=by
     show r=_
     rw [hr.out,bodyR,if_neg h3,if_pos h4,hse.out]
     simp [tagE]
    rw [h4] at c0
    have hbt:=fun W=>Lib.hid (bytes_calls o.target hta.out W)
    have hone:=fun W=>Lib.hid (one_calls o.of_ W)
    have htx:=fun W=>Lib.hid (refText_calls o.name (by omega) W)
    have htl:(textE o.name).length≤5010:=by have:=put_length o.name.length;unfold textE;rw [List.length_append];omega
    have ht32:=hta.out
    have hidt:=szl ht32
    clear hr hse h3 h4
    generalize textE o.name=TX at *
    have n1 : ¬ 9223372036854775807<s.length+1:=by omega
    have n2 : ¬ 9223372036854775807<s.length+1+32:=by omega
    have n3 : ¬ 9223372036854775807<s.length+1+32+TX.length:=by omega
    have n2' : ¬ 9223372036854775807<s.length+1+o.target.length:=by omega
    have n3' : ¬ 9223372036854775807<s.length+1+o.target.length+TX.length:=by omega
    have n2a : ¬ 9223372036854775807<s.length+(o.target.length+1):=by omega
    have n3a : ¬ 9223372036854775807<s.length+(32+1)+TX.length:=by omega
    have n3b : ¬ 9223372036854775807<s.length+(o.target.length+1)+TX.length:=by omega
    go_wp2
    clear c0 f0
    refine wp_region_class (C:=EncC w g o (.slice A1 o.ents.length k1) (.slice A2 o.pars.length k2)) (by kernel_rfl) (by kernel_rfl) hE.drew ?_
    repeat
     first
      | ((with_reducible refine wpQuiet_ex ?_ ?_)
         ·(go_simp;done)
         apply Exists.intro
         refine ⟨fun W hW=>?_,?_⟩
         ·first
           | exact quiet_load_mid _ _ rfl g 38 rfl (u8s o.target).toList _ hW.obj.target Tryz.underlying42 rfl hidt rfl
           | (have f2:=hW.obj.of_
              have f3:=hW.obj.name
              go_simp
              first
               | rfl
               | (go_at_call 72;with_reducible exact keepEnc (hbt _).out hW)
               | (go_at_call 50;with_reducible exact keepEnc (hone _).out hW)
               | (go_at_call 51;with_reducible exact keepEnc (htx _).out hW))
         simp only [Act.put,List.setIfInBounds_toArray,List.set_cons_zero,List.set_cons_succ])
      | ((with_reducible refine wpQuiet_pass ?_ ?_)
         ·(first | rfl | (go_simp;done))
         simp only [Act.put,List.setIfInBounds_toArray,List.set_cons_zero,List.set_cons_succ])
    with_reducible refine wpQuiet_nil ?_
    intro w5 hW5
    clear n1 n2 n3 n2' n3' n2a n3a n3b
    go_wp2
    go_ret
    exact ⟨by rw [hrr.out];simp,by first | exact hW5.bel | (rw [←hg];exact hW5.bel)⟩
   ·have hrr:Hid (r=s):=by
     show r=_
     rw [hr.out,bodyR,if_neg h3,if_neg h4,hse.out]
     simp
    have e3:(o.kind==3)=false:=by rw [beq_eq_false_iff_ne];exact h3
    have e4:(o.kind==4)=false:=by rw [beq_eq_false_iff_ne];exact h4
    clear hr hse
    go_wp2
    go_ret
    exact ⟨by rw [hrr.out];rfl,by first | exact hE.bel | (rw [←hg];exact hE.bel)⟩
end Go.Proofs.YtlojebhcemfodaaGreatDoor
namespace Go.Proofs.YtlojebhcemfodaaGreatDoor
open Go.RowKit
attribute [local go_sem ↓] ldvI_eq
theorem kind_eq (n:Int):(n<1→kindB n=false)∧(4<n→kindB n=false)∧(¬ n<1 → ¬ 4<n→kindB n=true):=by
 unfold kindB
 refine ⟨fun h=>?_,fun h=>?_,fun h1 h2=>?_⟩
 ·rw [decide_eq_false (p:=1≤n) (by omega)];rfl
 ·rw [decide_eq_false (p:=n≤4) (by omega)];simp
 ·rw [decide_eq_true (p:=1≤n) (by omega),decide_eq_true (p:=n≤4) (by omega)];rfl
set_option maxRecDepth 100000 in
set_option maxHeartbeats 4000000 in
theorem refMay_calls1 (o:ObjL) (hk:o.kind=1) (A1 A2:Option Addr) (k1 k2:Nat) (w:World) (hv:ObjV w (.slice A1 o.ents.length k1) (.slice A2 o.pars.length k2) o):Calls Tryz.prog 49 #[.agg (objC o (.slice A1 o.ents.length k1) (.slice A2 o.pars.length k2)).toArray] w fun e w'=>e = .returned (.bool (mayB o))∧Below w.heap.size w w':=by
 have ho:=hv.ok
 have hO:=boxed (w:=w) (ve := .slice A1 o.ents.length k1) (vp := .slice A2 o.pars.length k2) ho
 have b0:Below w.heap.size w (w.alloc (.cells (objC o (.slice A1 o.ents.length k1) (.slice A2 o.pars.length k2)).toArray 54)):=(Below.refl _ _).alloc (Nat.le_refl _) _
 have hv0:=hv.below b0
 obtain ⟨W0,hW0⟩ : ∃ W0,w.alloc (.cells (objC o (.slice A1 o.ents.length k1) (.slice A2 o.pars.length k2)).toArray 54)=W0:=⟨_,rfl⟩
 rw [hW0] at hO b0 hv0
 have c0:=hO.kind
 have g1:=fun W=>run_ldvI_at (w:=W) (g:=w.heap.size) (o:=3) (l:=o.tree)
 have g2:=fun W=>run_ldvI_at (w:=W) (g:=w.heap.size) (o:=38) (l:=o.target)
 have z1:=fun W=>equalIn_zero o.tree ho.tree W
 have z2:=fun W=>equalIn_zero o.target ho.target W
 have e1:=Lib.hid (commit_eq o)
 have e2:=Lib.hid (tag_eq o)
 have ht:o.time<4294967296:=ho.time
 obtain ⟨r,hr⟩ : ∃ r,Hid (r=mayB o):=⟨_,Lib.hid rfl⟩
 rw [←hr.out]
 have hr2:=hr.out
 rw [may_one o hk,commit_eq,tag_eq] at hr2
 replace hr2:=Lib.hid hr2
 rw [hk] at c0
 have htr:=Lib.hid ho.tree
 have hta:=Lib.hid ho.target
 obtain ⟨Ez,hEz⟩ : ∃ Ez,treeN o=Ez:=⟨_,rfl⟩
 have hE1:Hid (0<o.ents.length→Ez=false):=fun h=>by rw [←hEz];unfold treeN;rw [beq_eq_false_iff_ne];omega
 have hE2:Hid (¬ 0<o.ents.length→Ez=true):=fun h=>by rw [←hEz];unfold treeN;rw [beq_iff_eq];omega
 have hr1:=hr2.out
 rw [hEz] at hr1
 replace hr2:=Lib.hid hr1
 clear hEz hr1
 clear hr ho hv e1 e2
 generalize decide (o.tree=List.replicate 32 0)=T at *
 generalize decide (o.target=List.replicate 32 0)=G at *
 obtain ⟨Pz,hPz⟩ : ∃ Pz,decide ((o.pars.length:Int)=0)=Pz:=⟨_,rfl⟩
 have hP1:0<o.pars.length→Pz=false:=fun h=>by rw [←hPz];exact decide_eq_false (by omega)
 have hP2 : ¬ 0<o.pars.length→Pz=true:=fun h=>by rw [←hPz];exact decide_eq_true (by omega)
 replace hP1:=Lib.hid hP1
 replace hP2:=Lib.hid hP2
 have hr3:=hr2.out
 rw [hPz] at hr3
 replace hr2:=Lib.hid hr3
 clear hPz hr3
 generalize hcs:(objC o (.slice A1 o.ents.length k1) (.slice A2 o.pars.length k2)).toArray=cs at *
 clear hcs
 have s0:=b0.size
 go_enter Tryz.func49,Tryz.ntmps49
 go_upto_region 4 with (first
  | ((with_reducible refine lit_new_zero (.tmp 3) (.tmp 16) _ ?_ ?_ ?_ ?_);rfl;rfl;rfl
     intro W1 hb1 hbl1
     have hO1:=hO.below hbl1
     have c1:=hO1.data
     have c2:=hO1.ents
     have c35:=hO1.pars
     have c36:=hO1.time
     have c37:=hO1.text
     have c70:=hO1.of_
     have c71:=hO1.name
     have c0':=hO1.kind
     rw [hk] at c0'
     have q1:=g1 W1 hO1.tree htr.out
     have q2:=g2 W1 hO1.target hta.out
     have q3:=run_zero hb1))
 clear c0 hO hb1 htr hta g1 g2 hW0
 have b1:=b0.trans (hbl1.mono s0)
 have sz1:=Nat.le_trans s0 hbl1.size
 clear b0 hbl1 hv0
 go_upto_region 16 with fail
 all_goals try (exfalso;omega)
 all_goals try
  (go_ret
   refine ⟨?_,b1⟩
   rw [hr2.out]
   have hP1:=hP1.out
   have hP2:=hP2.out
   have hE1:=hE1.out
   have hE2:=hE2.out
   clear z1 z2 c1 c2 c35 c36 c37 c70 c71 q1 q2 q3 hO1 c0' hr2
   simp_all
   done)
 have hrT:Hid (r=true):=by
  show r=true
  rw [hr2.out]
  have hP1:=hP1.out
  have hP2:=hP2.out
  have hE1:=hE1.out
  have hE2:=hE2.out
  clear z1 z2 c1 c2 c35 c36 c37 c70 c71 q1 q2 q3 hO1 c0' hr2
  simp_all
 have hn0 : ¬ 0<o.ents.length:=by assumption
 have hni : ¬ (0:Int)<(o.ents.length:Int):=by omega
 clear hr2 z1 z2 c1 c35 c36 c37 c70 c71 q1 q2 q3 c0' ht
 go_cut [5] (fun s5 wx=>s5 = .int .i64 0∧wx=W1)
 case first=>
  go_wp2
  go_meet
  case rel=>exact ⟨rfl,rfl⟩
 obtain ⟨rfl,rfl⟩:=hcut
 go_wp2
 go_loopw [5] (fun vi wr=>vi = .int .i64 0∧wr=wc) (fun _ _=>0)
 case atStart=>exact ⟨rfl,rfl⟩
 case round=>
  obtain ⟨rfl,rfl⟩:=hrel
  go_wp2
  go_ret
  exact ⟨by rw [hrT.out];rfl,b1⟩
set_option maxRecDepth 100000 in
set_option maxHeartbeats 4000000 in
theorem refMay_calls3 (o:ObjL) (hk:o.kind=3) (A1 A2:Option Addr) (k1 k2:Nat) (w:World) (hv:ObjV w (.slice A1 o.ents.length k1) (.slice A2 o.pars.length k2) o):Calls Tryz.prog 49 #[.agg (objC o (.slice A1 o.ents.length k1) (.slice A2 o.pars.length k2)).toArray] w fun e w'=>e = .returned (.bool (mayB o))∧Below w.heap.size w w':=by
 have ho:=hv.ok
 have hO:=boxed (w:=w) (ve := .slice A1 o.ents.length k1) (vp := .slice A2 o.pars.length k2) ho
 have b0:Below w.heap.size w (w.alloc (.cells (objC o (.slice A1 o.ents.length k1) (.slice A2 o.pars.length k2)).toArray 54)):=(Below.refl _ _).alloc (Nat.le_refl _) _
 have hv0:=hv.below b0
 obtain ⟨W0,hW0⟩ : ∃ W0,w.alloc (.cells (objC o (.slice A1 o.ents.length k1) (.slice A2 o.pars.length k2)).toArray 54)=W0:=⟨_,rfl⟩
 rw [hW0] at hO b0 hv0
 have c0:=hO.kind
 have g1:=fun W=>run_ldvI_at (w:=W) (g:=w.heap.size) (o:=3) (l:=o.tree)
 have g2:=fun W=>run_ldvI_at (w:=W) (g:=w.heap.size) (o:=38) (l:=o.target)
 have z1:=fun W=>equalIn_zero o.tree ho.tree W
 have z2:=fun W=>equalIn_zero o.target ho.target W
 have e1:=Lib.hid (commit_eq o)
 have e2:=Lib.hid (tag_eq o)
 have ht:o.time<4294967296:=ho.time
 obtain ⟨r,hr⟩ : ∃ r,Hid (r=mayB o):=⟨_,Lib.hid rfl⟩
 rw [←hr.out]
 have hr2:=hr.out
 rw [may_three o hk,tag_eq] at hr2
 have hX:blobN o=List.isEmpty o.data:=rfl
 rw [hX] at hr2
 replace hr2:=Lib.hid hr2
 rw [hk] at c0
 have htr:=Lib.hid ho.tree
 have hta:=Lib.hid ho.target
 obtain ⟨Ez,hEz⟩ : ∃ Ez,treeN o=Ez:=⟨_,rfl⟩
 have hE1:Hid (0<o.ents.length→Ez=false):=fun h=>by rw [←hEz];unfold treeN;rw [beq_eq_false_iff_ne];omega
 have hE2:Hid (¬ 0<o.ents.length→Ez=true):=fun h=>by rw [←hEz];unfold treeN;rw [beq_iff_eq];omega
 have hr1:=hr2.out
 rw [hEz] at hr1
 replace hr2:=Lib.hid hr1
 clear hEz hr1
 clear hr ho hX hv e1 e2
 generalize decide (o.tree=List.replicate 32 0)=T at *
 generalize decide (o.target=List.replicate 32 0)=G at *
 obtain ⟨Pz,hPz⟩ : ∃ Pz,decide (o.pars.length≤8)=Pz:=⟨_,rfl⟩
 have hP1:(8:Int)<(o.pars.length:Int)→Pz=false:=fun h=>by rw [←hPz];exact decide_eq_false (by omega)
 have hP2:(o.pars.length:Int)≤8→Pz=true:=fun h=>by rw [←hPz];exact decide_eq_true (by omega)
 replace hP1:=Lib.hid hP1
 replace hP2:=Lib.hid hP2
 have hr3:=hr2.out
 rw [hPz] at hr3
 replace hr2:=Lib.hid hr3
 clear hPz hr3
 generalize hcs:(objC o (.slice A1 o.ents.length k1) (.slice A2 o.pars.length k2)).toArray=cs at *
 clear hcs
 have s0:=b0.size
 go_enter Tryz.func49,Tryz.ntmps49
 go_upto_region 4 with (first
  | ((with_reducible refine lit_new_zero (.tmp 3) (.tmp 16) _ ?_ ?_ ?_ ?_);rfl;rfl;rfl
     intro W1 hb1 hbl1
     have hO1:=hO.below hbl1
     have c1:=hO1.data
     have c2:=hO1.ents
     have c35:=hO1.pars
     have c36:=hO1.time
     have c37:=hO1.text
     have c70:=hO1.of_
     have c71:=hO1.name
     have c0':=hO1.kind
     rw [hk] at c0'
     have q1:=g1 W1 hO1.tree htr.out
     have q2:=g2 W1 hO1.target hta.out
     have q3:=run_zero hb1))
 clear c0 hO hb1 htr hta g1 g2 hW0
 have b1:=b0.trans (hbl1.mono s0)
 have sz1:=Nat.le_trans s0 hbl1.size
 clear b0 hbl1 hv0
 go_upto_region 16 with fail
 all_goals try (exfalso;omega)
 all_goals try
  (go_ret
   refine ⟨?_,b1⟩
   rw [hr2.out]
   have hP1:=hP1.out
   have hP2:=hP2.out
   have hE1:=hE1.out
   have hE2:=hE2.out
   clear z1 z2 c1 c2 c35 c36 c37 c70 c71 q1 q2 q3 hO1 c0' hr2
   simp_all
   done)
 have hrT:Hid (r=true):=by
  show r=true
  rw [hr2.out]
  have hP1:=hP1.out
  have hP2:=hP2.out
  have hE1:=hE1.out
  have hE2:=hE2.out
  clear z1 z2 c1 c2 c35 c36 c37 c70 c71 q1 q2 q3 hO1 c0' hr2
  simp_all
 have hn0 : ¬ 0<o.ents.length:=by assumption
 have hni : ¬ (0:Int)<(o.ents.length:Int):=by omega
 clear hr2 z1 z2 c1 c35 c36 c37 c70 c71 q1 q2 q3 c0' ht
 go_cut [5] (fun s5 wx=>s5 = .int .i64 0∧wx=W1)
 case first=>
  go_wp2
  go_meet
  case rel=>exact ⟨rfl,rfl⟩
 obtain ⟨rfl,rfl⟩:=hcut
 go_wp2
 go_loopw [5] (fun vi wr=>vi = .int .i64 0∧wr=wc) (fun _ _=>0)
 case atStart=>exact ⟨rfl,rfl⟩
 case round=>
  obtain ⟨rfl,rfl⟩:=hrel
  go_wp2
  go_ret
  exact ⟨by rw [hrT.out];rfl,b1⟩
set_option maxRecDepth 100000 in
set_option maxHeartbeats 4000000 in
theorem refMay_calls4 (o:ObjL) (hk:o.kind=4) (A1 A2:Option Addr) (k1 k2:Nat) (w:World) (hv:ObjV w (.slice A1 o.ents.length k1) (.slice A2 o.pars.length k2) o):Calls Tryz.prog 49 #[.agg (objC o (.slice A1 o.ents.length k1) (.slice A2 o.pars.length k2)).toArray] w fun e w'=>e = .returned (.bool (mayB o))∧Below w.heap.size w w':=by
 have ho:=hv.ok
 have hO:=boxed (w:=w) (ve := .slice A1 o.ents.length k1) (vp := .slice A2 o.pars.length k2) ho
 have b0:Below w.heap.size w (w.alloc (.cells (objC o (.slice A1 o.ents.length k1) (.slice A2 o.pars.length k2)).toArray 54)):=(Below.refl _ _).alloc (Nat.le_refl _) _
 have hv0:=hv.below b0
 obtain ⟨W0,hW0⟩ : ∃ W0,w.alloc (.cells (objC o (.slice A1 o.ents.length k1) (.slice A2 o.pars.length k2)).toArray 54)=W0:=⟨_,rfl⟩
 rw [hW0] at hO b0 hv0
 have c0:=hO.kind
 have g1:=fun W=>run_ldvI_at (w:=W) (g:=w.heap.size) (o:=3) (l:=o.tree)
 have g2:=fun W=>run_ldvI_at (w:=W) (g:=w.heap.size) (o:=38) (l:=o.target)
 have z1:=fun W=>equalIn_zero o.tree ho.tree W
 have z2:=fun W=>equalIn_zero o.target ho.target W
 have e1:=Lib.hid (commit_eq o)
 have e2:=Lib.hid (tag_eq o)
 have ht:o.time<4294967296:=ho.time
 obtain ⟨r,hr⟩ : ∃ r,Hid (r=mayB o):=⟨_,Lib.hid rfl⟩
 rw [←hr.out]
 have hr2:=hr.out
 rw [may_four o hk,commit_eq] at hr2
 have hX:blobN o=List.isEmpty o.data:=rfl
 rw [hX] at hr2
 replace hr2:=Lib.hid hr2
 rw [hk] at c0
 have htr:=Lib.hid ho.tree
 have hta:=Lib.hid ho.target
 obtain ⟨Ez,hEz⟩ : ∃ Ez,treeN o=Ez:=⟨_,rfl⟩
 have hE1:Hid (0<o.ents.length→Ez=false):=fun h=>by rw [←hEz];unfold treeN;rw [beq_eq_false_iff_ne];omega
 have hE2:Hid (¬ 0<o.ents.length→Ez=true):=fun h=>by rw [←hEz];unfold treeN;rw [beq_iff_eq];omega
 have hr1:=hr2.out
 rw [hEz] at hr1
 replace hr2:=Lib.hid hr1
 clear hEz hr1
 clear hr ho hX hv e1 e2
 generalize decide (o.tree=List.replicate 32 0)=T at *
 generalize decide (o.target=List.replicate 32 0)=G at *
 obtain ⟨Pz,hPz⟩ : ∃ Pz,decide ((o.pars.length:Int)=0)=Pz:=⟨_,rfl⟩
 have hP1:0<o.pars.length→Pz=false:=fun h=>by rw [←hPz];exact decide_eq_false (by omega)
 have hP2 : ¬ 0<o.pars.length→Pz=true:=fun h=>by rw [←hPz];exact decide_eq_true (by omega)
 replace hP1:=Lib.hid hP1
 replace hP2:=Lib.hid hP2
 have hr3:=hr2.out
 rw [hPz] at hr3
 replace hr2:=Lib.hid hr3
 clear hPz hr3
 obtain ⟨k1',k2',k3'⟩:=kind_eq o.of_
 have hK1:=Lib.hid k1'
 have hK2:=Lib.hid k2'
 have hK3:=Lib.hid k3'
 have hnm:=fun W=>Lib.hid (refName_calls o.name hv0.ok.name W)
 clear k1' k2' k3'
 generalize kindB o.of_=K at *
 generalize nameB o.name=N at *
 generalize hcs:(objC o (.slice A1 o.ents.length k1) (.slice A2 o.pars.length k2)).toArray=cs at *
 clear hcs
 have s0:=b0.size
 go_enter Tryz.func49,Tryz.ntmps49
 go_upto_region 4 with (first
  | ((with_reducible refine lit_new_zero (.tmp 3) (.tmp 16) _ ?_ ?_ ?_ ?_);rfl;rfl;rfl
     intro W1 hb1 hbl1
     have hO1:=hO.below hbl1
     have c1:=hO1.data
     have c2:=hO1.ents
     have c35:=hO1.pars
     have c36:=hO1.time
     have c37:=hO1.text
     have c70:=hO1.of_
     have c71:=hO1.name
     have c0':=hO1.kind
     rw [hk] at c0'
     have q1:=g1 W1 hO1.tree htr.out
     have q2:=g2 W1 hO1.target hta.out
     have q3:=run_zero hb1))
 clear c0 hO hb1 htr hta g1 g2 hW0
 have b1:=b0.trans (hbl1.mono s0)
 have sz1:=Nat.le_trans s0 hbl1.size
 clear b0 hbl1 hv0
 go_upto_region 16 with (first
  | ((with_reducible refine (hnm _).out.mono ?_);rintro e w3 ⟨rfl,hw3⟩;rw [hw3];clear hw3))
 all_goals try (exfalso;omega)
 all_goals try
  (go_ret
   refine ⟨?_,b1⟩
   rw [hr2.out]
   have hP1:=hP1.out
   have hP2:=hP2.out
   have hE1:=hE1.out
   have hE2:=hE2.out
   have hK1:=hK1.out
   have hK2:=hK2.out
   have hK3:=hK3.out
   clear z1 z2 c1 c2 c35 c36 c37 c70 c71 q1 q2 q3 hO1 c0' hr2
   simp_all
   done)
 have hrT:Hid (r=true):=by
  show r=true
  rw [hr2.out]
  have hP1:=hP1.out
  have hP2:=hP2.out
  have hE1:=hE1.out
  have hE2:=hE2.out
  have hK1:=hK1.out
  have hK2:=hK2.out
  have hK3:=hK3.out
  clear z1 z2 c1 c2 c35 c36 c37 c70 c71 q1 q2 q3 hO1 c0' hr2
  simp_all
 have hn0 : ¬ 0<o.ents.length:=by assumption
 have hni : ¬ (0:Int)<(o.ents.length:Int):=by omega
 clear hr2 z1 z2 c1 c35 c36 c37 c70 c71 q1 q2 q3 c0' ht
 go_cut [5] (fun s5 wx=>s5 = .int .i64 0∧wx=W1)
 case first=>
  go_wp2
  go_meet
  case rel=>exact ⟨rfl,rfl⟩
 obtain ⟨rfl,rfl⟩:=hcut
 go_wp2
 go_loopw [5] (fun vi wr=>vi = .int .i64 0∧wr=wc) (fun _ _=>0)
 case atStart=>exact ⟨rfl,rfl⟩
 case round=>
  obtain ⟨rfl,rfl⟩:=hrel
  go_wp2
  go_ret
  exact ⟨by rw [hrT.out];rfl,b1⟩
set_option maxRecDepth 100000 in
set_option maxHeartbeats 4000000 in
theorem refMay_calls0 (o:ObjL) (hk:o.kind<1∨4<o.kind) (A1 A2:Option Addr) (k1 k2:Nat) (w:World) (hv:ObjV w (.slice A1 o.ents.length k1) (.slice A2 o.pars.length k2) o):Calls Tryz.prog 49 #[.agg (objC o (.slice A1 o.ents.length k1) (.slice A2 o.pars.length k2)).toArray] w fun e w'=>e = .returned (.bool (mayB o))∧Below w.heap.size w w':=by
 have ho:=hv.ok
 have hO:=boxed (w:=w) (ve := .slice A1 o.ents.length k1) (vp := .slice A2 o.pars.length k2) ho
 have b0:Below w.heap.size w (w.alloc (.cells (objC o (.slice A1 o.ents.length k1) (.slice A2 o.pars.length k2)).toArray 54)):=(Below.refl _ _).alloc (Nat.le_refl _) _
 obtain ⟨W0,hW0⟩ : ∃ W0,w.alloc (.cells (objC o (.slice A1 o.ents.length k1) (.slice A2 o.pars.length k2)).toArray 54)=W0:=⟨_,rfl⟩
 rw [hW0] at hO b0
 have c0:=hO.kind
 obtain ⟨r,hr⟩ : ∃ r,Hid (r=mayB o):=⟨_,Lib.hid rfl⟩
 rw [←hr.out]
 have hf:Hid (r=false):=by show r=false;rw [hr.out];exact may_none o hk
 clear hr hv ho hO
 generalize (objC o (.slice A1 o.ents.length k1) (.slice A2 o.pars.length k2)).toArray=cs at *
 generalize o.kind=n at *
 go_enter Tryz.func49,Tryz.ntmps49
 by_cases h1:n<1
 ·clear hk
  go_wp2
  all_goals try (exfalso;omega)
  go_ret
  exact ⟨by rw [hf.out];rfl,b0⟩
 ·have h4:4<n:=by omega
  clear hk
  go_wp2
  all_goals try (exfalso;omega)
  go_ret
  exact ⟨by rw [hf.out];rfl,b0⟩
theorem refMay_calls (o:ObjL) (A1 A2:Option Addr) (k1 k2:Nat) (w:World) (hv:ObjV w (.slice A1 o.ents.length k1) (.slice A2 o.pars.length k2) o):Calls Tryz.prog 49 #[.agg (objC o (.slice A1 o.ents.length k1) (.slice A2 o.pars.length k2)).toArray] w fun e w'=>e = .returned (.bool (mayB o))∧Below w.heap.size w w':=by
 by_cases h1:o.kind=1
 ·exact refMay_calls1 o h1 A1 A2 k1 k2 w hv
 by_cases h2:o.kind=2
 ·exact refMay_calls2 o h2 A1 A2 k1 k2 w hv
 by_cases h3:o.kind=3
 ·exact refMay_calls3 o h3 A1 A2 k1 k2 w hv
 by_cases h4:o.kind=4
 ·exact refMay_calls4 o h4 A1 A2 k1 k2 w hv
 exact refMay_calls0 o (by omega) A1 A2 k1 k2 w hv
end Go.Proofs.YtlojebhcemfodaaGreatDoor
namespace Go.Proofs.YtlojebhcemfodaaGreatDoor
open Go.RowKit
attribute [local go_sem ↓] ldvO_eq
def encD (o:ObjL):Value:=match encO o with
 | some t => .tuple #[.string (B t), .bool true]
 | none => .tuple #[.string (B []), .bool false]
theorem encD_none {o:ObjL} (h:encO o=none):encD o = .tuple #[.string (B []), .bool false]:=by unfold encD;rw [h]
theorem encD_some {o:ObjL} {t:Txt} (h:encO o=some t):encD o = .tuple #[.string (B t), .bool true]:=by unfold encD;rw [h]
set_option maxRecDepth 100000 in
set_option maxHeartbeats 4000000 in
theorem refEncode_calls (o:ObjL) (hs:Small o) (A1 A2:Option Addr) (k1 k2:Nat) (w:World) (hv:ObjV w (.slice A1 o.ents.length k1) (.slice A2 o.pars.length k2) o):Calls Tryz.prog 25 #[.agg (objC o (.slice A1 o.ents.length k1) (.slice A2 o.pars.length k2)).toArray] w fun e w'=>e = .returned (encD o)∧Below w.heap.size w w':=by
 have ho:=hv.ok
 have hO:=boxed (w:=w) (ve := .slice A1 o.ents.length k1) (vp := .slice A2 o.pars.length k2) ho
 have b0:Below w.heap.size w (w.alloc (.cells (objC o (.slice A1 o.ents.length k1) (.slice A2 o.pars.length k2)).toArray 54)):=(Below.refl _ _).alloc (Nat.le_refl _) _
 have hv0:=hv.below b0
 obtain ⟨W0,hW0⟩ : ∃ W0,w.alloc (.cells (objC o (.slice A1 o.ents.length k1) (.slice A2 o.pars.length k2)).toArray 54)=W0:=⟨_,rfl⟩
 rw [hW0] at hO b0 hv0
 have hE0:EncC w w.heap.size o (.slice A1 o.ents.length k1) (.slice A2 o.pars.length k2) W0:=⟨hO,hv0,b0⟩
 have hmay:=Lib.hid (refMay_calls o A1 A2 k1 k2 W0 hv0)
 have q0:=hE0.whole
 obtain ⟨r,hr⟩ : ∃ r,Hid (r=encD o):=⟨_,Lib.hid rfl⟩
 rw [←hr.out]
 have hbl:=whole_len hs ho
 have hem:mayB o=false→encO o=none:=fun h=>by unfold encO;rw [h];simp
 have hbody:=fun W (h:EncC w w.heap.size o (.slice A1 o.ents.length k1) (.slice A2 o.pars.length k2) W)=>Lib.hid (refBody_calls o hs A1 A2 k1 k2 W h.val)
 have hone:=fun W=>Lib.hid (one_calls o.kind W)
 have hew:Hid (mayB o=true→encO o=if (byteK o.kind::textE (bodyO o)).length≤4096 then some (byteK o.kind::textE (bodyO o)) else none):=fun h=>by
  unfold encO wholeO
  rw [h];simp
 have hsame := @body_same o
 have htext:=fun W=>Lib.hid (refText_calls (bodyO o) (by omega) W)
 have htl:(textE (bodyO o)).length≤400010:=by have:=put_length (bodyO o).length;unfold textE;rw [List.length_append];omega
 have hsz:(Tryz.prog.info? 54).map (·.size)=some (objC o (.slice A1 o.ents.length k1) (.slice A2 o.pars.length k2)).length:=by rw [objC_len ho];exact szObj
 clear hv ho hs hv0 hO hbl
 cases hM:mayB o with
 | false=>
   rw [hM] at hmay
   have hf:Hid (r=_):=hr.out.trans (encD_none (hem hM))
   clear hr hem hew hbody htext hM hsz hsame
   generalize (objC o (.slice A1 o.ents.length k1) (.slice A2 o.pars.length k2)).toArray=cs at *
   go_enter Tryz.func25,Tryz.ntmps25
   go_wp2_with (first
    | ((with_reducible refine hmay.out.mono ?_);rintro e w1 ⟨rfl,hb1⟩))
   go_ret2
   exact ⟨by rw [hf.out];rfl,bthen b0 b0.size hb1⟩
 | true=>
   rw [hM] at hmay
   rw [hsame hM] at hbody
   have hew:=Lib.hid (hew.out hM)
   clear hem hM hsame
   generalize textE (bodyO o)=TX at *
   generalize bodyO o=BD at *
   have n1 : ¬ 9223372036854775807<1+TX.length:=by omega
   have n2 : ¬ 9223372036854775807<TX.length+1:=by omega
   go_enter Tryz.func25,Tryz.ntmps25
   go_upto_region 4 with (first
    | ((with_reducible refine hmay.out.mono ?_);rintro e w1 ⟨rfl,hb1⟩))
   have hE1:=hE0.below hb1
   clear hE0 hmay q0 hb1 b0 hW0
   obtain ⟨g,hg⟩ : ∃ g,w.heap.size=g:=⟨_,rfl⟩
   simp only [hg] at hbody hE1 ⊢
   go_cut [5] (fun s5 wx=>s5 = .string (B (byteK o.kind::TX))∧Below w.heap.size w wx)
   case first=>
    refine wp_region_class (C:=EncC w g o (.slice A1 o.ents.length k1) (.slice A2 o.pars.length k2)) (by kernel_rfl) (by kernel_rfl) hE1.drew ?_
    repeat
     first
      | ((with_reducible refine wpQuiet_ex ?_ ?_)
         ·(go_simp;done)
         apply Exists.intro
         refine ⟨fun W hW=>?_,?_⟩
         ·first
           | exact quiet_load_mid _ _ rfl g 0 rfl (objC o (.slice A1 o.ents.length k1) (.slice A2 o.pars.length k2)) _ hW.obj.whole Tryz.underlying54 rfl hsz rfl
           | (have f2:=hW.obj.kind
              go_simp
              first
               | rfl
               | (go_at_call 50;with_reducible exact keepEnc (hone _).out hW)
               | (go_at_call 52;with_reducible exact keepEnc (hbody _ hW).out hW)
               | (go_at_call 51;with_reducible exact keepEnc (htext _).out hW))
         simp only [Act.put,List.setIfInBounds_toArray,List.set_cons_zero,List.set_cons_succ])
      | ((with_reducible refine wpQuiet_pass ?_ ?_)
         ·(first | rfl | (go_simp;done))
         simp only [Act.put,List.setIfInBounds_toArray,List.set_cons_zero,List.set_cons_succ])
    with_reducible refine wpQuiet_nil ?_
    intro w5 hW5
    go_wp2
    go_meet
    case rel=>exact ⟨rfl,hW5.bel⟩
   obtain ⟨rfl,hbx⟩:=hcut
   clear hbody htext hE1 n1 n2 hsz hone
   generalize hn:byteK o.kind::TX=TT at *
   by_cases h4:TT.length≤4096
   ·have i4 : ¬ (4096:Int)<(TT.length:Int):=by omega
    have hf:Hid (r=_):=hr.out.trans (encD_some (t:=TT) (by rw [hew.out,if_pos h4]))
    clear hr hew h4 hn
    go_wp2
    all_goals try (exfalso;omega)
    go_ret2
    exact ⟨by rw [hf.out];rfl,by first | exact hbx | (rw [←hg];exact hbx)⟩
   ·have i4:(4096:Int)<(TT.length:Int):=by omega
    have hf:Hid (r=_):=hr.out.trans (encD_none (by rw [hew.out,if_neg h4]))
    clear hr hew h4 hn
    go_wp2
    all_goals try (exfalso;omega)
    go_ret2
    exact ⟨by rw [hf.out];rfl,by first | exact hbx | (rw [←hg];exact hbx)⟩
end Go.Proofs.YtlojebhcemfodaaGreatDoor
namespace Go.Proofs.YtlojebhcemfodaaGreatDoor
open Go.RowKit
def LinkOk (l:LinkL):Prop:=l.id.length=32
def zLink : Value := .agg (linkC ⟨List.replicate 32 0,0⟩).toArray
theorem Tryz.linkTy : SliceTy Tryz.prog 78 81 zLink 33 40:=⟨Tryz.underlying78,info_parts (by kernel_rfl),rfl,by omega⟩
abbrev Links (w:World) (v:Value) (l:List LinkL):Prop:=SliceAt w 33 linkC v l
abbrev OwnLinks (w:World) (base:Nat) (v:Value) (l:List LinkL):Prop:=w.ownsRow base 81 33 v l.length (rowsOf linkC l)
theorem linkK {l:List LinkL} (h : ∀ x∈l,LinkOk x) : ∀ x∈l,(linkC x).length=33:=fun x hx=>linkC_len (h x hx)
theorem linkC_one (r:LinkL) : ∀ u∈linkC r,u.oneCell'=true:=by
 intro u hu
 simp only [linkC,List.mem_append,u8s,List.toList_toArray,List.mem_map,List.mem_singleton] at hu
 rcases hu with ⟨c,_,rfl⟩ | rfl<;>rfl
theorem OwnLinks.links {w:World} {base:Nat} {v:Value} {l:List LinkL} (hok : ∀ x∈l,LinkOk x) (h:OwnLinks w base v l):Links w v l:=SliceAt.of_own (linkK hok) h
theorem OwnLinks.more {w:World} {base:Nat} {v:Value} {o:List LinkL} {r:LinkL} (h:w.ownsRow base 81 33 v (o.length+1) (rowsOf linkC o++(linkC r).toArray.toList)):OwnLinks w base v (o++[r]):=by
 unfold OwnLinks
 rw [rowsOf_append,rowsOf_one,List.length_append]
 rwa [List.toList_toArray] at h
theorem OwnLinks.nil (w:World) (base:Nat):OwnLinks w base (.slice none 0 0) []:=World.ownsRow_nil w base _ 33
theorem fold_link (c0:Array Value) (b:Value) (l:List Value) (n:Nat) (hl:l.length=n) (h0:c0.size=n+1) :
 ((l.zipIdx 0).foldl (fun cs (x:Value×Nat)=>cs.setIfInBounds (0+x.2) x.1) c0).setIfInBounds n b=(l++[b]).toArray:=by
 obtain ⟨h1,h2⟩:=Great.foldl_set 0 l 0 c0
 apply Array.ext_getElem?
 intro k
 rw [Array.getElem?_setIfInBounds,h1]
 by_cases hk:n=k
 ·subst hk
  rw [if_pos rfl,if_pos (by omega)]
  simp [←hl]
 ·rw [if_neg hk,h2 k]
  by_cases hk2:k<n
  ·rw [if_pos ⟨by omega,by omega,by omega⟩]
   simp [List.getElem?_append_left (show k<l.length by omega)]
  ·rw [if_neg (by omega),Array.getElem?_eq_none (by omega)]
   symm
   rw [Array.getElem?_eq_none (by simp;omega)]
theorem zLink_cells : zLink.cells.size=33:=rfl
set_option maxRecDepth 100000 in
theorem built_link (id:Txt) (k:Int) (hid:id.length=32):Tryz.prog.built 81 [(0, .agg (u8s id)),(1, .int .i64 k)]=some (linkC ⟨id,k⟩).toArray:=by
 obtain ⟨it,hi,hz,hs,hb⟩:=Tryz.linkTy.hi
 have hpl:(match Tryz.prog.underlying 81 with | some (.struct fields)=>fields.toList.mapM (fun f=>(Tryz.prog.info? f.type).map fun i=>(f.offset,i.size)) | _=>none)=some [(0,32),(32,1)]:=by kernel_rfl
 have hu:=Tryz.underlying81
 rw [hu] at hpl
 unfold Program.built
 rw [hi,hu]
 simp only [hz]
 simp only at hpl
 rw [hpl]
 have hf:=fold_link zLink.cells (.int .i64 k) (id.map u8v) 32 (by simpa using hid) zLink_cells
 have h33:=zLink_cells
 have e1:(Value.int .i64 k).cells = #[.int .i64 k]:=rfl
 have e2:(Value.agg (u8s id)).cells=u8s id:=rfl
 have f1 : ∀ c:Array Value,Array.foldl (fun cs (x:Value×Nat)=>cs.setIfInBounds (32+x.snd) x.fst) c (#[.int .i64 k]:Array Value).zipIdx=c.setIfInBounds 32 (.int .i64 k):=fun c=>rfl
 have f2 : ∀ c:Array Value,Array.foldl (fun cs (x:Value×Nat)=>cs.setIfInBounds (0+x.snd) x.fst) c (u8s id).zipIdx=(id.map u8v).zipIdx.foldl (fun cs (x:Value×Nat)=>cs.setIfInBounds (0+x.snd) x.fst) c:=fun c=>by
  rw [←Array.foldl_toList,Array.toList_zipIdx]
  rfl
 have g0:(#[(0,32),(32,1)]:Array (Nat×Nat))[0]?=some (0,32):=rfl
 have g1:(#[(0,32),(32,1)]:Array (Nat×Nat))[1]?=some (32,1):=rfl
 have hsz:((id.map u8v).zipIdx.foldl (fun cs (x:Value×Nat)=>cs.setIfInBounds (0+x.snd) x.fst) zLink.cells).size=33:=by
  rw [(Great.foldl_set 0 (id.map u8v) 0 zLink.cells).1,h33]
 simp only [Instr.fill,g0,g1,e1,e2]
 rw [f2,if_neg (by simp [u8s_size,hid,h33]),f1,hf,if_neg (by rw [hsz];simp)]
 show some (linkC ⟨id,k⟩).toArray=_
 unfold linkC
 rw [show (u8s id).toList=id.map u8v from by simp [u8s]]
end Go.Proofs.YtlojebhcemfodaaGreatDoor
namespace Go.Proofs.YtlojebhcemfodaaGreatDoor
open Go.RowKit
theorem own_low {w:World} {base base' n size:Nat} {e:TypeId} {v:Value} {xs:List Value} (h:w.ownsRow base e size v n xs) (hb:base'≤base):w.ownsRow base' e size v n xs:=by
 refine ⟨h.1,?_⟩
 rcases h.2 with h1 | ⟨g,cap,cur,h1,h2,h3⟩
 ·exact .inl h1
 ·exact .inr ⟨g,cap,cur,h1,Nat.le_trans hb h2,h3⟩
def entLinks (l:List EntL):List LinkL:=l.map fun e=>⟨e.id,e.kind⟩
def parLinks (l:List Txt):List LinkL:=l.map fun p=>⟨p,3⟩
theorem entLinks_take {l:List EntL} {k:Nat} {x:EntL} (h:l[k]?=some x):entLinks (l.take (k+1))=entLinks (l.take k)++[⟨x.id,x.kind⟩]:=by rw [take_snoc h];simp [entLinks]
theorem parLinks_take {l:List Txt} {k:Nat} {x:Txt} (h:l[k]?=some x):parLinks (l.take (k+1))=parLinks (l.take k)++[⟨x,3⟩]:=by rw [take_snoc h];simp [parLinks]
theorem links_two {o:ObjL} (h:o.kind=2):linksL o=entLinks o.ents:=by unfold linksL;rw [if_pos h];rfl
theorem links_three {o:ObjL} (h:o.kind=3):linksL o=⟨o.tree,2⟩::parLinks o.pars:=by unfold linksL;rw [if_neg (by omega),if_pos h];rfl
theorem links_four {o:ObjL} (h:o.kind=4):linksL o=[⟨o.target,o.of_⟩]:=by unfold linksL;rw [if_neg (by omega),if_neg (by omega),if_pos h]
theorem links_none {o:ObjL} (h2:o.kind≠2) (h3:o.kind≠3) (h4:o.kind≠4):linksL o=[]:=by unfold linksL;rw [if_neg h2,if_neg h3,if_neg h4]
theorem linkC_cells (l:LinkL) : ∀ u∈((linkC l).toArray:Array Value).toList,u.oneCell'=true:=by
 intro u hu
 rw [List.toList_toArray] at hu
 exact linkC_one l u hu
theorem linkC_size {l:LinkL} (h:l.id.length=32):(linkC l).toArray.size=1*33:=by rw [List.size_toArray,linkC_len h]
set_option maxRecDepth 100000 in
set_option maxHeartbeats 4000000 in
theorem links_calls (o:ObjL) (hs:Small o) (A1 A2:Option Addr) (k1 k2:Nat) (w:World) (hv:ObjV w (.slice A1 o.ents.length k1) (.slice A2 o.pars.length k2) o):Calls Tryz.prog 63 #[.agg (objC o (.slice A1 o.ents.length k1) (.slice A2 o.pars.length k2)).toArray] w fun e w' => ∃ v',e = .returned v'∧OwnLinks w' w.heap.size v' (linksL o)∧Below w.heap.size w w':=by
 have ho:=hv.ok
 have hO:=boxed (w:=w) (ve := .slice A1 o.ents.length k1) (vp := .slice A2 o.pars.length k2) ho
 have b0:Below w.heap.size w (w.alloc (.cells (objC o (.slice A1 o.ents.length k1) (.slice A2 o.pars.length k2)).toArray 54)):=(Below.refl _ _).alloc (Nat.le_refl _) _
 have hv0:=hv.below b0
 obtain ⟨W0,hW0⟩ : ∃ W0,w.alloc (.cells (objC o (.slice A1 o.ents.length k1) (.slice A2 o.pars.length k2)).toArray 54)=W0:=⟨_,rfl⟩
 rw [hW0] at hO b0 hv0
 have hgW:w.heap.size<W0.heap.size:=by rw [←hW0];simp
 have s0:=b0.size
 have c0:=hO.kind
 have hoE:=Lib.hid ho.ents
 have hoP:=Lib.hid ho.pars
 have htr:=ho.tree
 have hta:=ho.target
 have hen70:=hs.ents
 have hp20:=hs.pars
 have hn0:=OwnLinks.nil W0 W0.heap.size
 obtain ⟨r,hr⟩ : ∃ r,Hid (linksL o=r):=⟨_,Lib.hid rfl⟩
 rw [hr.out]
 clear hv ho hs
 generalize (objC o (.slice A1 o.ents.length k1) (.slice A2 o.pars.length k2)).toArray=cs at *
 by_cases h2:o.kind=2
 ·have hrr:Hid (entLinks o.ents=r):=by show _=_;rw [←links_two h2];exact hr.out
  rw [h2] at c0
  have c2:=hO.ents
  have hat:Hid (0<o.ents.length → ∃ g os,A1=some ⟨g,os,none⟩∧g<W0.heap.size ∧ ∀ i x,o.ents[i]?=some x→W0.rangeAt g (os+i*34) (entC x)):=by
   obtain ⟨A,cap,he,_,_,h⟩:=hv0.ents
   injection he with he _ _
   subst he
   exact h
  clear hr h2 hv0
  go_enter Tryz.func63,Tryz.ntmps63
  go_wp2
  go_loopw [3,15] (fun vo vi wr => ∃ k:Nat,vi = .int .i64 k∧k≤o.ents.length∧OwnLinks wr W0.heap.size vo (entLinks (o.ents.take k))∧Below W0.heap.size W0 wr) (fun _ vi _=>o.ents.length-(intOf vi).toNat)
  case atStart=>exact ⟨0,rfl,by omega,hn0,Below.refl _ _⟩
  case round=>
   obtain ⟨k,rfl,hk,hown,hbel⟩:=hrel
   have hsz:=hbel.size
   clear hW0
   by_cases hlt:k<o.ents.length
   ·have hki:(k:Int)<(o.ents.length:Int):=by omega
    obtain ⟨gs,os,rfl,hgs,hcell⟩:=hat.out (by omega)
    obtain ⟨x,hx⟩ : ∃ x,o.ents[k]?=some x:=⟨_,List.getElem?_eq_getElem hlt⟩
    have hxok:EntOk x:=hoE.out x (List.mem_of_getElem? hx)
    have hx0:=rangeAt_below (hcell k x hx) hgs hbel
    have hst:=Lib.hid (entLinks_take hx)
    have hln:(entLinks (o.ents.take k)).length≤k:=by unfold entLinks;rw [List.length_map,List.length_take];omega
    generalize entLinks (o.ents.take k)=L at *
    have hx32:=hxok.id
    have hbd:=built_link x.id x.kind hx32
    have hcs:=linkC_size (l:=⟨x.id,x.kind⟩) hx32
    have hc1:=linkC_cells ⟨x.id,x.kind⟩
    have m1:L.length+1≤9223372036854775807:=by omega
    have m2:(L.length+1)*40≤140737488355328:=by omega
    have hc33:(linkC ⟨x.id,x.kind⟩).toArray.size=33:=by rw [hcs]
    obtain ⟨vA,kA,rfl⟩:=own_form' hown
    clear hx hat hcell hoE hoP
    go_wp2_with (first
     | ((with_reducible refine lit_load_ent (.tmp 17) gs (os+k*34) x hxok hx0 ?_ ?_);rfl)
     | ((with_reducible refine lit_new_ent (.tmp 5) (.tmp 18) x hxok _ ?_ ?_ ?_ ?_);rfl;rfl;rfl;intro W2 hb2 hbl2
        have cn:=(range_ent (range_blkEnt hb2)).2
        have hci:=range_entId (range_blkEnt hb2)
        have hown2:=own_below hown hbl2
        have bel2:=bthen hbel hsz hbl2
        have sz2:=bel2.size
        clear hown)
     | ((with_reducible refine lit_load_id (.tmp 20) wr.heap.size 2 x.id hx32 hci ?_ ?_);rfl)
     | ((with_reducible refine lit_build2 hbd ?_ ?_ ?_);rfl;rfl)
     | ((with_reducible refine lit_slice1 (.tmp 24) Tryz.linkTy (linkC ⟨x.id,x.kind⟩).toArray hc33 (by omega) ?_ ?_);rfl)
     | (at_builtin
        (with_reducible refine lit_append_new (.tmp 19) (.tmp 25) 1 _ Tryz.linkTy hown2 (linkC ⟨x.id,x.kind⟩).toArray hcs hc1 m1 m2 sz2 ?_ ?_ ?_);rfl;rfl
        intro v3 w3 hv3 hbv3 hgv3 hnv3
        have hmv3:OwnLinks w3 W0.heap.size v3 (L++[⟨x.id,x.kind⟩]):=OwnLinks.more hv3
        have bel3:=bel2.trans hbv3
        clear hgv3 hnv3 hv3))
    have hmv4:OwnLinks w3 W0.heap.size v3 (entLinks (o.ents.take (k+1))):=by rw [hst.out];exact hmv3
    clear hmv3 hst m1 m2
    go_roundw
    case rel=>exact ⟨k+1,by go_num,by omega,hmv4,bel3⟩
    case measure=>simp [intOf];omega
   ·have hki : ¬ (k:Int)<(o.ents.length:Int):=by omega
    have he:Hid (entLinks (o.ents.take k)=r):=by show _=_;rw [List.take_of_length_le (by omega)];exact hrr.out
    rw [he.out] at hown
    clear hat hoE hoP he hrr
    go_wp2
    go_ret
    exact ⟨_,rfl,own_low hown (by omega),b0.trans (hbel.mono s0)⟩
 by_cases h3:o.kind=3
 ·have hrr:Hid (⟨o.tree,2⟩::parLinks o.pars=r):=by show _=_;rw [←links_three h3];exact hr.out
  rw [h3] at c0
  have hat:Hid (0<o.pars.length → ∃ g os,A2=some ⟨g,os,none⟩∧g<W0.heap.size ∧ ∀ i x,o.pars[i]?=some x→W0.rangeAt g (os+i*32) (idC x)):=by
   obtain ⟨A,cap,he,_,_,h⟩:=hv0.pars
   injection he with he _ _
   subst he
   exact h
  have hbd:=built_link o.tree 2 htr
  have hcs:=linkC_size (l:=⟨o.tree,2⟩) htr
  have hc1:=linkC_cells ⟨o.tree,2⟩
  have hc33:(linkC ⟨o.tree,2⟩).toArray.size=33:=by rw [hcs]
  have hti:=hO.tree
  have m1:([]:List LinkL).length+1≤9223372036854775807:=by simp
  have m2:(([]:List LinkL).length+1)*40≤140737488355328:=by simp
  clear hr h2 h3 hv0
  go_enter Tryz.func63,Tryz.ntmps63
  go_wp2_with (first
   | ((with_reducible refine lit_load_id (.tmp 31) w.heap.size 3 o.tree htr hti ?_ ?_);rfl)
   | ((with_reducible refine lit_build2 hbd ?_ ?_ ?_);rfl;rfl)
   | ((with_reducible refine lit_slice1 (.tmp 33) Tryz.linkTy (linkC ⟨o.tree,2⟩).toArray hc33 (by omega) ?_ ?_);rfl)
   | (at_builtin
      (with_reducible refine lit_append_new (.tmp 30) (.tmp 34) 1 _ Tryz.linkTy hn0 (linkC ⟨o.tree,2⟩).toArray hcs hc1 m1 m2 (Nat.le_refl _) ?_ ?_ ?_);rfl;rfl
      intro v3 w3 hv3 hbv3 hgv3 hnv3
      have hmv3:OwnLinks w3 W0.heap.size v3 [⟨o.tree,2⟩]:=OwnLinks.more (o:=[]) hv3
      have c35:=(hO.under hbv3 hgW).pars
      obtain ⟨vA,kA,rfl⟩:=own_form' hmv3
      clear hgv3 hnv3 hv3))
  have s3:=hbv3.size
  clear c35 hW0 c0 hti hbd hcs hc1 hc33 m1 m2 hO
  go_loopw [3,39] (fun vo vi wr => ∃ k:Nat,vi = .int .i64 k∧k≤o.pars.length∧OwnLinks wr W0.heap.size vo (⟨o.tree,2⟩::parLinks (o.pars.take k))∧Below W0.heap.size W0 wr) (fun _ vi _=>o.pars.length-(intOf vi).toNat)
  case atStart=>exact ⟨0,rfl,by omega,hmv3,hbv3⟩
  case round=>
   obtain ⟨k,rfl,hk,hown,hbel⟩:=hrel
   have hsz:=hbel.size
   clear hmv3
   by_cases hlt:k<o.pars.length
   ·have hki:(k:Int)<(o.pars.length:Int):=by omega
    obtain ⟨gs,os,rfl,hgs,hcell⟩:=hat.out (by omega)
    obtain ⟨x,hx⟩ : ∃ x,o.pars[k]?=some x:=⟨_,List.getElem?_eq_getElem hlt⟩
    have hx32:x.length=32:=hoP.out x (List.mem_of_getElem? hx)
    have hx0:wr.rangeAt gs (os+k*32) (u8s x).toList:=rangeAt_below (hcell k x hx) hgs hbel
    have hst:Hid ((⟨o.tree,2⟩::parLinks (o.pars.take (k+1)):List LinkL)=(⟨o.tree,2⟩::parLinks (o.pars.take k))++[⟨x,3⟩]):=by show _=_;rw [parLinks_take hx];simp
    have hln:((⟨o.tree,2⟩::parLinks (o.pars.take k):List LinkL)).length≤k+1:=by unfold parLinks;rw [List.length_cons,List.length_map,List.length_take];omega
    generalize (⟨o.tree,2⟩::parLinks (o.pars.take k):List LinkL)=L at *
    have hbd:=built_link x 3 hx32
    have hcs:=linkC_size (l:=⟨x,3⟩) hx32
    have hc1:=linkC_cells ⟨x,3⟩
    have m1:L.length+1≤9223372036854775807:=by omega
    have m2:(L.length+1)*40≤140737488355328:=by omega
    have hc33:(linkC ⟨x,3⟩).toArray.size=33:=by rw [hcs]
    obtain ⟨vB,kB,rfl⟩:=own_form' hown
    clear hx hat hcell hoE hoP
    go_wp2_with (first
     | ((with_reducible refine lit_load_id (.tmp 41) gs (os+k*32) x hx32 hx0 ?_ ?_);rfl)
     | ((with_reducible refine lit_new_id (.tmp 7) (.tmp 42) x hx32 _ ?_ ?_ ?_ ?_);rfl;rfl;rfl;intro W2 hb2 hbl2
        have hci:=range_blk hb2
        have hown2:=own_below hown hbl2
        have bel2:=bthen hbel hsz hbl2
        have sz2:=bel2.size
        clear hown)
     | ((with_reducible refine lit_load_id (.tmp 7) wr.heap.size 0 x hx32 hci ?_ ?_);rfl)
     | ((with_reducible refine lit_build2 hbd ?_ ?_ ?_);rfl;rfl)
     | ((with_reducible refine lit_slice1 (.tmp 45) Tryz.linkTy (linkC ⟨x,3⟩).toArray hc33 (by omega) ?_ ?_);rfl)
     | (at_builtin
        (with_reducible refine lit_append_new (.tmp 43) (.tmp 46) 1 _ Tryz.linkTy hown2 (linkC ⟨x,3⟩).toArray hcs hc1 m1 m2 sz2 ?_ ?_ ?_);rfl;rfl
        intro v5 w5 hv5 hbv5 hgv5 hnv5
        have hmv5:OwnLinks w5 W0.heap.size v5 (L++[⟨x,3⟩]):=OwnLinks.more hv5
        have bel5:=bel2.trans hbv5
        clear hgv5 hnv5 hv5))
    have hmv6:OwnLinks w5 W0.heap.size v5 (⟨o.tree,2⟩::parLinks (o.pars.take (k+1))):=by rw [hst.out];exact hmv5
    clear hmv5 hst m1 m2
    go_roundw
    case rel=>exact ⟨k+1,by go_num,by omega,hmv6,bel5⟩
    case measure=>simp [intOf];omega
   ·have hki : ¬ (k:Int)<(o.pars.length:Int):=by omega
    have he:Hid ((⟨o.tree,2⟩::parLinks (o.pars.take k):List LinkL)=r):=by show _=_;rw [List.take_of_length_le (by omega)];exact hrr.out
    rw [he.out] at hown
    clear hat hoE hoP he hrr
    go_wp2
    go_ret
    exact ⟨_,rfl,own_low hown (by omega),b0.trans (hbel.mono s0)⟩
 by_cases h4:o.kind=4
 ·have hrr:Hid (([⟨o.target,o.of_⟩]:List LinkL)=r):=by show _=_;rw [←links_four h4];exact hr.out
  rw [h4] at c0
  have hbd:=built_link o.target o.of_ hta
  have hcs:=linkC_size (l:=⟨o.target,o.of_⟩) hta
  have hc1:=linkC_cells ⟨o.target,o.of_⟩
  have hc33:(linkC ⟨o.target,o.of_⟩).toArray.size=33:=by rw [hcs]
  have hti:=hO.target
  have c70:=hO.of_
  have m1:([]:List LinkL).length+1≤9223372036854775807:=by simp
  have m2:(([]:List LinkL).length+1)*40≤140737488355328:=by simp
  clear hr h2 h3 h4 hv0 hO
  go_enter Tryz.func63,Tryz.ntmps63
  go_wp2_with (first
   | ((with_reducible refine lit_load_id (.tmp 52) w.heap.size 38 o.target hta hti ?_ ?_);rfl)
   | ((with_reducible refine lit_build2 hbd ?_ ?_ ?_);rfl;rfl)
   | ((with_reducible refine lit_slice1 (.tmp 56) Tryz.linkTy (linkC ⟨o.target,o.of_⟩).toArray hc33 (by omega) ?_ ?_);rfl)
   | (at_builtin
      (with_reducible refine lit_append_new (.tmp 51) (.tmp 57) 1 _ Tryz.linkTy hn0 (linkC ⟨o.target,o.of_⟩).toArray hcs hc1 m1 m2 (Nat.le_refl _) ?_ ?_ ?_);rfl;rfl
      intro v3 w3 hv3 hbv3 hgv3 hnv3
      have hmv3:OwnLinks w3 W0.heap.size v3 [⟨o.target,o.of_⟩]:=OwnLinks.more (o:=[]) hv3
      obtain ⟨vA,kA,rfl⟩:=own_form' hmv3
      clear hgv3 hnv3 hv3))
  have hmv4:OwnLinks w3 W0.heap.size (.slice vA 1 kA) r:=by rw [←hrr.out];exact hmv3
  clear hmv3
  go_ret
  exact ⟨_,rfl,own_low hmv4 (by omega),b0.trans (hbv3.mono s0)⟩
 have hrr:Hid (([]:List LinkL)=r):=by show _=_;rw [←links_none h2 h3 h4];exact hr.out
 have e2:(o.kind==2)=false:=by rw [beq_eq_false_iff_ne];exact h2
 have e3:(o.kind==3)=false:=by rw [beq_eq_false_iff_ne];exact h3
 have e4:(o.kind==4)=false:=by rw [beq_eq_false_iff_ne];exact h4
 rw [hrr.out] at hn0
 clear hr hO hv0
 go_enter Tryz.func63,Tryz.ntmps63
 go_wp2
 go_ret
 exact ⟨_,rfl,own_low hn0 (by omega),b0⟩
end Go.Proofs.YtlojebhcemfodaaGreatDoor
namespace Go.Proofs.YtlojebhcemfodaaGreatDoor
open Go.RowKit
theorem and127 (c:UInt8):bits .and .u8 (c.toNat:Int) 127=((c.toNat%128:Nat):Int):=by
 have h : ∀ m:Fin 256,bits .and .u8 ((m.val:Nat):Int) 127=((m.val%128:Nat):Int):=by decide +kernel
 exact h ⟨c.toNat,c.toNat_lt⟩
theorem or_shl (N k:Nat) (c:UInt8) (hN:N<128 ^ k) (hf:N+128 ^ k*(c.toNat%128)≤18446744073709551615) :
 bits .or .u64 (N:Int) (IntKind.u64.wrap (IntKind.u64.wrap (bits .and .u8 (c.toNat:Int) 127)*2 ^ (7*k)))=((N+128 ^ k*(c.toNat%128):Nat):Int):=by
 have hp:(128:Nat) ^ k=2 ^ (7*k):=by rw [Nat.pow_mul]
 rw [hp] at hN hf ⊢
 rw [and127,IntWalk.u64_in ((c.toNat%128:Nat):Int) (by omega)]
 have h1:((c.toNat%128:Nat):Int)*2 ^ (7*k)=((2 ^ (7*k)*(c.toNat%128):Nat):Int):=by
  rw [Int.natCast_mul,Int.mul_comm];simp
 rw [h1,IntWalk.u64_in _ (by omega)]
 have h2:=u64_or_nat N (2 ^ (7*k)*(c.toNat%128)) (by omega) (by omega)
 rw [h2,Nat.or_comm,←Nat.two_pow_add_eq_or_of_lt hN,Nat.add_comm]
set_option maxRecDepth 100000 in
set_option maxHeartbeats 800000 in
theorem get_calls (l:List UInt8) (hl:l.length≤4611686018427387904) (w:World) :
 Calls Tryz.prog 92 #[.string (B l)] w fun e w'=>e = .returned (getTriple l (get l)) ∧ ∃ n,w'=w.drewN n:=by
 obtain ⟨M,hmin,hM1,hM2,hM3⟩ : ∃ M:Nat,(if (10:Int)<(l.length:Int) then (10:Int) else (l.length:Int))=(M:Int)∧M≤10∧M≤l.length∧Hid (M=10∨M=l.length):=by
  refine ⟨min l.length 10,?_,by omega,by omega,?_⟩
  ·split<;>omega
  ·show _∨_;omega
 go_enter Tryz.func92,Tryz.ntmps92
 go_wp2
 go_loop [5,11] (fun n i => ∃ k:Nat,i = .int .i64 k∧k≤M∧n = .int .u64 (val7 (l.take k))∧Hid (k≤lead l)) (fun _ i=>10-(intOf i).toNat)
 case atStart=>exact ⟨0,rfl,by omega,rfl,Nat.zero_le _⟩
 case round=>
  obtain ⟨k,rfl,h1,rfl,h3⟩:=hrel
  by_cases hk:k<M
  ·obtain ⟨c,hc⟩ : ∃ c,l[k]=c:=⟨_,rfl⟩
   have hts:=val7_take_succ l k (by omega)
   have hN:=val7_lt (l.take k)
   rw [List.length_take,Nat.min_eq_left (by omega)] at hN
   rw [hc] at hts
   by_cases h9:k=9
   ·subst h9
    by_cases hc1:1<c.toNat
    ·have hfin:Hid (get l=none):=by
      by_cases hbig:128≤c.toNat
      ·exact get_ten (lead_next h3.out (by omega) (by rw [hc];exact hbig))
      ·exact get_nine (by omega) (lead_here h3.out (by omega) (by rw [hc];omega)) (by rw [hc];exact hc1)
     clear hts hN
     go_wp2
     all_goals first | (exfalso;omega) | skip
     go_ret3
     exact ⟨by rw [hfin.out];rfl,0,rfl⟩
    ·have hle:Hid (lead l=9):=lead_here h3.out (by omega) (by rw [hc];omega)
     have hor0:=or_shl (val7 (l.take 9)) 9 c hN (by omega)
     rw [←hts] at hor0
     have hor:bits .or .u64 (val7 (List.take 9 l):Int) (IntKind.u64.wrap (IntKind.u64.wrap (bits .and .u8 (c.toNat:Int) 127)*9223372036854775808))=((val7 (List.take 10 l):Nat):Int):=by
      rw [show (9223372036854775808:Int)=2 ^ (7*9) from by decide]
      exact hor0
     clear hor0
     clear hts hN
     by_cases h0:c.toNat=0
     ·have hfin:Hid (get l=none):=get_zero (by omega) hle.out (by omega) (by rw [hc];exact h0)
      have h0':((c.toNat:Int)==0)=true:=by simp [h0]
      have h0h:=Lib.hid h0
      clear h0
      go_wp2
      all_goals first | (exfalso;omega) | skip
      go_ret3
      exact ⟨by rw [hfin.out];rfl,0,rfl⟩
     ·have hfin:Hid (get l=some (val7 (l.take (9+1)),9+1)):=get_yes (by omega) hle.out (by omega) (fun _=>by rw [hc];omega) (fun _=>by rw [hc];exact h0)
      have h0':((c.toNat:Int)==0)=false:=by simp;omega
      go_wp2
      all_goals first | (exfalso;omega) | skip
      go_quiet (fail)
      go_wp2
      go_ret3
      exact ⟨by rw [hfin.out];rfl,_,rfl⟩
   ·by_cases hd:128≤c.toNat
    ·have hn:Hid (k+1≤lead l):=lead_next h3.out (by omega) (by rw [hc];exact hd)
     have hor:=or_shl (val7 (l.take k)) k c hN (by
      have:128 ^ k*(c.toNat%128)≤128 ^ k*127:=Nat.mul_le_mul_left _ (by omega)
      have:128 ^ k≤128 ^ 8:=Nat.pow_le_pow_right (by omega) (by omega)
      omega)
     rw [←hts] at hor
     clear hts hN
     go_wp2
     all_goals first | (exfalso;omega) | skip
     go_round
     case rel=>exact ⟨k+1,by go_num,by omega,rfl,hn⟩
     case measure=>simp [intOf];omega
    ·have hle:Hid (lead l=k):=lead_here h3.out (by omega) (by rw [hc];omega)
     have hor:=or_shl (val7 (l.take k)) k c hN (by
      have:128 ^ k*(c.toNat%128)≤128 ^ k*127:=Nat.mul_le_mul_left _ (by omega)
      have:128 ^ k≤128 ^ 8:=Nat.pow_le_pow_right (by omega) (by omega)
      omega)
     rw [←hts] at hor
     clear hts hN
     by_cases h0:0<k∧c.toNat=0
     ·obtain ⟨h0k,h0c⟩:=h0
      have hfin:Hid (get l=none):=get_zero (by omega) hle.out h0k (by rw [hc];exact h0c)
      have h0':((c.toNat:Int)==0)=true:=by simp [h0c]
      have h0h:=Lib.hid h0c
      clear h0c
      go_wp2
      all_goals first | (exfalso;omega) | skip
      go_ret3
      exact ⟨by rw [hfin.out];rfl,0,rfl⟩
     ·have hfin:Hid (get l=some (val7 (l.take (k+1)),k+1)):=get_yes (by omega) hle.out (by omega) (fun _=>by omega) (fun h=>by rw [hc];omega)
      by_cases h0k : ¬ 0<k
      ·by_cases h0c:c.toNat=0
       ·have h0':((c.toNat:Int)==0)=true:=by simp [h0c]
        have h0h:=Lib.hid h0c
        clear h0c h0
        go_wp2
        all_goals first | (exfalso;omega) | skip
        go_quiet (fail)
        go_wp2
        go_ret3
        exact ⟨by rw [hfin.out];rfl,_,rfl⟩
       ·have h0':((c.toNat:Int)==0)=false:=by simp;omega
        go_wp2
        all_goals first | (exfalso;omega) | skip
        go_quiet (fail)
        go_wp2
        go_ret3
        exact ⟨by rw [hfin.out];rfl,_,rfl⟩
      ·have h0':((c.toNat:Int)==0)=false:=by simp;omega
       go_wp2
       all_goals first | (exfalso;omega) | skip
       go_quiet (fail)
       go_wp2
       go_ret3
       exact ⟨by rw [hfin.out];rfl,_,rfl⟩
  ·have hfin:Hid (get l=none):=by
    have h3':=h3.out
    rcases hM3.out with h | h
    ·exact get_ten (by omega)
    ·exact get_end (by omega)
   go_wp2
   all_goals first | (exfalso;omega) | skip
   go_ret3
   exact ⟨by rw [hfin.out];rfl,0,rfl⟩
end Go.Proofs.YtlojebhcemfodaaGreatDoor
namespace Go.Proofs.YtlojebhcemfodaaGreatDoor
open Go.RowKit
def zObj : Array Value:=(objC ⟨0,[],[],noId,[],0,[],noId,0,[]⟩ (.slice none 0 0) (.slice none 0 0)).toArray
theorem built_zObj : Tryz.prog.built 54 []=some zObj:=by kernel_rfl
theorem zObj_size : zObj.size=72:=by kernel_rfl
theorem zObj_one : zObj.all (·.oneCell')=true:=by kernel_rfl
end Go.Proofs.YtlojebhcemfodaaGreatDoor
namespace Go.Proofs.YtlojebhcemfodaaGreatDoor
open Go.RowKit
theorem zeroObj (W:World):(zeroValue 54).run Tryz.prog W = .ok (.agg zObj) W:=by
 have h:(Tryz.prog.info? 54).map (·.zero)=some (some (.agg zObj)):=by kernel_rfl
 obtain ⟨i,h1,h2⟩:=Option.map_eq_some_iff.1 h
 simp [zeroValue,typeInfo,h1,h2]
theorem sizedObj : (Tryz.prog.info? 54).map (·.size)=some zObj.size:=by rw [zObj_size];exact szObj
end Go.Proofs.YtlojebhcemfodaaGreatDoor
namespace Go.Proofs.YtlojebhcemfodaaGreatDoor
open Go.RowKit
/-- A block holds a reader. -/
def RdB (w:World) (g:Nat) (r:Rd):Prop:=Blk w g 144 #[.string (B r.1), .bool r.2]
theorem RdB.c0 {w:World} {g:Nat} {r:Rd} (h:RdB w g r):w.cell? ⟨g,0,none⟩=some (.string (B r.1)):=by rw [Blk.cell h];rfl
theorem RdB.c1 {w:World} {g:Nat} {r:Rd} (h:RdB w g r):w.cell? ⟨g,1,none⟩=some (.bool r.2):=by rw [Blk.cell h];rfl
theorem RdB.f {w:World} {g:Nat} {r:Rd} (h:RdB w g r) (i:Nat):w.frozen? ⟨g,i,none⟩=false:=Blk.frozen h i
theorem RdB.bad {w:World} {g:Nat} {r:Rd} (h:RdB w g r):RdB (w.setCell ⟨g,1,none⟩ (.bool true)) g (r.1,true):=Blk.set_ h 1 _
theorem RdB.rest {w:World} {g:Nat} {r:Rd} (h:RdB w g r) (s:Txt):RdB (w.setCell ⟨g,0,none⟩ (.string (B s))) g (s,r.2):=Blk.set_ h 0 _
theorem RdB.drewN {w:World} {g:Nat} {r:Rd} (h:RdB w g r) (n:Nat):RdB (w.drewN n) g r:=Blk.drewN h n
theorem RdB.below {w w':World} {g:Nat} {r:Rd} (h:RdB w g r) (hb:Below w.heap.size w w'):RdB w' g r:=(hb.block g (Blk.lt h)).trans h
theorem rBytes_bad {n:Nat} {r:Rd} (h:r.2=true∨r.1.length<n):rBytes n r=([],(r.1,true)):=by unfold rBytes;rw [if_pos h]
theorem rBytes_ok {n:Nat} {r:Rd} (h1:r.2=false) (h:n≤r.1.length):rBytes n r=(r.1.take n,(r.1.drop n,false)):=by unfold rBytes;rw [if_neg (by rw [h1];simp;omega)]
set_option maxRecDepth 100000 in
set_option maxHeartbeats 2000000 in
theorem rb_calls (n:Nat) (r:Rd) (hr:r.1.length≤100000) (hn:n≤100000) (g:Nat) (w:World) (hb:RdB w g r):Calls Tryz.prog 93 #[.pointer (some ⟨g,0,none⟩), .int .i64 n] w fun e w'=>e = .returned (.string (B (rBytes n r).1))∧RdB w' g (rBytes n r).2∧Far [some g] w w':=by
 obtain ⟨s,b⟩:=r
 have c0:=hb.c0
 have c1:=hb.c1
 have f0:=hb.f 0
 have f1:=hb.f 1
 simp only at c0 c1 hr
 cases b with
 | true=>
   rw [rBytes_bad (.inl rfl)]
   have hb2:=hb.bad
   have hfar:Far [some g] w (w.setCell ⟨g,1,none⟩ (.bool true)):=(Far.refl _ _).set_ (.inl (by simp)) _
   go_enter Tryz.func93,Tryz.ntmps93
   go_wp2
   go_ret
   exact ⟨rfl,hb2,hfar⟩
 | false=>
   by_cases hlt:s.length<n
   ·have hli:(s.length:Int)<(n:Int):=by omega
    rw [rBytes_bad (.inr hlt)]
    have hb2:=hb.bad
    have hfar:Far [some g] w (w.setCell ⟨g,1,none⟩ (.bool true)):=(Far.refl _ _).set_ (.inl (by simp)) _
    go_enter Tryz.func93,Tryz.ntmps93
    go_wp2
    all_goals try (exfalso;omega)
    go_ret
    exact ⟨rfl,hb2,hfar⟩
   ·have hli : ¬ (s.length:Int)<(n:Int):=by omega
    have hle:n≤s.length:=by omega
    have hlei:(n:Int)≤(s.length:Int):=by omega
    rw [rBytes_ok rfl hle]
    have x1:(B s).extract 0 n=B (s.take n):=extract_B_to s n
    have x2:(B s).extract n s.length=B (s.drop n):=extract_B_from s n
    have hb2:=hb.rest (s.drop n)
    have hfar:Far [some g] w (w.setCell ⟨g,0,none⟩ (.string (B (s.drop n)))):=(Far.refl _ _).set_ (.inl (by simp)) _
    go_enter Tryz.func93,Tryz.ntmps93
    go_wp2
    all_goals try (exfalso;omega)
    go_ret
    exact ⟨rfl,hb2,hfar⟩
end Go.Proofs.YtlojebhcemfodaaGreatDoor
namespace Go.Proofs.YtlojebhcemfodaaGreatDoor
open Go.RowKit
def takeV (s:Txt):Value:=match takeP s with
 | some (t,q) => .tuple #[.string (B t), .string (B q), .int .i64 0]
 | none => .tuple #[.string (B []), .string (B []), .int .i64 2]
theorem takeV_some {s t q:Txt} (h:takeP s=some (t,q)):takeV s = .tuple #[.string (B t), .string (B q), .int .i64 0]:=by unfold takeV;rw [h]
theorem takeV_none {s:Txt} (h:takeP s=none):takeV s = .tuple #[.string (B []), .string (B []), .int .i64 2]:=by unfold takeV;rw [h]
set_option maxRecDepth 100000 in
set_option maxHeartbeats 800000 in
theorem take_calls (s:Txt) (hs:s.length≤4611686018427387904) (w:World):Calls Tryz.prog 74 #[.string (B s)] w fun e w'=>e = .returned (takeV s) ∧ ∃ n,w'=w.drewN n:=by
 have hget:=get_calls s hs w
 obtain ⟨r,hr⟩ : ∃ r,Hid (takeV s=r):=⟨_,Lib.hid rfl⟩
 rw [hr.out]
 cases h:get s with
 | none=>
   rw [h] at hget
   have hget:Calls Tryz.prog 92 #[.string (B s)] w fun e w'=>e = .returned (.tuple #[.int .u64 0, .string (B []), .int .i64 2]) ∧ ∃ n,w'=w.drewN n:=hget
   have hget:=Lib.hid hget
   have hrr:Hid (_=r):=(takeV_none (takeP_none h)).symm.trans hr.out
   clear h hr
   go_enter Tryz.func74,Tryz.ntmps74
   go_wp2_with (first
    | ((with_reducible refine hget.out.mono ?_);rintro e w1 ⟨rfl,nq,rfl⟩))
   go_ret3
   exact ⟨by rw [←hrr.out];rfl,nq,rfl⟩
 | some p=>
   obtain ⟨n,k⟩:=p
   rw [h] at hget
   have hget:Calls Tryz.prog 92 #[.string (B s)] w fun e w'=>e = .returned (.tuple #[.int .u64 n, .string (B (s.drop k)), .int .i64 0]) ∧ ∃ n,w'=w.drewN n:=hget
   have hget:=Lib.hid hget
   have hle:(s.drop k).length≤s.length:=by rw [List.length_drop];omega
   by_cases hlt:(s.drop k).length<n
   ·have hrr:Hid (_=r):=(takeV_none (takeP_short h hlt)).symm.trans hr.out
    generalize s.drop k=R at *
    have hi:(R.length:Int)<(n:Int):=by omega
    clear h hr
    go_enter Tryz.func74,Tryz.ntmps74
    go_wp2_with (first
     | ((with_reducible refine hget.out.mono ?_);rintro e w1 ⟨rfl,nq,rfl⟩))
    all_goals try (exfalso;omega)
    go_ret3
    exact ⟨by rw [←hrr.out];rfl,nq,rfl⟩
   ·have hrr:Hid (_=r):=(takeV_some (takeP_yes h (by omega))).symm.trans hr.out
    generalize s.drop k=R at *
    have hi : ¬ (R.length:Int)<(n:Int):=by omega
    have hle2:(n:Int)≤(R.length:Int):=by omega
    have hle3:n≤R.length:=by omega
    have x1:(B R).extract 0 n=B (R.take n):=extract_B_to R n
    have x2:(B R).extract n R.length=B (R.drop n):=extract_B_from R n
    clear h hr
    go_enter Tryz.func74,Tryz.ntmps74
    go_wp2_with (first
     | ((with_reducible refine hget.out.mono ?_);rintro e w1 ⟨rfl,nq,rfl⟩))
    all_goals try (exfalso;omega)
    go_quiet (fail)
    go_wp2
    go_ret3
    exact ⟨by rw [←hrr.out];rfl,_,World.drewN_drewN _ _ _⟩
def takeNV (s:Txt):Value := .tuple #[.string (B (takeN s).1), .int .i64 (takeN s).2]
set_option maxRecDepth 100000 in
set_option maxHeartbeats 800000 in
theorem refTake_calls (s:Txt) (hs:s.length≤4611686018427387904) (w:World):Calls Tryz.prog 108 #[.string (B s)] w fun e w'=>e = .returned (takeNV s)∧w'=w:=by
 have hget:=refGet_calls s hs w
 have hgg:getPair (get s) = .tuple #[.int .u64 (getN s).1, .int .i64 (getN s).2]:=by
  unfold getN
  cases get s<;>rfl
 rw [hgg] at hget
 have hget:=Lib.hid hget
 have hb1:=getN_le s
 have hb2:=getN_num s
 obtain ⟨r,hr⟩ : ∃ r,Hid (takeNV s=r):=⟨_,Lib.hid rfl⟩
 rw [hr.out]
 have hr0 := @takeN_zero s
 have hr1 := @takeN_short s
 have hr2 := @takeN_yes s
 unfold takeNV at hr
 generalize (getN s).1=n at *
 generalize (getN s).2=k at *
 by_cases h0:k=0
 ·have hrr:Hid (_=r):=(by rw [←hr.out,hr0 h0];rfl:Value.tuple #[.string (B []), .int .i64 0]=r)
  have i0:(k:Int)=0:=by omega
  clear hr hr0 hr1 hr2 hgg
  subst h0
  go_enter Tryz.func108,Tryz.ntmps108
  go_wp2_with (first
   | ((with_reducible refine hget.out.mono ?_);rintro e w1 ⟨rfl,rfl⟩))
  all_goals try (exfalso;omega)
  go_ret2
  exact ⟨by rw [←hrr.out];rfl,rfl⟩
 ·have i0 : ¬ (k:Int)=0:=by omega
  have i1:1≤k:=by omega
  have x0:IntKind.u64.wrap ((s.length:Int)-(k:Int))=((s.length-k:Nat):Int):=by
   rw [IntWalk.u64_in _ (by omega)];omega
  by_cases hlt:s.length-k<n
  ·have hrr:Hid (_=r):=(by rw [←hr.out,hr1 h0 hlt];rfl:Value.tuple #[.string (B []), .int .i64 0]=r)
   have hi:((s.length-k:Nat):Int)<(n:Int):=by omega
   have hj:(s.length:Int)-(k:Int)<(n:Int):=by omega
   clear hr hr0 hr1 hr2 hgg h0 hlt x0
   go_enter Tryz.func108,Tryz.ntmps108
   go_wp2_with (first
    | ((with_reducible refine hget.out.mono ?_);rintro e w1 ⟨rfl,rfl⟩))
   all_goals try (exfalso;omega)
   go_ret2
   exact ⟨by rw [←hrr.out];rfl,rfl⟩
  ·have hrr:Hid (_=r):=(by rw [←hr.out,hr2 h0 (by omega)];rfl:Value.tuple #[.string (B ((s.drop k).take n)), .int .i64 ((k:Int)+(n:Int))]=r)
   have hi : ¬ ((s.length-k:Nat):Int)<(n:Int):=by omega
   have hj : ¬ (s.length:Int)-(k:Int)<(n:Int):=by omega
   have y0:k+n≤s.length:=by omega
   have x1:(B s).extract k (k+n)=B ((s.drop k).take n):=by rw [extract_B];rw [Nat.add_sub_cancel_left]
   clear hr hr0 hr1 hr2 hgg h0 hlt x0
   go_enter Tryz.func108,Tryz.ntmps108
   go_wp2_with (first
    | ((with_reducible refine hget.out.mono ?_);rintro e w1 ⟨rfl,rfl⟩))
   all_goals try (exfalso;omega)
   go_ret2
   refine ⟨?_,rfl⟩
   rw [←hrr.out]
   show Ending.returned (.tuple #[.string (B ((s.drop k).take (k+n-k))), .int .i64 ((k:Int)+(n:Int))])=_
   rw [Nat.add_sub_cancel_left]
end Go.Proofs.YtlojebhcemfodaaGreatDoor
namespace Go.Proofs.YtlojebhcemfodaaGreatDoor
open Go.RowKit
theorem rNum_bad {r:Rd} (h:r.2=true∨get r.1=none):rNum r=(0,(r.1,true)):=by
 unfold rNum
 rcases h with h | h
 ·rw [if_pos h]
 ·split
  ·rfl
  ·rw [h]
theorem rNum_ok {r:Rd} {n k:Nat} (h1:r.2=false) (h:get r.1=some (n,k)):rNum r=(n,(r.1.drop k,false)):=by unfold rNum;rw [if_neg (by rw [h1];simp),h]
theorem rText_bad {r:Rd} (h:r.2=true∨takeP r.1=none):rText r=([],(r.1,true)):=by
 unfold rText
 rcases h with h | h
 ·rw [if_pos h]
 ·split
  ·rfl
  ·rw [h]
theorem rText_ok {r:Rd} {t q:Txt} (h1:r.2=false) (h:takeP r.1=some (t,q)):rText r=(t,(q,false)):=by unfold rText;rw [if_neg (by rw [h1];simp),h]
set_option maxRecDepth 100000 in
set_option maxHeartbeats 2000000 in
theorem rn_calls (r:Rd) (hr:r.1.length≤100000) (g:Nat) (w:World) (hb:RdB w g r):Calls Tryz.prog 97 #[.pointer (some ⟨g,0,none⟩)] w fun e w'=>e = .returned (.int .u64 (rNum r).1)∧RdB w' g (rNum r).2∧Far [some g] w w':=by
 obtain ⟨s,b⟩:=r
 have c0:=hb.c0
 have c1:=hb.c1
 have f0:=hb.f 0
 have f1:=hb.f 1
 simp only at c0 c1 hr
 have hget:=get_calls s (by omega) w
 by_cases hbad:b=true∨get s=none
 ·rw [rNum_bad hbad]
  have hb2:=fun n=>(hb.drewN n).bad
  have hfar : ∀ n,Far [some g] w ((w.drewN n).setCell ⟨g,1,none⟩ (.bool true)):=fun n=>((Far.refl _ _).drewN n).set_ (.inl (by simp)) _
  cases hg:get s with
  | none=>
    rw [hg] at hget
    have hget:Calls Tryz.prog 92 #[.string (B s)] w fun e w'=>e = .returned (.tuple #[.int .u64 0, .string (B []), .int .i64 2]) ∧ ∃ n,w'=w.drewN n:=hget
    have hget:=Lib.hid hget
    clear hbad hg
    cases b
    all_goals
     go_enter Tryz.func97,Tryz.ntmps97
     go_wp2_with (first
      | ((with_reducible refine hget.out.mono ?_);rintro e w1 ⟨rfl,nq,rfl⟩))
     go_ret
     exact ⟨rfl,hb2 nq,hfar nq⟩
  | some p=>
    obtain ⟨n,k⟩:=p
    have hbt:b=true:=by
     rcases hbad with h | h
     ·exact h
     ·rw [hg] at h;cases h
    subst hbt
    rw [hg] at hget
    have hget:Calls Tryz.prog 92 #[.string (B s)] w fun e w'=>e = .returned (.tuple #[.int .u64 n, .string (B (s.drop k)), .int .i64 0]) ∧ ∃ n,w'=w.drewN n:=hget
    have hget:=Lib.hid hget
    clear hbad hg
    go_enter Tryz.func97,Tryz.ntmps97
    go_wp2_with (first
     | ((with_reducible refine hget.out.mono ?_);rintro e w1 ⟨rfl,nq,rfl⟩))
    go_ret
    exact ⟨rfl,hb2 nq,hfar nq⟩
 ·cases b with
  | true=>exact absurd (.inl rfl) hbad
  | false=>
    cases hg:get s with
    | none=>exact absurd (.inr hg) hbad
    | some p=>
      obtain ⟨n,k⟩:=p
      rw [rNum_ok rfl hg]
      rw [hg] at hget
      have hget:Calls Tryz.prog 92 #[.string (B s)] w fun e w'=>e = .returned (.tuple #[.int .u64 n, .string (B (s.drop k)), .int .i64 0]) ∧ ∃ n,w'=w.drewN n:=hget
      have hget:=Lib.hid hget
      have hb2:=fun n=>(hb.drewN n).rest (s.drop k)
      have hfar : ∀ n,Far [some g] w ((w.drewN n).setCell ⟨g,0,none⟩ (.string (B (s.drop k)))):=fun n=>((Far.refl _ _).drewN n).set_ (.inl (by simp)) _
      clear hbad hg
      go_enter Tryz.func97,Tryz.ntmps97
      go_wp2_with (first
       | ((with_reducible refine hget.out.mono ?_);rintro e w1 ⟨rfl,nq,rfl⟩))
      go_ret
      exact ⟨rfl,hb2 nq,hfar nq⟩
set_option maxRecDepth 100000 in
set_option maxHeartbeats 2000000 in
theorem rt_calls (r:Rd) (hr:r.1.length≤100000) (g:Nat) (w:World) (hb:RdB w g r):Calls Tryz.prog 95 #[.pointer (some ⟨g,0,none⟩)] w fun e w'=>e = .returned (.string (B (rText r).1))∧RdB w' g (rText r).2∧Far [some g] w w':=by
 obtain ⟨s,b⟩:=r
 have c0:=hb.c0
 have c1:=hb.c1
 have f0:=hb.f 0
 have f1:=hb.f 1
 simp only at c0 c1 hr
 have htk:=take_calls s (by omega) w
 by_cases hbad:b=true∨takeP s=none
 ·rw [rText_bad hbad]
  have hb2:=fun n=>(hb.drewN n).bad
  have hfar : ∀ n,Far [some g] w ((w.drewN n).setCell ⟨g,1,none⟩ (.bool true)):=fun n=>((Far.refl _ _).drewN n).set_ (.inl (by simp)) _
  cases hg:takeP s with
  | none=>
    rw [takeV_none hg] at htk
    have htk:=Lib.hid htk
    clear hbad hg
    cases b
    all_goals
     go_enter Tryz.func95,Tryz.ntmps95
     go_wp2_with (first
      | ((with_reducible refine htk.out.mono ?_);rintro e w1 ⟨rfl,nq,rfl⟩))
     go_ret
     exact ⟨rfl,hb2 nq,hfar nq⟩
  | some p=>
    obtain ⟨t,q⟩:=p
    have hbt:b=true:=by
     rcases hbad with h | h
     ·exact h
     ·rw [hg] at h;cases h
    subst hbt
    rw [takeV_some hg] at htk
    have htk:=Lib.hid htk
    clear hbad hg
    go_enter Tryz.func95,Tryz.ntmps95
    go_wp2_with (first
     | ((with_reducible refine htk.out.mono ?_);rintro e w1 ⟨rfl,nq,rfl⟩))
    go_ret
    exact ⟨rfl,hb2 nq,hfar nq⟩
 ·cases b with
  | true=>exact absurd (.inl rfl) hbad
  | false=>
    cases hg:takeP s with
    | none=>exact absurd (.inr hg) hbad
    | some p=>
      obtain ⟨t,q⟩:=p
      rw [rText_ok rfl hg]
      rw [takeV_some hg] at htk
      have htk:=Lib.hid htk
      have hb2:=fun n=>(hb.drewN n).rest q
      have hfar : ∀ n,Far [some g] w ((w.drewN n).setCell ⟨g,0,none⟩ (.string (B q))):=fun n=>((Far.refl _ _).drewN n).set_ (.inl (by simp)) _
      clear hbad hg
      go_enter Tryz.func95,Tryz.ntmps95
      go_wp2_with (first
       | ((with_reducible refine htk.out.mono ?_);rintro e w1 ⟨rfl,nq,rfl⟩))
      go_ret
      exact ⟨rfl,hb2 nq,hfar nq⟩
theorem rKind_bad {r:Rd} (h:r.2=true∨r.1.length<1):rKind r=(0,(r.1,true)):=by unfold rKind;rw [rBytes_bad h];rfl
theorem rKind_ok {c:UInt8} {q:Txt}:rKind (c::q,false)=(c.toNat,(q,false)):=by unfold rKind;rw [rBytes_ok rfl (by simp)];rfl
set_option maxRecDepth 100000 in
set_option maxHeartbeats 2000000 in
theorem rk_calls (r:Rd) (hr:r.1.length≤100000) (g:Nat) (w:World) (hb:RdB w g r):Calls Tryz.prog 94 #[.pointer (some ⟨g,0,none⟩)] w fun e w'=>e = .returned (.int .i64 (rKind r).1)∧RdB w' g (rKind r).2∧Far [some g] w w':=by
 have hcall:=rb_calls 1 r hr (by omega) g w hb
 by_cases hbad:r.2=true∨r.1.length<1
 ·rw [rKind_bad hbad]
  rw [rBytes_bad hbad] at hcall
  have hcall:Calls Tryz.prog 93 #[.pointer (some ⟨g,0,none⟩), .int .i64 1] w fun e w'=>e = .returned (.string (B []))∧RdB w' g (r.1,true)∧Far [some g] w w':=hcall
  have hcall:=Lib.hid hcall
  clear hb hbad
  go_enter Tryz.func94,Tryz.ntmps94
  go_wp2_with (first
   | ((with_reducible refine hcall.out.mono ?_);rintro e w1 ⟨rfl,hb1,hf1⟩
      have c1:w1.cell? ⟨g,1,none⟩=some (.bool true):=hb1.c1))
  go_ret
  exact ⟨rfl,hb1,hf1⟩
 ·obtain ⟨s,b⟩:=r
  cases b with
  | true=>exact absurd (.inl rfl) hbad
  | false=>
    match s,hbad with
    | [],hbad=>exact absurd (.inr (by simp)) hbad
    | c::q,_=>
      rw [rKind_ok]
      rw [rBytes_ok rfl (by simp)] at hcall
      have hcall:Calls Tryz.prog 93 #[.pointer (some ⟨g,0,none⟩), .int .i64 1] w fun e w'=>e = .returned (.string (B [c]))∧RdB w' g (q,false)∧Far [some g] w w':=hcall
      have hcall:=Lib.hid hcall
      have hc0:0≤(c.toNat:Int):=by omega
      have hc1:(c.toNat:Int)<256:=by have:=c.toNat_lt;omega
      clear hb
      go_enter Tryz.func94,Tryz.ntmps94
      go_wp2_with (first
       | ((with_reducible refine hcall.out.mono ?_);rintro e w1 ⟨rfl,hb1,hf1⟩
          have c1:w1.cell? ⟨g,1,none⟩=some (.bool false):=hb1.c1))
      go_ret
      exact ⟨rfl,hb1,hf1⟩
end Go.Proofs.YtlojebhcemfodaaGreatDoor
namespace Go.Proofs.YtlojebhcemfodaaGreatDoor
open Go.RowKit
theorem ofNat_toNat (n:Nat) (h:n<256):(UInt8.ofNat n).toNat=n:=by simp [Nat.mod_eq_of_lt h]
theorem lead_split : ∀ (i:List UInt8) (c:UInt8) (r:List UInt8),(∀ x∈i,128≤x.toNat)→c.toNat<128→lead (i++c::r)=i.length
 | [],c,r,_,hc=>by rw [List.nil_append,lead,if_neg (by omega)];rfl
 | x::i,c,r,hi,hc=>by
   rw [List.cons_append,lead,if_pos (hi x (by simp)),lead_split i c r (fun y hy=>hi y (by simp [hy])) hc]
   rfl
theorem putF_split (f:Nat) : ∀ n,Fits f n → ∃ (i:List UInt8) (c:UInt8),putF f n=i++[c]∧(∀ x∈i,128≤x.toNat)∧c.toNat<128∧i.length≤f∧val7 (putF f n)=n∧(i≠[]→c.toNat≠0)∧(i.length=f→c.toNat<2):=by
 induction f with
 | zero=>
   intro n h
   have h0:n<2:=by unfold Fits at h;omega
   refine ⟨[],UInt8.ofNat n,rfl,by simp,?_,by simp,?_,by simp,?_⟩
   ·simp;omega
   ·simp [putF,val7];omega
   ·intro _;simp;omega
 | succ f ih=>
   intro n h
   by_cases hn:n<128
   ·rw [putF_small _ _ hn]
    refine ⟨[],UInt8.ofNat n,rfl,by simp,?_,by simp,?_,by simp,by simp⟩
    ·simp;omega
    ·simp [val7];omega
   ·obtain ⟨i,c,h1,h2,h3,h4,h5,h6,h7⟩:=ih (n / 128) h.next
    rw [putF_big f n (by omega)]
    refine ⟨UInt8.ofNat (128+n%128)::i,c,by rw [h1];rfl,?_,h3,by simpa using h4,?_,?_,?_⟩
    ·intro x hx
     rcases List.mem_cons.1 hx with rfl | hx
     ·rw [ofNat_toNat _ (by omega)];omega
     ·exact h2 x hx
    ·rw [val7,h5,ofNat_toNat _ (by omega)];omega
    ·intro _
     by_cases hi:i=[]
     ·subst hi
      intro hc
      rw [h1] at h5
      simp [val7] at h5
      omega
     ·exact h6 hi
    ·intro hl
     exact h7 (by simpa using hl)
/-- A number is read as it was written, whatever stands behind it. -/
theorem get_put (n:Nat) (h:n≤18446744073709551615) (r:List UInt8):get (put n++r)=some (n,(put n).length):=by
 obtain ⟨i,c,h1,h2,h3,h4,h5,h6,h7⟩:=putF_split 9 n (Fits.of64 h)
 have hp:put n=i++[c]:=h1
 have hl:lead (put n++r)=i.length:=by rw [hp,List.append_assoc];exact lead_split i c r h2 h3
 have hlen:(put n).length=i.length+1:=by rw [hp];simp
 have hat:(put n++r)[i.length]'(by rw [List.length_append];omega)=c:=by simp [hp]
 have ht:(put n++r).take (i.length+1)=put n:=by rw [←hlen,List.take_left]
 rw [get_yes (e:=i.length) (by rw [List.length_append];omega) hl (by omega) (fun h9=>by rw [hat];have:=h7 h9;omega) (fun h0=>by rw [hat];exact h6 (by intro hi;rw [hi] at h0;simp at h0)),ht,hlen]
 exact congrArg (fun v=>some (v,i.length+1)) h5
/-- How a text of steps is unpacked behind some bytes. -/
def un (s out:List UInt8) (most:Nat):List UInt8×Nat:=unF s.length s out most
theorem unF_fuel : ∀ (fu:Nat) (s out:List UInt8) (most:Nat),s.length≤fu→unF fu s out most=un s out most:=by
 intro fu
 induction fu using Nat.strongRecOn with
 | _ fu ih=>
   intro s out most hs
   cases s with
   | nil=>rw [unF_nil,un,unF_nil]
   | cons c r=>
     obtain ⟨g,rfl⟩ : ∃ g,fu=g+1:=⟨fu-1,by simp at hs;omega⟩
     unfold un
     rw [List.length_cons]
     have hne:c::r≠[]:=by simp
     rw [List.length_cons] at hs
     rcases hrd:rd (c::r) out.length with _ | ⟨n,f,t⟩
     ·rw [unF_bad hne hrd,unF_bad hne hrd]
     ·obtain ⟨_,q2,_⟩:=rd_bounds hrd
      rw [List.length_cons] at q2
      by_cases hb:most-out.length<n
      ·rw [unF_big hne hrd hb,unF_big hne hrd hb]
      ·by_cases hf:f=0
       ·subst hf
        have hd:(t.drop n).length≤t.length:=by rw [List.length_drop];omega
        rw [unF_plain hne hrd (by omega),unF_plain hne hrd (by omega),ih g (by omega) _ _ _ (by omega)]
        by_cases hg:r.length=g
        ·rw [hg,ih g (by omega) _ _ _ (by omega)]
        ·rw [ih r.length (by omega) _ _ _ (by omega)]
       ·rw [unF_far hne hrd hf (by omega),unF_far hne hrd hf (by omega),ih g (by omega) _ _ _ (by omega)]
        by_cases hg:r.length=g
        ·rw [hg,ih g (by omega) _ _ _ (by omega)]
        ·rw [ih r.length (by omega) _ _ _ (by omega)]
section
variable {most n f:Nat} {s out r:List UInt8}
theorem un_big (hs:s≠[]) (h:rd s out.length=some (n,f,r)) (hb:most-out.length<n):un s out most=([],3):=by
 obtain ⟨c,t,rfl⟩ : ∃ c t,s=c::t:=by cases s with
  | nil=>exact absurd rfl hs
  | cons c t=>exact ⟨c,t,rfl⟩
 exact unF_big hs h hb
theorem un_far (hs:s≠[]) (h:rd s out.length=some (n,f,r)) (hf:f≠0) (hb:n≤most-out.length):un s out most=un r (back n f out) most:=by
 obtain ⟨c,t,rfl⟩ : ∃ c t,s=c::t:=by cases s with
  | nil=>exact absurd rfl hs
  | cons c t=>exact ⟨c,t,rfl⟩
 obtain ⟨_,q2,_⟩:=rd_bounds h
 rw [List.length_cons] at q2
 unfold un
 rw [List.length_cons,unF_far hs h hf hb]
 exact unF_fuel _ _ _ _ (by omega)
end
/-- The text e leads from the bytes o to the bytes t; with fewer bytes let, it is told. -/
def Leads (e o t:List UInt8):Prop:=
 o.length≤t.length∧(∀ r most,t.length≤most→un (e++r) o most=un r t most) ∧ ∀ r most,o.length≤most→most<t.length→un (e++r) o most=([],3)
theorem Leads.refl (o:List UInt8):Leads [] o o:=⟨Nat.le_refl _,fun r most _=>rfl,fun r most h1 h2=>absurd h2 (by omega)⟩
theorem Leads.trans {e e' o t t':List UInt8} (h:Leads e o t) (h':Leads e' t t'):Leads (e++e') o t':=by
 refine ⟨Nat.le_trans h.1 h'.1,fun r most hm=>?_,fun r most h1 h2=>?_⟩
 ·rw [List.append_assoc,h.2.1 _ _ (Nat.le_trans h'.1 hm),h'.2.1 _ _ hm]
 ·rw [List.append_assoc]
  rcases Nat.lt_or_ge most t.length with hlt | hge
  ·exact h.2.2 _ _ h1 hlt
  ·rw [h.2.1 _ _ hge,h'.2.2 _ _ hge h2]
theorem put_ne (n:Nat) (r:List UInt8):put n++r≠[]:=by
 intro h
 have h1:=congrArg List.length h
 have h2:0<(put n).length:=putF_pos 9 n
 rw [List.length_append,List.length_nil] at h1
 omega
/-- A step that copies from back. -/
theorem Leads.far (n f:Nat) (o:List UInt8) (h0:4≤n) (h1:2*n+1≤18446744073709551615) (h2:1≤f) (h3:f≤65535) (h4:f≤o.length):Leads (put (2*n+1)++put f) o (back n f o):=by
 have hrd : ∀ r,rd (put (2*n+1)++put f++r) o.length=some (n,f,r):=by
  intro r
  have hg:=get_put (2*n+1) h1 (put f++r)
  rw [←List.append_assoc] at hg
  have hd:(put (2*n+1)++put f++r).drop (put (2*n+1)).length=put f++r:=by rw [List.append_assoc,List.drop_left]
  have hg2:=get_put f (by omega) r
  rw [rd_far hg (by omega) (by rw [hd];exact hg2) (by omega) h2 h3 h4,hd,List.drop_left]
  congr 2
  omega
 have hne : ∀ r,put (2*n+1)++put f++r≠[]:=fun r=>by rw [List.append_assoc];exact put_ne _ _
 have hlen:=back_length n f o
 refine ⟨by omega,fun r most hm=>?_,fun r most hm h5=>?_⟩
 ·rw [un_far (hne r) (hrd r) (by omega) (by omega)]
 ·exact un_big (hne r) (hrd r) (by omega)
end Go.Proofs.YtlojebhcemfodaaGreatDoor
namespace Go.Proofs.YtlojebhcemfodaaGreatDoor
open Go.RowKit
theorem val7_pos : ∀ (i:List UInt8) (c:UInt8),c≠0→c.toNat<128→1≤val7 (i++[c])
 | [],c,h,h1=>by
   have:c.toNat≠0:=fun e=>h (UInt8.toNat_inj.1 e)
   show 1≤c.toNat%128+128*val7 []
   have e:val7 []=0:=rfl
   omega
 | x::i,c,h,h1=>by
   have:=val7_pos i c h h1
   show 1≤x.toNat%128+128*val7 (i++[c])
   omega
theorem putF_of : ∀ (i:List UInt8) (f:Nat) (c:UInt8),(∀ x∈i,128≤x.toNat)→c.toNat<128→(i≠[]→c≠0)→i.length≤f→putF f (val7 (i++[c]))=i++[c]
 | [],f,c,_,h2,_,_=>by
   have e:val7 ([]++[c])=c.toNat:=by
    show c.toNat%128+128*val7 []=_
    have e:val7 []=0:=rfl
    omega
   rw [e,putF_small _ _ h2]
   simp
 | x::i,0,c,_,_,_,h4=>by simp at h4
 | x::i,f+1,c,h1,h2,h3,h4=>by
   have hx:=h1 x (by simp)
   have hx2:x.toNat<256:=x.toNat_lt
   have hp:=val7_pos i c (h3 (by simp)) h2
   have e:val7 (x::i++[c])=x.toNat%128+128*val7 (i++[c]):=rfl
   have ih:=putF_of i f c (fun y hy=>h1 y (by simp [hy])) h2 (fun _=>h3 (by simp)) (by simp at h4;omega)
   rw [e,putF_big _ _ (by omega),show (x.toNat%128+128*val7 (i++[c])) / 128=val7 (i++[c]) from by omega,ih,show 128+(x.toNat%128+128*val7 (i++[c]))%128=x.toNat from by omega]
   simp
/-- A number's bytes are those that it is written with. -/
theorem put_get {l:List UInt8} {n k:Nat} (h:get l=some (n,k)):l.take k=put n∧l=put n++l.drop k:=by
 have key:l.take k=put n:=by
  unfold get at h
  split at h
  ·rename_i hc
   simp only [Option.some.injEq,Prod.mk.injEq] at h
   obtain ⟨rfl,rfl⟩:=h
   obtain ⟨h1,h2,h3,h4⟩:=hc
   have e:l.take (lead l+1)=l.take (lead l)++[l[lead l]]:=by
    rw [List.take_add_one,List.getElem?_eq_getElem h1];rfl
   rw [e]
   unfold put
   refine (putF_of _ 9 _ ?_ (lead_small l h1) ?_ (by rw [List.length_take];omega)).symm
   ·intro x hx
    obtain ⟨i,hi,rfl⟩:=List.getElem_of_mem hx
    rw [List.length_take] at hi
    rw [List.getElem_take]
    exact lead_big l i (by omega) (by omega)
   ·intro hne h0
    apply h4
    refine ⟨?_,?_⟩
    ·rcases Nat.eq_zero_or_pos (lead l) with h | h
     ·rw [h] at hne;simp at hne
     ·exact h
    ·rw [getD_lt h1];exact h0
  ·cases h
 exact ⟨key,by rw [←key];exact (List.take_append_drop k l).symm⟩
theorem takeP_text (t r:Txt) (ht:t.length≤18446744073709551615):takeP (textE t++r)=some (t,r):=by
 unfold takeP textE
 rw [List.append_assoc,get_put _ ht]
 simp
theorem takeP_back {s t r:Txt} (h:takeP s=some (t,r)):s=textE t++r:=by
 unfold takeP at h
 cases hg:get s with
 | none=>rw [hg] at h;cases h
 | some p=>
   obtain ⟨n,k⟩:=p
   rw [hg] at h
   simp only at h
   split at h
   ·rename_i hn
    injection h with h
    injection h with h1 h2
    have h3:=(put_get hg).2
    subst h1;subst h2
    unfold textE
    rw [List.length_take,Nat.min_eq_left hn,List.append_assoc,List.take_append_drop]
    exact h3
   ·cases h
section
variable {r:Rd}
end
theorem rBytes_app (a b:Txt) (n:Nat) (hn:a.length=n):rBytes n (a++b,false)=(a,(b,false)):=by
 unfold rBytes
 rw [if_neg (by simp;omega)]
 subst hn
 simp
theorem rNum_app (n:Nat) (hn:n≤18446744073709551615) (b:Txt):rNum (put n++b,false)=(n,(b,false)):=by
 unfold rNum
 rw [if_neg (by simp)]
 simp only [get_put n hn b]
 simp
theorem rText_app (t b:Txt) (ht:t.length≤18446744073709551615):rText (textE t++b,false)=(t,(b,false)):=by
 unfold rText
 rw [if_neg (by simp)]
 simp only [takeP_text t b ht]
theorem rId_app (i b:Txt) (hi:i.length=32):rId (i++b,false)=(i,(b,false)):=by
 unfold rId
 rw [rBytes_app i b 32 hi]
 have:i≠[]:=by intro e;rw [e] at hi;simp at hi
 simp [idOr,this]
theorem rKind_app (c:UInt8) (b:Txt):rKind (c::b,false)=(c.toNat,(b,false)):=by
 unfold rKind
 rw [show (c::b:Txt)=[c]++b from rfl,rBytes_app [c] b 1 rfl]
 rfl
theorem byteK_nat {k:Int} (h1:0≤k) (h2:k<256):((byteK k).toNat:Int)=k:=by
 unfold byteK
 rw [ofNat_toNat_u8 _ (by omega)]
 omega
theorem byteK_back (c:UInt8):byteK (c.toNat:Int)=c:=by
 unfold byteK
 have:=c.toNat_lt
 rw [show ((c.toNat:Int)%256).toNat=c.toNat from by omega]
 simp
theorem rEnt_app (e:EntL) (b:Txt) (hk:e.kind=1∨e.kind=2) (hi:e.id.length=32) (hn:e.name.length≤18446744073709551615):rEnt (entE e++b,false)=(e,(b,false)):=by
 unfold rEnt entE
 rw [List.cons_append,List.append_assoc,rKind_app]
 simp only [rText_app e.name (e.id++b) hn,rId_app e.id b hi]
 have:=byteK_nat (k:=e.kind) (by omega) (by omega)
 rw [this]
theorem rTree_app : ∀ (l:List EntL) (f:Nat) (acc:List EntL),(∀ e∈l,(e.kind=1∨e.kind=2)∧e.id.length=32∧e.name.length≤18446744073709551615)→l.length≤f→rTree f (entsE l,false) acc=(acc++l,([],false))
 | [],0,acc,_,_=>by simp [rTree,entsE]
 | [],f+1,acc,_,_=>by simp [rTree,entsE]
 | e::l,0,acc,_,hf=>by simp at hf
 | e::l,f+1,acc,h,hf=>by
   have h1:=h e (by simp)
   have he:entsE (e::l)=entE e++entsE l:=by simp [entsE]
   have hne:entE e++entsE l≠[]:=by unfold entE;simp
   rw [rTree,he,if_neg (by simp [hne]),rEnt_app e _ h1.1 h1.2.1 h1.2.2]
   simp only
   rw [rTree_app l f _ (fun x hx=>h x (by simp [hx])) (by simp at hf;omega)]
   simp
theorem rPars_app (b:Txt) : ∀ (l:List Txt) (acc:List Txt),(∀ p∈l,p.length=32)→rPars l.length (l.flatten++b,false) acc=(acc++l,(b,false))
 | [],acc,_=>by simp [rPars]
 | p::l,acc,h=>by
   rw [List.length_cons,rPars,if_neg (by simp),List.flatten_cons,List.append_assoc,rId_app p _ (h p (by simp))]
   simp only
   rw [rPars_app b l _ (fun x hx=>h x (by simp [hx]))]
   simp
end Go.Proofs.YtlojebhcemfodaaGreatDoor
namespace Go.Proofs.YtlojebhcemfodaaGreatDoor
open Go.RowKit
theorem commit_all {o:ObjL} (h:commitN o=true):o.tree=noId∧o.pars=[]∧o.time=0∧o.text=[]:=by
 unfold commitN at h;simp at h;exact ⟨h.1.1.1,h.1.1.2,h.1.2,h.2⟩
theorem tag_all {o:ObjL} (h:tagN o=true):o.target=noId∧o.of_=0∧o.name=[]:=by
 unfold tagN at h;simp at h;exact ⟨h.1.1,h.1.2,h.2⟩
theorem entE_pos (e:EntL):1≤(entE e).length:=by unfold entE;simp
theorem entsE_count (l:List EntL):l.length≤(entsE l).length:=by
 induction l with
 | nil=>simp
 | cons e l ih=>
   have:entsE (e::l)=entE e++entsE l:=by simp [entsE]
   have h:=entE_pos e
   rw [this,List.length_append,List.length_cons]
   omega
theorem read_enc (o:ObjL) (hm:mayB o=true) (htr:o.tree.length=32) (hta:o.target.length=32) (he : ∀ e∈o.ents,e.id.length=32) (hp : ∀ p∈o.pars,p.length=32) (htm:o.time<4294967296) (hl:(bodyO o).length≤4096) :
 readO (byteK o.kind).toNat (bodyO o,false)=(o,([],false)):=by
 have ha:=may_alone hm
 unfold aloneB at ha
 rcases may_kind hm with hk | hk | hk | hk
 ·rw [hk] at ha
  simp at ha
  obtain ⟨c1,c2,c3,c4⟩:=commit_all ha.1.2
  obtain ⟨t1,t2,t3⟩:=tag_all ha.2
  have e1:=tree_nil ha.1.1
  have hb:bodyO o=o.data:=by unfold bodyO;rw [if_pos hk]
  rw [hb,hk]
  show readO 1 _=_
  unfold readO rBlob
  rw [if_neg (by omega),if_neg (by omega),if_neg (by omega)]
  have:=rBytes_app o.data [] o.data.length rfl
  rw [List.append_nil] at this
  simp only [this]
  obtain ⟨kind,data,ents,tree,pars,time,text,target,of_,name⟩:=o
  simp only at *
  subst hk c1 c2 c3 c4 t1 t2 t3 e1
  rfl
 ·have hf:entsB o.ents=true:=by
   unfold mayB at hm
   rw [if_pos hk] at hm
   simp at hm
   exact hm.2
  rw [hk] at ha
  simp at ha
  obtain ⟨c1,c2,c3,c4⟩:=commit_all ha.1.2
  obtain ⟨t1,t2,t3⟩:=tag_all ha.2
  have e1:=blob_nil ha.1.1
  have hb:bodyO o=entsE o.ents:=by unfold bodyO;rw [if_neg (by omega),if_pos hk]
  rw [hb,hk]
  show readO 2 _=_
  unfold readO rTr
  rw [if_pos rfl]
  have hfine:=(ents_fine hf).2
  have:=rTree_app o.ents (entsE o.ents).length [] (fun e hx=>⟨(hfine e hx).2,he e hx,by have:=name_len (hfine e hx).1;omega⟩) (entsE_count _)
  simp only [this,List.nil_append]
  obtain ⟨kind,data,ents,tree,pars,time,text,target,of_,name⟩:=o
  simp only at *
  subst hk c1 c2 c3 c4 t1 t2 t3 e1
  rfl
 ·have hp8:o.pars.length≤8:=by
   unfold mayB at hm
   rw [if_neg (by omega),if_pos hk] at hm
   simp at hm
   exact hm.2
  rw [hk] at ha
  simp at ha
  obtain ⟨t1,t2,t3⟩:=tag_all ha.2
  have e1:=blob_nil ha.1.1
  have e2:=tree_nil ha.1.2
  have hb:bodyO o=commitE o:=by unfold bodyO;rw [if_neg (by omega),if_neg (by omega),if_pos hk]
  rw [hb] at hl ⊢
  rw [hk]
  show readO 3 _=_
  unfold readO
  rw [if_neg (by omega),if_pos rfl]
  have htx:o.text.length≤18446744073709551615:=by
   unfold commitE textE at hl
   simp only [List.length_append] at hl
   omega
  have hc:commitE o=o.tree++(put o.pars.length++(o.pars.flatten++(put o.time++(textE o.text++[])))):=by unfold commitE;simp
  rw [hc]
  unfold rCommit
  have b1:badIf (decide (8<o.pars.length)) (o.pars.flatten++(put o.time++(textE o.text++[])),false)=(o.pars.flatten++(put o.time++(textE o.text++[])),false):=by
   unfold badIf;rw [decide_eq_false (by omega)];rfl
  have b2:badIf (decide (4294967295<o.time)) (textE o.text++[],false)=(textE o.text++[],false):=by
   unfold badIf;rw [decide_eq_false (by omega)];rfl
  simp only [rId_app o.tree _ htr,rNum_app o.pars.length (by omega),b1,rPars_app _ o.pars [] hp,rNum_app o.time (by omega),b2,rText_app o.text [] htx,List.nil_append]
  rw [Nat.mod_eq_of_lt htm]
  obtain ⟨kind,data,ents,tree,pars,time,text,target,of_,name⟩:=o
  simp only at *
  subst hk t1 t2 t3 e1 e2
  rfl
 ·have hfn:kindB o.of_=true∧nameB o.name=true:=by
   unfold mayB at hm
   rw [if_neg (by omega),if_neg (by omega),if_pos hk] at hm
   simp at hm
   exact ⟨hm.1.2,hm.2⟩
  rw [hk] at ha
  simp at ha
  obtain ⟨c1,c2,c3,c4⟩:=commit_all ha.2
  have e1:=blob_nil ha.1.1
  have e2:=tree_nil ha.1.2
  have hb:bodyO o=tagE o:=by unfold bodyO;rw [if_neg (by omega),if_neg (by omega),if_neg (by omega),if_pos hk]
  rw [hb,hk]
  show readO 4 _=_
  unfold readO
  rw [if_neg (by omega),if_neg (by omega),if_pos rfl]
  have hnl:=name_len hfn.2
  have hof:1≤o.of_∧o.of_≤4:=by
   have:=hfn.1
   unfold kindB at this
   simp at this
   exact this
  have hc:tagE o=byteK o.of_::(o.target++(textE o.name++[])):=by unfold tagE;simp
  rw [hc]
  unfold rTag
  have hbk:=byteK_nat (k:=o.of_) (by omega) (by omega)
  simp only [rKind_app,rId_app o.target _ hta,rText_app o.name [] (by omega),hbk]
  obtain ⟨kind,data,ents,tree,pars,time,text,target,of_,name⟩:=o
  simp only at *
  subst hk c1 c2 c3 c4 e1 e2
  rfl
theorem dec_enc {o:ObjL} {t:Txt} (h:encO o=some t) (htr:o.tree.length=32) (hta:o.target.length=32) (he : ∀ e∈o.ents,e.id.length=32) (hp : ∀ p∈o.pars,p.length=32) (htm:o.time<4294967296):decO t=some o∧t.length≤4096:=by
 unfold encO at h
 split at h
 ·rename_i hc
  obtain ⟨hm,hl⟩:=hc
  injection h with h
  subst h
  refine ⟨?_,hl⟩
  have hbl:(bodyO o).length≤4096:=by unfold wholeO textE at hl;simp at hl;omega
  unfold wholeO at hl ⊢
  unfold decO
  have ht:=takeP_text (bodyO o) [] (by omega)
  rw [List.append_nil] at ht
  have hr:=read_enc o hm htr hta he hp htm hbl
  simp only [ht]
  rw [if_neg (by omega)]
  simp only [hr,hm]
  simp
 ·cases h
end Go.Proofs.YtlojebhcemfodaaGreatDoor
namespace Go.Proofs.YtlojebhcemfodaaGreatDoor
open Go.RowKit
section
variable {r:Rd}
theorem rBytes_back {n:Nat} (h:(rBytes n r).2.2=false):r.2=false∧r.1=(rBytes n r).1++(rBytes n r).2.1∧(rBytes n r).1.length=n:=by
 unfold rBytes at *
 split at h
 ·cases h
 ·rename_i hc
  rw [if_neg hc]
  have h1 : ¬ r.2=true:=fun h=>hc (.inl h)
  have h2 : ¬ r.1.length<n:=fun h=>hc (.inr h)
  refine ⟨by simpa using h1,(List.take_append_drop n r.1).symm,?_⟩
  show (r.1.take n).length=n
  rw [List.length_take];omega
theorem rNum_back (h:(rNum r).2.2=false):r.2=false∧r.1=put (rNum r).1++(rNum r).2.1:=by
 unfold rNum at *
 split at h
 ·cases h
 ·rename_i hc
  rw [if_neg hc]
  cases hg:get r.1 with
  | none=>rw [hg] at h;cases h
  | some p=>exact ⟨by simpa using hc,(put_get hg).2⟩
theorem rText_back (h:(rText r).2.2=false):r.2=false∧r.1=textE (rText r).1++(rText r).2.1:=by
 unfold rText at *
 split at h
 ·cases h
 ·rename_i hc
  rw [if_neg hc]
  cases hg:takeP r.1 with
  | none=>rw [hg] at h;cases h
  | some p=>exact ⟨by simpa using hc,takeP_back hg⟩
theorem rId_back (h:(rId r).2.2=false):r.2=false∧r.1=(rId r).1++(rId r).2.1∧(rId r).1.length=32:=by
 have h1:(rBytes 32 r).2.2=false:=h
 obtain ⟨a,b,c⟩:=rBytes_back h1
 have e:(rId r).1=(rBytes 32 r).1:=by
  unfold rId idOr
  rw [if_neg]
  intro e
  rw [e] at c
  simp at c
 exact ⟨a,by rw [e];exact b,by rw [e];exact c⟩
theorem rKind_back (h:(rKind r).2.2=false):r.2=false∧r.1=byteK ((rKind r).1:Int)::(rKind r).2.1∧(rKind r).1<256:=by
 have h1:(rBytes 1 r).2.2=false:=h
 obtain ⟨a,b,c⟩:=rBytes_back h1
 have e:(rKind r).1=((rBytes 1 r).1.headD 0).toNat:=by
  unfold rKind
  rw [if_neg (by rw [h1];simp)]
 have e2:(rKind r).2.1=(rBytes 1 r).2.1:=rfl
 rw [e,e2]
 generalize hb:(rBytes 1 r).1=l at *
 match l,c with
 | [x],_=>
   refine ⟨a,?_,x.toNat_lt⟩
   show _=byteK ((x.toNat:Nat):Int)::_
   rw [byteK_back]
   exact b
theorem rEnt_back (h:(rEnt r).2.2=false):r.2=false∧r.1=entE (rEnt r).1++(rEnt r).2.1∧(rEnt r).1.id.length=32:=by
 have h1:(rId (rText (rKind r).2).2).2.2=false:=h
 obtain ⟨a1,b1,c1⟩:=rId_back h1
 obtain ⟨a2,b2⟩:=rText_back a1
 obtain ⟨a3,b3,c3⟩:=rKind_back a2
 refine ⟨a3,?_,c1⟩
 have e:(rEnt r).2.1=(rId (rText (rKind r).2).2).2.1:=rfl
 rw [e]
 show _=byteK ((rKind r).1:Int)::(textE (rText (rKind r).2).1++(rId (rText (rKind r).2).2).1)++_
 rw [List.cons_append,List.append_assoc,←b1,←b2,←b3]
theorem badIf_back {b:Bool} (h:(badIf b r).2=false):b=false∧r.2=false∧badIf b r=r:=by
 cases b with
 | true=>cases h
 | false=>exact ⟨rfl,h,rfl⟩
end
theorem rTree_back : ∀ (f:Nat) (r:Rd) (acc:List EntL),(rTree f r acc).2.2=false→(rTree f r acc).2.1=[]→r.2=false ∧ ∃ l,(rTree f r acc).1=acc++l∧r.1=entsE l ∧ ∀ e∈l,e.id.length=32
 | 0,r,acc,h1,h2=>⟨h1,[],by simp [rTree],h2,fun e he=>by cases he⟩
 | f+1,r,acc,h1,h2=>by
   by_cases hc:r.2=true∨r.1=[]
   ·have e:rTree (f+1) r acc=(acc,r):=by rw [rTree,if_pos hc]
    rw [e] at h1 h2 ⊢
    exact ⟨h1,[],by simp,h2,fun e he=>by cases he⟩
   ·have e:rTree (f+1) r acc=rTree f (rEnt r).2 (acc++[(rEnt r).1]):=by rw [rTree,if_neg hc]
    rw [e] at h1 h2 ⊢
    obtain ⟨a,l,b1,b2,b3⟩:=rTree_back f _ _ h1 h2
    obtain ⟨c1,c2,c3⟩:=rEnt_back a
    refine ⟨c1,(rEnt r).1::l,by rw [b1];simp,?_,?_⟩
    ·rw [c2,b2];simp [entsE]
    ·intro x hx
     rcases List.mem_cons.1 hx with rfl | hx
     ·exact c3
     ·exact b3 x hx
theorem rPars_back : ∀ (n:Nat) (r:Rd) (acc:List Txt),(rPars n r acc).2.2=false→r.2=false ∧ ∃ l,(rPars n r acc).1=acc++l∧r.1=l.flatten++(rPars n r acc).2.1∧l.length=n ∧ ∀ e∈l,e.length=32
 | 0,r,acc,h1=>⟨h1,[],by simp [rPars],rfl,rfl,fun e he=>by cases he⟩
 | n+1,r,acc,h1=>by
   by_cases hc:r.2=true
   ·have e:rPars (n+1) r acc=(acc,r):=by rw [rPars,if_pos hc]
    rw [e] at h1
    rw [h1] at hc
    cases hc
   ·have e:rPars (n+1) r acc=rPars n (rId r).2 (acc++[(rId r).1]):=by rw [rPars,if_neg hc]
    rw [e] at h1 ⊢
    obtain ⟨a,l,b1,b2,b3,b4⟩:=rPars_back n _ _ h1
    obtain ⟨c1,c2,c3⟩:=rId_back a
    refine ⟨c1,(rId r).1::l,by rw [b1];simp,?_,by simp [b3],?_⟩
    ·rw [c2,b2];simp
    ·intro x hx
     rcases List.mem_cons.1 hx with rfl | hx
     ·exact c3
     ·exact b4 x hx
theorem commit_back {r:Rd} {i:Txt×Rd} {n:Nat×Rd} {p:List Txt×Rd} {t:Nat×Rd} {x:Txt×Rd} (hi:i=rId r) (hn:n=rNum i.2) (hp:p=rPars n.1 (badIf (decide (8<n.1)) n.2) []) (ht:t=rNum p.2) (hx:x=rText (badIf (decide (4294967295<t.1)) t.2))
 (h1:x.2.2=false) (h2:x.2.1=[]):r.1=i.1++put p.1.length++p.1.flatten++put t.1++textE x.1∧t.1≤4294967295:=by
 obtain ⟨t1,t2⟩:=rText_back (r:=badIf (decide (4294967295<t.1)) t.2) (by rw [←hx];exact h1)
 obtain ⟨t3,t4,t5⟩:=badIf_back t1
 have t3:=of_decide_eq_false t3
 rw [←hx,t5,h2,List.append_nil] at t2
 obtain ⟨n1,n2⟩:=rNum_back (r:=p.2) (by rw [←ht];exact t4)
 rw [←ht,t2] at n2
 obtain ⟨p1,l,p2,p3,p4,_⟩:=rPars_back n.1 (badIf (decide (8<n.1)) n.2) [] (by rw [←hp];exact n1)
 obtain ⟨q1,q2,q3⟩:=badIf_back p1
 rw [←hp,q3,n2] at p3
 rw [←hp] at p2
 obtain ⟨m1,m2⟩:=rNum_back (r:=i.2) (by rw [←hn];exact q2)
 rw [←hn,p3] at m2
 obtain ⟨i1,i2,i3⟩:=rId_back (r:=r) (by rw [←hi];exact m1)
 rw [←hi,m2] at i2
 refine ⟨?_,by omega⟩
 rw [i2,p2,List.nil_append,p4]
 simp only [List.append_assoc]
theorem readO_kind (k:Nat) (r:Rd):(readO k r).1.kind=k:=by
 unfold readO
 split
 ·rfl
 ·split
  ·rfl
  ·split<;>rfl
theorem readO_back (k:Nat) (r:Rd) (h1:(readO k r).2.2=false) (h2:(readO k r).2.1=[]) (hm:mayB (readO k r).1=true):r.1=bodyO (readO k r).1:=by
 have hk:=readO_kind k r
 unfold readO at *
 split at h1
 ·rename_i h
  subst h
  simp only [if_true] at *
  obtain ⟨_,l,b1,b2,_⟩:=rTree_back _ _ _ h1 h2
  rw [b2]
  have e:(rTr 2 r).1.ents=l:=by show (rTree r.1.length r []).1=l;rw [b1];rfl
  unfold bodyO
  rw [if_neg (by omega),if_pos (by omega),e]
 ·rename_i hn2
  rw [if_neg hn2] at *
  split at h1
  ·rename_i h
   subst h
   simp only [if_true] at *
   have hcb:=commit_back (r:=r) rfl rfl rfl rfl rfl h1 h2
   have e3:(rCommit 3 r).1.time=(rNum (rPars (rNum (rId r).2).1 (badIf (decide (8<(rNum (rId r).2).1)) (rNum (rId r).2).2) []).2).1:=Nat.mod_eq_of_lt (by have:=hcb.2;omega)
   unfold bodyO
   rw [if_neg (by omega),if_neg (by omega),if_pos (by omega)]
   unfold commitE
   rw [e3]
   exact hcb.1
  ·rename_i hn3
   rw [if_neg hn3] at *
   split at h1
   ·rename_i h
    subst h
    simp only [if_true] at *
    obtain ⟨t1,t2⟩:=rText_back (r:=(rId (rKind r).2).2) h1
    obtain ⟨i1,i2,i3⟩:=rId_back t1
    obtain ⟨k1,k2,k3⟩:=rKind_back i1
    have hfin:(rText (rId (rKind r).2).2).2.1=[]:=h2
    rw [hfin,List.append_nil] at t2
    rw [t2] at i2
    rw [i2] at k2
    unfold bodyO
    rw [if_neg (by omega),if_neg (by omega),if_neg (by omega),if_pos (by omega)]
    exact k2
   ·rename_i hn4
    rw [if_neg hn4] at *
    obtain ⟨b1,b2,b3⟩:=rBytes_back (n:=r.1.length) (r:=r) h1
    have hfin:(rBytes r.1.length r).2.1=[]:=h2
    rw [hfin,List.append_nil] at b2
    have hk1:=may_kind hm
    rw [hk] at hk1
    have hk2:k=1:=by omega
    unfold bodyO
    rw [if_pos (by rw [hk,hk2];rfl)]
    exact b2
theorem rBytes_le (n:Nat) (r:Rd):(rBytes n r).2.1.length≤r.1.length:=by
 unfold rBytes
 split
 ·exact Nat.le_refl _
 ·show (r.1.drop n).length≤_
  rw [List.length_drop];omega
theorem rKind_le (r:Rd):(rKind r).2.1.length≤r.1.length:=rBytes_le 1 r
theorem rId_le (r:Rd):(rId r).2.1.length≤r.1.length:=rBytes_le 32 r
theorem rNum_le (r:Rd):(rNum r).2.1.length≤r.1.length:=by
 unfold rNum
 split
 ·exact Nat.le_refl _
 ·split
  ·exact Nat.le_refl _
  ·show (r.1.drop _).length≤_
   rw [List.length_drop];omega
theorem rNum_num (r:Rd):(rNum r).1≤18446744073709551615:=by
 unfold rNum
 split
 ·simp
 ·split
  ·simp
  ·rename_i n k h
   exact (get_bounds h).1
theorem takeP_le {s t q:Txt} (h:takeP s=some (t,q)):q.length≤s.length:=by
 have:=takeP_back h
 rw [this]
 simp
theorem rText_le (r:Rd):(rText r).2.1.length≤r.1.length:=by
 unfold rText
 split
 ·exact Nat.le_refl _
 ·split
  ·exact Nat.le_refl _
  ·exact takeP_le (by assumption)
theorem badIf_le (b:Bool) (r:Rd):(badIf b r).1=r.1:=by unfold badIf;split<;>rfl
/-- What was read is in order. -/
structure Sound (o:ObjL):Prop where
 tree:o.tree.length=32
 target:o.target.length=32
 ents : ∀ e∈o.ents,e.id.length=32
 pars : ∀ p∈o.pars,p.length=32
 time:o.time<4294967296
theorem noId_len : noId.length=32:=by simp [noId]
theorem idOr_len {n:Nat} {r:Rd} (hn:n=32):(idOr (rBytes n r).1).length=32:=by
 unfold idOr
 split
 ·exact noId_len
 ·rename_i h
  unfold rBytes at *
  split at h
  ·exact absurd rfl h
  ·rename_i hc
   rw [if_neg hc]
   have : ¬ r.1.length<n:=fun h=>hc (.inr h)
   show (r.1.take n).length=32
   rw [List.length_take];omega
theorem rId_len (r:Rd):(rId r).1.length=32:=idOr_len rfl
theorem rTree_sound : ∀ (f:Nat) (r:Rd) (acc:List EntL),(∀ e∈acc,e.id.length=32) → ∀ e∈(rTree f r acc).1,e.id.length=32
 | 0,r,acc,h=>h
 | f+1,r,acc,h=>by
   rw [rTree]
   split
   ·exact h
   ·refine rTree_sound f _ _ ?_
    intro e he
    rcases List.mem_append.1 he with he | he
    ·exact h e he
    ·obtain rfl:=List.mem_singleton.1 he
     exact rId_len _
theorem rPars_sound : ∀ (n:Nat) (r:Rd) (acc:List Txt),(∀ e∈acc,e.length=32) → ∀ e∈(rPars n r acc).1,e.length=32
 | 0,r,acc,h=>h
 | f+1,r,acc,h=>by
   rw [rPars]
   split
   ·exact h
   ·refine rPars_sound f _ _ ?_
    intro e he
    rcases List.mem_append.1 he with he | he
    ·exact h e he
    ·obtain rfl:=List.mem_singleton.1 he
     exact rId_len _
theorem readO_sound (k:Nat) (r:Rd):Sound (readO k r).1:=by
 unfold readO
 split
 ·exact ⟨noId_len,noId_len,rTree_sound _ _ _ (by simp),(by intro p hp;cases hp),by show 0<_;omega⟩
 ·split
  ·exact ⟨rId_len _,noId_len,(by intro p hp;cases hp),rPars_sound _ _ _ (by simp),Nat.mod_lt _ (by omega)⟩
  ·split
   ·exact ⟨noId_len,rId_len _,(by intro p hp;cases hp),(by intro p hp;cases hp),by show 0<_;omega⟩
   ·exact ⟨noId_len,noId_len,(by intro p hp;cases hp),(by intro p hp;cases hp),by show 0<_;omega⟩
theorem dec_back {s:Txt} {o:ObjL} (h:decO s=some o):encO o=some s∧Sound o:=by
 unfold decO at h
 match s,h with
 | c::q,h=>
   simp only at h
   split at h
   ·cases h
   ·rename_i hl
    cases ht:takeP q with
    | none=>rw [ht] at h;cases h
    | some p=>
      obtain ⟨t,b⟩:=p
      rw [ht] at h
      simp only at h
      split at h
      ·cases h
      ·rename_i hb
       have hb:b=[]:=by simpa using hb
       subst hb
       split at h
       ·cases h
       ·rename_i hc
        injection h with h
        subst h
        have h1:(readO c.toNat (t,false)).2.2=false:=by
         cases hx:(readO c.toNat (t,false)).2.2
         ·rfl
         ·exact absurd (.inl hx) hc
        have h2:(readO c.toNat (t,false)).2.1=[]:=by
         by_cases hx:(readO c.toNat (t,false)).2.1=[]
         ·exact hx
         ·exact absurd (.inr (.inl hx)) hc
        have h3:mayB (readO c.toNat (t,false)).1=true:=by
         cases hx:mayB (readO c.toNat (t,false)).1
         ·exact absurd (.inr (.inr hx)) hc
         ·rfl
        have hb:=readO_back _ _ h1 h2 h3
        refine ⟨?_,readO_sound _ _⟩
        have hw:wholeO (readO c.toNat (t,false)).1=c::q:=by
         unfold wholeO
         rw [←hb,readO_kind,byteK_back,takeP_back ht]
         simp
        unfold encO
        rw [hw,if_pos ⟨h3,by omega⟩]
theorem dec_len {s:Txt} {o:ObjL} (h:decO s=some o):s.length≤4096∧mayB o=true:=by
 have h1:=(dec_back h).1
 unfold encO at h1
 split at h1
 ·rename_i hc
  injection h1 with h1
  rw [←h1]
  exact ⟨hc.2,hc.1⟩
 ·cases h1
end Go.Proofs.YtlojebhcemfodaaGreatDoor
namespace Go.Proofs.YtlojebhcemfodaaGreatDoor
open Go.RowKit
section
variable {S T:List (Option Nat)} {w w0 w1 w2 w':World} {g B:Nat} {t:TypeId} {cs:Array Value}
theorem Far.row (h:Far S w w') (hg:some g∈S∨w.heap.size≤g) (cs:Array Value):Far S w (w'.setRow g cs):=
 h.then_ (T:=[some g]) ⟨rfl,rfl,rfl,by simp,fun k _ hn=>setRow_other _ _ _ _ (fun e=>hn (by rw [e];simp))⟩ fun k hk=>by
  simp only [List.mem_singleton,Option.some.injEq] at hk
  exact hk▸hg
theorem Far.low (h:Far S w w1) (hb:Below w.heap.size w1 w2):Far S w w2:=
 ⟨hb.os.trans h.os,hb.tape.trans h.tape,hb.output.trans h.output,Nat.le_trans h.size hb.size,fun k hk hn=>(hb.block k hk).trans (h.block k hk hn)⟩
end
end Go.Proofs.YtlojebhcemfodaaGreatDoor
