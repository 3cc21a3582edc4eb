/- Texts of this claim, laid together: HisB, GraR, GraD, GraE, GraF, HpP, GrW, Wlk, DptP, DptE, DptCl, DptBs, DptQ, DptW, DptIn, GraN, GraQ, GraH, GraO, GraU. -/
import Derived.Test.YtbhdfaadedlcfaaGreatDoorMk
import Derived.Deep.CutBlock
import Derived.Below
import Derived.Lib.SliceRun
import Derived.Shelf.RegionOpenPlain
import Derived.Lib.Overlaps
import Derived.BigRegion
import Derived.Deep.RegionWith
namespace Go.Proofs.YtbhdfaadedlcfaaGreatDoor
open Go.RowKit
def ldvH (p:Addr):Sem Value:=loadVar 25 p
theorem ldvH_eq (p:Addr):loadVar 25 p=ldvH p:=rfl
theorem run_ldvH {w:World} {g:Nat} {a b c d:Value} (h:Blk w g 25 #[a,b,c,d]):(ldvH ⟨g,0,none⟩).run Tryz.prog w = .ok (.agg #[a,b,c,d]) w:=run_loadVar_row w g _ _ _ _ _ h Tryz.underlying25 rfl (by kernel_rfl)
def Few12B (h:HisL) (e:Ending) (w':World):Prop := ∃ A n c b,e = .returned (.tuple #[.agg #[.slice A n c], .bool b])∧(b=true → ∃ es,FewH h∧DocSt w' (.slice A n c) es∧es.length≤24)
theorem Few12R.b {h:HisL} {w w':World} {e:Ending} (hr:Few12R h w e w'):Few12B h e w':=by
 rcases hr with rfl | ⟨vm,es,rfl,h1,h2,h3⟩
 ·exact ⟨none,0,0,false,rfl,fun h=>by cases h⟩
 ·obtain ⟨A,c,rfl⟩:=own_form' h2.own
  exact ⟨A,_,c,true,rfl,fun _=>⟨es,h1,h2,h3⟩⟩
section
attribute [local go_sem ↓] ldvI_eq ldvO_eq
theorem links_len {o:ObjL} (h:Small o):(linksL o).length≤70:=by
 have h1:=h.ents
 have h2:=h.pars
 unfold linksL
 split
 ·rw [List.length_map];exact h1
 ·split
  ·rw [List.length_cons,List.length_map];omega
  ·split<;>simp
theorem cut_small {cut:List Txt} {n:Txt} {o:ObjL} (h:Small o):Small (cutO cut n o):=by
 unfold cutO
 split
 ·exact small_cut h
 ·exact h
theorem dec_small {t:Txt} {o:ObjL} (h:decO t=some o):Small o:=small_enc (dec_back h).1
theorem objS_some {S:List StL} {n:Txt} {s:StL} {o:ObjL} (hg:getS S n=some s) (hd:decO s.text=some o):objS S n=some o:=by unfold objS;rw [hg];exact hd
theorem objS_none {S:List StL} {n:Txt} (hg:getS S n=none):objS S n=none:=by unfold objS;rw [hg]
theorem nextS_len {S:List StL} {cut:List Txt} (n:Txt):(nextS S cut n).length≤70:=by
 unfold nextS objS
 cases hg:getS S n with
 | none=>simp
 | some s=>
   simp only
   cases hd:decO s.text with
   | none=>simp
   | some o=>unfold nextO;rw [List.length_map];exact links_len (cut_small (dec_small hd))
theorem isS_mem {S:List StL} {n:Txt} (h:isS S n=true):n∈S.map StL.id:=by
 unfold isS objS at h
 cases hg:getS S n with
 | none=>rw [hg] at h;cases h
 | some s=>
   obtain ⟨h1,h2⟩:=getS_id hg
   exact List.mem_map.2 ⟨s,h1,h2⟩
theorem StkI.few {S:List StL} {cut ini todo inn out:List Txt} (h:StkI S cut ini todo inn out):inn.length≤S.length∧out.length≤ini.length+S.length*70:=by
 refine ⟨?_,?_⟩
 ·have:=nodup_len (rise_nodup h.ri) (m:=S.map StL.id) fun x hx=>isS_mem (h.i1 x hx).2
  rwa [List.length_map] at this
 ·exact Nat.le_trans (nodup_len (rise_nodup h.ro) fun x hx=>(h.o1 x hx).1.inU) (allU_len fun x _=>nextS_len _)
end
section
attribute [local go_sem ↓] ldvI_eq ldvO_eq ldvS_eq
theorem dec_kind4 {t:Txt} {o:ObjL} (h:decO t=some o):o.kind=1∨o.kind=2∨o.kind=3∨o.kind=4:=by
 have h1:=(dec_back h).1
 unfold encO at h1
 split at h1
 ·rename_i h2
  exact may_kind h2.1
 ·cases h1
def linksS (S:List StL) (n:Txt):List LinkL:=match objS S n with
 | some o=>linksL o
 | none=>[]
def keptK (c:Bool) (L:List LinkL) (j:Nat):List Txt:=(L.take (if c=true then Nat.min j 1 else j)).map LinkL.id
theorem keptK_end {S:List StL} {cut:List Txt} {n:Txt} {b:Bool} (hb:b=(decide (kindS S n=3)&&inL cut n)):keptK b (linksS S n) (linksS S n).length=nextS S cut n:=by
 have hk:kindS S n=match objS S n with | some o=>o.kind | none=>0:=by
  unfold kindS objS
  cases getS S n with
  | none=>rfl
  | some s=>rfl
 rw [hk] at hb
 unfold linksS nextS keptK
 cases ho:objS S n with
 | none=>simp
 | some o=>
   rw [ho] at hb
   simp only at hb ⊢
   unfold nextO cutO
   by_cases hc:o.kind=3∧inL cut n=true
   ·rw [if_pos hc]
    have:b=true:=by rw [hb];simp [hc.1,hc.2]
    subst this
    have h3:linksL o=⟨o.tree,2⟩::parLinks o.pars:=links_three hc.1
    have h4:linksL { o with pars:=[] }=[⟨o.tree,2⟩]:=by rw [links_three (o:={ o with pars:=[] }) hc.1];rfl
    rw [h3,h4]
    simp only [if_true,List.length_cons]
    rw [show Nat.min ((parLinks o.pars).length+1) 1=1 from Nat.min_eq_right (by omega)]
    rfl
   ·rw [if_neg hc]
    have:b=false:=by
     rw [hb]
     cases h:inL cut n
     ·simp
     ·have : ¬ o.kind=3:=fun e=>hc ⟨e,h⟩
      simp [this]
    subst this
    simp
section
variable {w:World} {vm:Value} {es:List DiL}
end
end
section
attribute [local go_sem ↓] ldvI_eq ldvS_eq
theorem linksS_ok (S:List StL) (n:Txt) : ∀ y∈linksS S n,LinkOk y:=by
 intro y hy
 show y.id.length=32
 unfold linksS objS at hy
 cases hg:getS S n with
 | none=>rw [hg] at hy;simp at hy
 | some s=>
   rw [hg] at hy
   simp only at hy
   cases hd:decO s.text with
   | none=>rw [hd] at hy;simp at hy
   | some o=>
     rw [hd] at hy
     simp only at hy
     have hs:=(dec_back hd).2
     unfold linksL at hy
     split at hy
     ·obtain ⟨e,he,rfl⟩:=List.mem_map.1 hy
      exact hs.ents e he
     ·split at hy
      ·rcases List.mem_cons.1 hy with rfl | hy
       ·exact hs.tree
       ·obtain ⟨p,hp,rfl⟩:=List.mem_map.1 hy
        exact hs.pars p hp
      ·split at hy
       ·rw [List.mem_singleton.1 hy];exact hs.target
       ·simp at hy
theorem nextS_sub (S:List StL) (cut:List Txt) (n:Txt) : ∀ y∈nextS S cut n,y∈(linksS S n).map LinkL.id:=by
 intro y hy
 rw [←keptK_end (S:=S) (cut:=cut) (n:=n) rfl] at hy
 unfold keptK at hy
 obtain ⟨z,hz,rfl⟩:=List.mem_map.1 hy
 exact List.mem_map.2 ⟨z,List.mem_of_mem_take hz,rfl⟩
theorem nextS_ok (S:List StL) (cut:List Txt) (n:Txt) : ∀ y∈nextS S cut n,y.length=32:=by
 intro y hy
 obtain ⟨z,hz,rfl⟩:=List.mem_map.1 (nextS_sub S cut n y hy)
 exact linksS_ok S n z hz
theorem Rch.ok {S:List StL} {cut ini:List Txt} (h : ∀ x∈ini,x.length=32) {x:Txt} (hx:Rch S cut ini x):x.length=32:=hx (fun x=>x.length=32) h fun y z _ hz=>nextS_ok S cut y z hz
theorem nodup_more {l:List Txt} {x:Txt} (h:l.Nodup) (hx:inL l x=false):(l++[x]).Nodup:=by
 refine List.pairwise_append.2 ⟨h,List.pairwise_singleton _ _,fun a ha b hb e=>?_⟩
 rw [List.mem_singleton.1 hb] at e
 rw [e] at ha
 rw [inL_iff.2 ha] at hx
 cases hx
theorem GrwI.more {S:List StL} {cut ini all:List Txt} {i:Nat} {y:Txt} (h:GrwI S cut ini all i) (hi:i≤all.length) (hy:Rch S cut ini y) (hn:inL all y=false):GrwI S cut ini (all++[y]) i:=by
 refine ⟨fun x hx=>(List.mem_append.1 hx).elim (h.a1 x) fun e=>by rw [List.mem_singleton.1 e];exact hy,nodup_more h.nd hn,fun x hx=>List.mem_append_left _ (h.ini_ x hx),fun j x hx hj z hz=>List.mem_append_left _ (h.next j x ?_ hj z hz)⟩
 rwa [List.getElem?_append_left (by omega)] at hx
theorem GrwI.len {S:List StL} {cut ini all:List Txt} {i:Nat} (h:GrwI S cut ini all i):all.length≤(allU S cut ini).length:=nodup_len h.nd fun x hx=>(h.a1 x hx).inU
theorem GrwI.step {S:List StL} {cut ini all:List Txt} {i:Nat} {x:Txt} (h:GrwI S cut ini all i) (hx:all[i]?=some x) (hn : ∀ y∈nextS S cut x,y∈all):GrwI S cut ini all (i+1):=by
 refine ⟨h.a1,h.nd,h.ini_,fun j z hz hj=>?_⟩
 by_cases e:j=i
 ·subst e
  rw [hx] at hz
  injection hz with hz
  subst hz
  exact hn
 ·exact h.next j z hz (by omega)
section
variable {w:World} {vm:Value} {es:List DiL}
end
end
section
attribute [local go_sem ↓] ldvI_eq ldvS_eq
def endS (S:List StL):Nat→Txt→Option Txt
 | 0,_=>none
 | f+1,n=>match objS S n with
   | none=>none
   | some o=>if o.kind=4 then endS S f o.target else some n
def endV (r:Option Txt):Value:=match r with
 | some m => .tuple #[.agg (u8s m), .bool true]
 | none => .tuple #[.agg (u8s noId), .bool false]
theorem objS_sound {S:List StL} {n:Txt} {o:ObjL} (h:objS S n=some o):Sound o∧(o.kind=1∨o.kind=2∨o.kind=3∨o.kind=4):=by
 unfold objS at h
 cases hg:getS S n with
 | none=>rw [hg] at h;cases h
 | some s=>
   rw [hg] at h
   exact ⟨(dec_back h).2,dec_kind4 h⟩
theorem endS_ok {S:List StL} : ∀ (f:Nat) (n m:Txt),n.length=32→endS S f n=some m→m.length=32
 | 0,n,m,_,h=>by cases h
 | f+1,n,m,hn,h=>by
   unfold endS at h
   cases ho:objS S n with
   | none=>rw [ho] at h;cases h
   | some o=>
     rw [ho] at h
     simp only at h
     split at h
     ·exact endS_ok f _ m (objS_sound ho).1.target h
     ·injection h with h;rw [←h];exact hn
set_option maxRecDepth 100000 in
set_option maxHeartbeats 8000000 in
theorem graEnd_calls {w:World} {base p:Nat} {vl:Value} {S:List StL} (hS:StoAt w base p vl S) (n:Txt) (hn:n.length=32) :
 Calls Tryz.prog 28 #[.pointer (some ⟨p,0,none⟩), .agg (u8s n)] w fun e w'=>e = .returned (endV (endS S (S.length+1) n))∧Below w.heap.size w w':=by
 have hzi:=zeroIdV
 have hrb:=fun W=>run_build (P:=Tryz.prog) W _ _ _ built_zId
 have hzo:=zeroObj
 have hZ32:(u8s noId).size=32:=by rw [u8s_size];rfl
 have hZone:=u8s_one noId
 have hsI : ∀ cs:Array Value,cs.size=32→(Tryz.prog.info? 46).map (·.size)=some cs.size:=fun cs h=>by rw [h];exact sz32
 have hz72:=zObj_size
 have hzone:zObj.all (·.oneCell')=true:=zObj_one
 obtain ⟨W1,hW1,b1,n1,_⟩:=boxIdS w n hn
 obtain ⟨W2,hW2⟩ : ∃ W2,W1.alloc (.cells (u8s noId) 46)=W2:=⟨_,rfl⟩
 have z2:Blk W2 W1.heap.size 46 (u8s noId):=by rw [←hW2];exact Blk.new _ _ _
 have bb2:Below W1.heap.size W1 W2:=by rw [←hW2];exact (Below.refl _ _).alloc (Nat.le_refl _) _
 have b2:=bthen b1 b1.size bb2
 have n2:=n1.below bb2 n1.lt
 have hlt12:w.heap.size<W1.heap.size:=n1.lt
 have hln:=Lib.hid (stoLen_calls (hS.below b2))
 have hsl:S.length≤500000:=hS.ok.few
 have hob:=fun W (hW:Below w.heap.size w W) (m:Txt) (hm:m.length=32)=>stoObject_calls (hS.below hW) m hm
 have hSok:=hS.ok
 obtain ⟨R,hR⟩ : ∃ R,endS S (S.length+1) n=R:=⟨_,rfl⟩
 rw [hR]
 replace hR:=Lib.hid hR
 have hRn:Hid (R=none→endV R = .tuple #[.agg (u8s noId), .bool false]):=Lib.hid fun h=>by rw [h];rfl
 have hRs:Hid (∀ m,R=some m→endV R = .tuple #[.agg (u8s m), .bool true]):=Lib.hid fun m h=>by rw [h];rfl
 generalize endV R=V at *
 obtain ⟨B2,hB2⟩ : ∃ B2,W1.heap.size=B2:=⟨_,rfl⟩
 rw [hB2] at z2 hlt12
 obtain ⟨NC,hNC⟩ : ∃ NC,u8s n=NC:=⟨_,rfl⟩
 have hNC2:=hNC
 rw [hNC] at hW1 ⊢
 obtain ⟨Z,hZ⟩ : ∃ Z,u8s noId=Z:=⟨_,rfl⟩
 rw [hZ] at hZ32 hZone hW2 z2 hzi hrb hRn
 clear hNC hZ hS
 go_enter Tryz.func28,Tryz.ntmps28
 go_wp2_with (first
  | ((with_reducible refine hln.out.mono ?_);rintro e w3 ⟨rfl,rfl⟩))
 have hw1:IntKind.i64.wrap ((S.length:Int)+1)=(S.length:Int)+1:=IntWalk.i64_in _ (by omega)
 try rw [hB2]
 go_loopg [11] (S.length+1) (fun f vi wr => ∃ (k:Nat) (m:Txt),vi = .int .i64 k∧k+f=S.length+1∧Hid (endS S f m=R)∧m.length=32∧Blk wr w.heap.size 46 (u8s m)∧Blk wr B2 46 Z∧Below w.heap.size w wr)
 case atStart=>exact ⟨0,n,rfl,by omega,hR,hn,n2,z2,b2⟩
 case round=>
  clear hR n2 z2 b2 bb2 b1 n1 hW1 hW2 hln
  obtain ⟨k,m,rfl,hkf,hend,hm,hi,hz,hbel⟩:=hrel
  have hbs:=hbel.size
  have hm32:(u8s m).size=32:=by rw [u8s_size,hm]
  have hm1:=u8s_one m
  cases gk with
  | zero=>
    have hki : ¬ (k:Int)<(S.length:Int)+1:=by omega
    have hV:=hRn.out hend.out.symm
    clear hend hRn hRs
    go_wp2_with (first
     | (refine wpList_store_row rfl 46 (.tmp 4) (.tmp 31) rfl B2 Z rfl rfl _ _ hz (hsI _ hZ32) rfl hZone ?_))
    (try rw [hV])
    refine bodyPost_ret (results_row_tmp rfl _ _ B2 _ _ _ _ rfl (setRow_heap _ _ _ _ _ _ hz) Tryz.underlying46 rfl (hsI _ hZ32)) rfl ⟨rfl,below_setRow hbel (Nat.le_of_lt hlt12) _⟩
  | succ f=>
    have hki:(k:Int)<(S.length:Int)+1:=by omega
    have hl1:=run_ldvI_at (range_blk hi) hm
    have hob1:=hob wr hbel m hm
    cases hg:getS S m with
    | none=>
      have hV:=hRn.out (by rw [←hend.out,endS,objS_none hg])
      have hob2:Hid (Calls Tryz.prog 30 #[.pointer (some ⟨p,0,none⟩), .agg (u8s m)] wr fun e w'=>e = .returned (.tuple #[.agg zObj, .bool false])∧Below wr.heap.size wr w'):=Lib.hid (by
       have h:=hob1
       unfold ObjT at h
       rw [hg] at h
       exact h)
      clear hg hob1 hob hend hRn hRs
      generalize zObj=ZO at *
      go_wp2_with (first
       | ((with_reducible refine hob2.out.mono ?_);rintro e w4 ⟨rfl,hb4⟩
          have b4:=bthen hbel hbs hb4
          have z4:=hz.below hb4 hz.lt)
       | ((with_reducible refine lit_new 59 (.tmp 6) (.tmp 17) ZO 72 szObj hz72 hzone _ ?_ ?_ ?_ ?_)
          ·first | exact hz72 | rfl
          ·rfl
          ·rfl
          intro W5 hb5 hbl5
          have b5:=bthen b4 b4.size hbl5
          have z5:=z4.below hbl5 z4.lt)
       | (refine wpList_store_row rfl 46 (.tmp 4) (.tmp 22) rfl B2 Z rfl rfl _ _ z5 (hsI _ hZ32) rfl hZone ?_))
      (try rw [hV])
      refine bodyPost_ret (results_row_tmp rfl _ _ B2 _ _ _ _ rfl (setRow_heap _ _ _ _ _ _ z5) Tryz.underlying46 rfl (hsI _ hZ32)) rfl ⟨rfl,below_setRow b5 (Nat.le_of_lt hlt12) _⟩
    | some s=>
      obtain ⟨o,hdo⟩:=(hSok.each s (getS_id hg).1).2
      have hobj:=objS_some hg hdo
      have hend2:=hend.out
      rw [endS,hobj] at hend2
      simp only at hend2
      have hob2:Hid (Calls Tryz.prog 30 #[.pointer (some ⟨p,0,none⟩), .agg (u8s m)] wr fun e w'=>(∃ A1 A2 k1 k2,e = .returned (.tuple #[.agg (objC o (.slice A1 o.ents.length k1) (.slice A2 o.pars.length k2)).toArray, .bool true])∧ObjV w' (.slice A1 o.ents.length k1) (.slice A2 o.pars.length k2) o)∧Below wr.heap.size wr w'):=Lib.hid (by
       refine hob1.mono fun e w' ⟨h,hb⟩=>⟨?_,hb⟩
       unfold ObjT at h
       rw [hg] at h
       obtain ⟨o',A1,A2,k1,k2,h1,h2,h3,_⟩:=h
       rw [hdo] at h1
       injection h1 with h1
       subst h1
       exact ⟨A1,A2,k1,k2,h2,h3⟩)
      have hta:=(objS_sound hobj).1.target
      clear hg hob1 hobj hdo hend
      by_cases hk4:o.kind=4
      ·rw [if_pos hk4] at hend2
       have hkb:(o.kind != 4)=false:=by simp [hk4]
       have hkb2:(o.kind==4)=true:=by simp [hk4]
       have ht32:(u8s o.target).size=32:=by rw [u8s_size,hta]
       have ht1:=u8s_one o.target
       replace hend2:=Lib.hid hend2
       clear hk4 hRn hRs hob
       go_wp2_with (first
        | ((with_reducible refine hob2.out.mono ?_);rintro e w4 ⟨⟨A1,A2,k1,k2,rfl,hv4⟩,hb4⟩
           have b4:=bthen hbel hbs hb4
           have z4:=hz.below hb4 hz.lt
           have i4:=hi.below hb4 hi.lt
           have hc72:(objC o (.slice A1 o.ents.length k1) (.slice A2 o.pars.length k2)).toArray.size=72:=by rw [List.size_toArray,objC_len hv4.ok]
           have hcone:=objC_all o A1 A2 o.ents.length k1 o.pars.length k2)
        | ((with_reducible refine lit_new 59 (.tmp 6) (.tmp 17) (objC o (.slice A1 o.ents.length k1) (.slice A2 o.pars.length k2)).toArray 72 szObj hc72 hcone _ ?_ ?_ ?_ ?_)
           ·first | exact hz72 | rfl
           ·rfl
           ·rfl
           intro W5 hb5 hbl5
           have b5:=bthen b4 b4.size hbl5
           have z5:=z4.below hbl5 z4.lt
           have i5:=i4.below hbl5 i4.lt
           have hO5:ObjB W5 w4.heap.size o (.slice A1 o.ents.length k1) (.slice A2 o.pars.length k2):=⟨hb5,hv4.ok.tree,hv4.ok.target⟩
           have hc0:=hO5.kind
           have hlt5:=run_ldvI_at hO5.target hta)
        | (refine wpList_store_row rfl 46 (.tmp 3) (.tmp 29) rfl w.heap.size (u8s o.target) rfl rfl _ _ i5 (hsI _ ht32) (hm32.trans ht32.symm) ht1 ?_))
       have i6:Blk (W5.setRow w.heap.size (u8s o.target)) w.heap.size 46 (u8s o.target):=setRow_heap _ _ _ _ _ _ i5
       have z6:Blk (W5.setRow w.heap.size (u8s o.target)) B2 46 Z:=(setRow_other _ _ _ _ (by omega)).trans z5
       have b6:=below_setRow b5 (Nat.le_refl _) (u8s o.target)
       clear hl1 hlt5 hc0 hb5 hO5 z5 i5 z4 i4 hv4 hob2
       go_roundg f
       case rel=>exact ⟨k+1,o.target,by go_num,by omega,hend2,hta,i6,z6,b6⟩
       case measure=>omega
      ·rw [if_neg hk4] at hend2
       have hkb:(o.kind != 4)=true:=by simp [hk4]
       have hkb2:(o.kind==4)=false:=by simp [hk4]
       have hV:=hRs.out m hend2.symm
       clear hk4 hRn hRs hob hend2
       go_wp2_with (first
        | ((with_reducible refine hob2.out.mono ?_);rintro e w4 ⟨⟨A1,A2,k1,k2,rfl,hv4⟩,hb4⟩
           have b4:=bthen hbel hbs hb4
           have z4:=hz.below hb4 hz.lt
           have i4:=hi.below hb4 hi.lt
           have hc72:(objC o (.slice A1 o.ents.length k1) (.slice A2 o.pars.length k2)).toArray.size=72:=by rw [List.size_toArray,objC_len hv4.ok]
           have hcone:=objC_all o A1 A2 o.ents.length k1 o.pars.length k2)
        | ((with_reducible refine lit_new 59 (.tmp 6) (.tmp 17) (objC o (.slice A1 o.ents.length k1) (.slice A2 o.pars.length k2)).toArray 72 szObj hc72 hcone _ ?_ ?_ ?_ ?_)
           ·first | exact hz72 | rfl
           ·rfl
           ·rfl
           intro W5 hb5 hbl5
           have b5:=bthen b4 b4.size hbl5
           have z5:=z4.below hbl5 z4.lt
           have i5:=i4.below hbl5 i4.lt
           have hO5:ObjB W5 w4.heap.size o (.slice A1 o.ents.length k1) (.slice A2 o.pars.length k2):=⟨hb5,hv4.ok.tree,hv4.ok.target⟩
           have hc0:=hO5.kind
           have hl5:=run_ldvI_at (range_blk i5) hm)
        | (refine wpList_store_row rfl 46 (.tmp 4) (.tmp 27) rfl B2 (u8s m) rfl rfl _ _ z5 (hsI _ hm32) (hZ32.trans hm32.symm) hm1 ?_))
       (try rw [hV])
       refine bodyPost_ret (results_row_tmp rfl _ _ B2 _ _ _ _ rfl (setRow_heap _ _ _ _ _ _ z5) Tryz.underlying46 rfl (hsI _ hm32)) rfl ⟨rfl,below_setRow b5 (Nat.le_of_lt hlt12) _⟩
set_option maxRecDepth 100000 in
set_option maxHeartbeats 8000000 in
theorem docEnd_calls {w:World} {vm:Value} {es:List DiL} (h:DocSt w vm es) (n:Txt) (hn:n.length=32) :
 Calls Tryz.prog 55 #[.agg #[vm], .agg (u8s n)] w fun e w'=>e = .returned (endV (endS (es.map (·.st)) (es.length+1) n))∧Below w.heap.size w w':=by
 have hzi:=zeroIdV
 have hrb:=fun W=>run_build (P:=Tryz.prog) W _ _ _ built_zId
 have hzo:=zeroObj
 have hZ32:(u8s noId).size=32:=by rw [u8s_size];rfl
 have hZone:=u8s_one noId
 have hsI : ∀ cs:Array Value,cs.size=32→(Tryz.prog.info? 46).map (·.size)=some cs.size:=fun cs h=>by rw [h];exact sz32
 have hz72:=zObj_size
 have hzone:zObj.all (·.oneCell')=true:=zObj_one
 obtain ⟨W1,W2,hW1,hW2,b2,hlt1,hlt2,hf⟩:=boxSt (w:=w) vm n hn
 have n2:Blk W2 W1.heap.size 46 (u8s n):=by rw [←hW2];exact Blk.new _ _ _
 have s2:W2.heap[w.heap.size]?=some (.cells #[vm] 28 (0,0)):=(hf W2 (Below.refl _ _)).2.1
 obtain ⟨W3,hW3⟩ : ∃ W3,W2.alloc (.cells (u8s noId) 46)=W3:=⟨_,rfl⟩
 have z3:Blk W3 W2.heap.size 46 (u8s noId):=by rw [←hW3];exact Blk.new _ _ _
 have bb3:Below W2.heap.size W2 W3:=by rw [←hW3];exact (Below.refl _ _).alloc (Nat.le_refl _) _
 have b3:=bthen b2 b2.size bb3
 have n3:=n2.below bb3 n2.lt
 have s3:Blk W3 w.heap.size 28 #[vm]:=Blk.below s2 bb3 (Nat.lt_trans hlt1 hlt2)
 have hob:=fun W (hW:Below w.heap.size w W) (m:Txt) (hm:m.length=32)=>docObject_calls (h.below hW) m hm
 have hSok:=h.ok
 have hfew:=h.few
 obtain ⟨R,hR⟩ : ∃ R,endS (es.map (·.st)) (es.length+1) n=R:=⟨_,rfl⟩
 rw [hR]
 replace hR:=Lib.hid hR
 have hRn:Hid (R=none→endV R = .tuple #[.agg (u8s noId), .bool false]):=Lib.hid fun h=>by rw [h];rfl
 have hRs:Hid (∀ m,R=some m→endV R = .tuple #[.agg (u8s m), .bool true]):=Lib.hid fun m h=>by rw [h];rfl
 obtain ⟨S,hS⟩ : ∃ S,es.map (·.st)=S:=⟨_,rfl⟩
 rw [hS] at hob hSok hR
 generalize endV R=V at *
 obtain ⟨A,cap,rfl,hcap⟩:=h.at_
 obtain ⟨B2,hB2⟩ : ∃ B2,W1.heap.size=B2:=⟨_,rfl⟩
 obtain ⟨B3,hB3⟩ : ∃ B3,W2.heap.size=B3:=⟨_,rfl⟩
 rw [hB3] at z3
 rw [hB2] at n3
 have hlt12:w.heap.size<B2:=by omega
 have hlt23:B2<B3:=by omega
 obtain ⟨NC,hNC⟩ : ∃ NC,u8s n=NC:=⟨_,rfl⟩
 have hNC2:=hNC
 rw [hNC] at hW2 ⊢
 obtain ⟨Z,hZ⟩ : ∃ Z,u8s noId=Z:=⟨_,rfl⟩
 rw [hZ] at hZ32 hZone hW3 z3 hzi hrb hRn
 clear hNC hZ h hcap hf hS s2 n2
 go_enter Tryz.func55,Tryz.ntmps55
 go_wp2_with (fail)
 go_loopg [6] (es.length+1) (fun f vi wr => ∃ (k:Nat) (m:Txt),vi = .int .i64 k∧k+f=es.length+1∧Hid (endS S f m=R)∧m.length=32∧Blk wr w.heap.size 28 #[.slice A es.length cap]∧Blk wr B2 46 (u8s m)∧Blk wr B3 46 Z∧Below w.heap.size w wr)
 case atStart=>exact ⟨0,n,rfl,by omega,hR,hn,s3,n3,z3,b3⟩
 case round=>
  clear hR n3 z3 s3 b3 bb3 b2 hW1 hW2 hW3
  obtain ⟨k,m,rfl,hkf,hend,hm,hs,hi,hz,hbel⟩:=hrel
  have hbs:=hbel.size
  have hm32:(u8s m).size=32:=by rw [u8s_size,hm]
  have hm1:=u8s_one m
  have hc0:wr.cell? ⟨w.heap.size,0,none⟩=some (.slice A es.length cap):=by rw [hs.cell];rfl
  have hls:=run_ldvS hs
  cases gk with
  | zero=>
    have hki : ¬ (k:Int)≤(es.length:Int):=by omega
    have hV:=hRn.out hend.out.symm
    clear hend hRn hRs
    go_wp2_with (first
     | (refine wpList_store_row rfl 46 (.tmp 4) (.tmp 28) rfl B3 Z rfl rfl _ _ hz (hsI _ hZ32) rfl hZone ?_))
    (try rw [hV])
    refine bodyPost_ret (results_row_tmp rfl _ _ B3 _ _ _ _ rfl (setRow_heap _ _ _ _ _ _ hz) Tryz.underlying46 rfl (hsI _ hZ32)) rfl ⟨rfl,below_setRow hbel (by omega) _⟩
  | succ f=>
    have hki:(k:Int)≤(es.length:Int):=by omega
    have hl1:=run_ldvI_at (range_blk hi) hm
    have hob1:=hob wr hbel m hm
    cases hg:getS S m with
    | none=>
      have hV:=hRn.out (by rw [←hend.out,endS,objS_none hg])
      have hob2:Hid (Calls Tryz.prog 17 #[.agg #[.slice A es.length cap], .agg (u8s m)] wr fun e w'=>e = .returned (.agg zObj)∧Below wr.heap.size wr w'):=Lib.hid (by
       have h:=hob1
       unfold ObjG at h
       rw [hg] at h
       exact h)
      have hzk:zObj[0]?=some (.int .i64 0):=rfl
      clear hg hob1 hob hend hRn hRs
      generalize zObj=ZO at *
      go_wp2_with (first
       | ((with_reducible refine hob2.out.mono ?_);rintro e w4 ⟨rfl,hb4⟩
          have b4:=bthen hbel hbs hb4
          have z4:=hz.below hb4 hz.lt)
       | ((with_reducible refine lit_new 59 (.tmp 7) (.tmp 17) ZO 72 szObj hz72 hzone _ ?_ ?_ ?_ ?_)
          ·first | exact hz72 | rfl
          ·rfl
          ·rfl
          intro W5 hb5 hbl5
          have b5:=bthen b4 b4.size hbl5
          have z5:=z4.below hbl5 z4.lt
          have hck:W5.cell? ⟨w4.heap.size,0,none⟩=some (.int .i64 0):=by rw [hb5.cell];exact hzk)
       | (refine wpList_store_row rfl 46 (.tmp 4) (.tmp 21) rfl B3 Z rfl rfl _ _ z5 (hsI _ hZ32) rfl hZone ?_))
      (try rw [hV])
      refine bodyPost_ret (results_row_tmp rfl _ _ B3 _ _ _ _ rfl (setRow_heap _ _ _ _ _ _ z5) Tryz.underlying46 rfl (hsI _ hZ32)) rfl ⟨rfl,below_setRow b5 (by omega) _⟩
    | some s=>
      obtain ⟨o,hdo⟩:=(hSok.each s (getS_id hg).1).2
      have hobj:=objS_some hg hdo
      have hend2:=hend.out
      rw [endS,hobj] at hend2
      simp only at hend2
      have hob2:Hid (Calls Tryz.prog 17 #[.agg #[.slice A es.length cap], .agg (u8s m)] wr fun e w'=>(∃ A1 A2 k1 k2,e = .returned (.agg (objC o (.slice A1 o.ents.length k1) (.slice A2 o.pars.length k2)).toArray)∧ObjV w' (.slice A1 o.ents.length k1) (.slice A2 o.pars.length k2) o)∧Below wr.heap.size wr w'):=Lib.hid (by
       refine hob1.mono fun e w' ⟨h,hb⟩=>⟨?_,hb⟩
       unfold ObjG at h
       rw [hg] at h
       obtain ⟨o',A1,A2,k1,k2,h1,h2,h3⟩:=h
       rw [hdo] at h1
       injection h1 with h1
       subst h1
       exact ⟨A1,A2,k1,k2,h2,h3⟩)
      have hta:=(objS_sound hobj).1.target
      have hk0:(o.kind==0)=false:=by have:=(objS_sound hobj).2;simp;omega
      clear hg hob1 hobj hdo hend
      by_cases hk4:o.kind=4
      ·rw [if_pos hk4] at hend2
       have hkb:(o.kind != 4)=false:=by simp [hk4]
       have hkb2:(o.kind==4)=true:=by simp [hk4]
       have ht32:(u8s o.target).size=32:=by rw [u8s_size,hta]
       have ht1:=u8s_one o.target
       replace hend2:=Lib.hid hend2
       clear hk4 hRn hRs hob
       go_wp2_with (first
        | ((with_reducible refine hob2.out.mono ?_);rintro e w4 ⟨⟨A1,A2,k1,k2,rfl,hv4⟩,hb4⟩
           have b4:=bthen hbel hbs hb4
           have z4:=hz.below hb4 hz.lt
           have i4:=hi.below hb4 hi.lt
           have s4:=hs.below hb4 hs.lt
           have hc72:(objC o (.slice A1 o.ents.length k1) (.slice A2 o.pars.length k2)).toArray.size=72:=by rw [List.size_toArray,objC_len hv4.ok]
           have hcone:=objC_all o A1 A2 o.ents.length k1 o.pars.length k2)
        | ((with_reducible refine lit_new 59 (.tmp 7) (.tmp 17) (objC o (.slice A1 o.ents.length k1) (.slice A2 o.pars.length k2)).toArray 72 szObj hc72 hcone _ ?_ ?_ ?_ ?_)
           ·first | exact hz72 | rfl
           ·rfl
           ·rfl
           intro W5 hb5 hbl5
           have b5:=bthen b4 b4.size hbl5
           have z5:=z4.below hbl5 z4.lt
           have i5:=i4.below hbl5 i4.lt
           have s5:=s4.below hbl5 s4.lt
           have hO5:ObjB W5 w4.heap.size o (.slice A1 o.ents.length k1) (.slice A2 o.pars.length k2):=⟨hb5,hv4.ok.tree,hv4.ok.target⟩
           have hck:=hO5.kind
           have hlt5:=run_ldvI_at hO5.target hta)
        | (refine wpList_store_row rfl 46 (.tmp 3) (.tmp 27) rfl B2 (u8s o.target) rfl rfl _ _ i5 (hsI _ ht32) (hm32.trans ht32.symm) ht1 ?_))
       have i6:Blk (W5.setRow B2 (u8s o.target)) B2 46 (u8s o.target):=setRow_heap _ _ _ _ _ _ i5
       have z6:Blk (W5.setRow B2 (u8s o.target)) B3 46 Z:=(setRow_other _ _ _ _ (by omega)).trans z5
       have s6:Blk (W5.setRow B2 (u8s o.target)) w.heap.size 28 #[.slice A es.length cap]:=(setRow_other _ _ _ _ (by omega)).trans s5
       have b6:=below_setRow b5 (Nat.le_of_lt hlt12) (u8s o.target)
       clear hl1 hlt5 hck hc0 hls hb5 hO5 z5 i5 z4 i4 s4 s5 hv4 hob2
       go_roundg f
       case rel=>exact ⟨k+1,o.target,by go_num,by omega,hend2,hta,s6,i6,z6,b6⟩
       case measure=>omega
      ·rw [if_neg hk4] at hend2
       have hkb:(o.kind != 4)=true:=by simp [hk4]
       have hkb2:(o.kind==4)=false:=by simp [hk4]
       have hV:=hRs.out m hend2.symm
       clear hk4 hRn hRs hob hend2
       go_wp2_with (first
        | ((with_reducible refine hob2.out.mono ?_);rintro e w4 ⟨⟨A1,A2,k1,k2,rfl,hv4⟩,hb4⟩
           have b4:=bthen hbel hbs hb4
           have z4:=hz.below hb4 hz.lt
           have i4:=hi.below hb4 hi.lt
           have hc72:(objC o (.slice A1 o.ents.length k1) (.slice A2 o.pars.length k2)).toArray.size=72:=by rw [List.size_toArray,objC_len hv4.ok]
           have hcone:=objC_all o A1 A2 o.ents.length k1 o.pars.length k2)
        | ((with_reducible refine lit_new 59 (.tmp 7) (.tmp 17) (objC o (.slice A1 o.ents.length k1) (.slice A2 o.pars.length k2)).toArray 72 szObj hc72 hcone _ ?_ ?_ ?_ ?_)
           ·first | exact hz72 | rfl
           ·rfl
           ·rfl
           intro W5 hb5 hbl5
           have b5:=bthen b4 b4.size hbl5
           have z5:=z4.below hbl5 z4.lt
           have i5:=i4.below hbl5 i4.lt
           have hO5:ObjB W5 w4.heap.size o (.slice A1 o.ents.length k1) (.slice A2 o.pars.length k2):=⟨hb5,hv4.ok.tree,hv4.ok.target⟩
           have hck:=hO5.kind
           have hl5:=run_ldvI_at (range_blk i5) hm)
        | (refine wpList_store_row rfl 46 (.tmp 4) (.tmp 25) rfl B3 (u8s m) rfl rfl _ _ z5 (hsI _ hm32) (hZ32.trans hm32.symm) hm1 ?_))
       (try rw [hV])
       refine bodyPost_ret (results_row_tmp rfl _ _ B3 _ _ _ _ rfl (setRow_heap _ _ _ _ _ _ z5) Tryz.underlying46 rfl (hsI _ hm32)) rfl ⟨rfl,below_setRow b5 (by omega) _⟩
end
end Go.Proofs.YtbhdfaadedlcfaaGreatDoor
namespace Go.Proofs.YtbhdfaadedlcfaaGreatDoor
section
variable {α:Type} [Inhabited α]
def atQ (Q:List α) (i:Nat):α:=Q.getD i default
def swapQ (Q:List α) (i j:Nat):List α:=(Q.set i (atQ Q j)).set j (atQ Q i)
theorem atQ_get {Q:List α} {i:Nat} (h:i<Q.length):Q[i]?=some (atQ Q i):=by
 unfold atQ
 rw [List.getD_eq_getElem?_getD,List.getElem?_eq_getElem h];rfl
theorem swapQ_len (Q:List α) (i j:Nat):(swapQ Q i j).length=Q.length:=by unfold swapQ;rw [List.length_set,List.length_set]
theorem atQ_swap {Q:List α} {i j:Nat} (hi:i<Q.length) (hj:j<Q.length) (k:Nat):atQ (swapQ Q i j) k=if k=j then atQ Q i else if k=i then atQ Q j else atQ Q k:=by
 unfold swapQ
 show ((Q.set i (atQ Q j)).set j (atQ Q i)).getD k default=_
 rw [List.getD_eq_getElem?_getD,List.getElem?_set]
 by_cases h1:k=j
 ·subst h1
  rw [if_pos rfl,if_pos rfl,if_pos (by rw [List.length_set];exact hj)];rfl
 ·rw [if_neg (fun e=>h1 e.symm),if_neg h1,List.getElem?_set]
  by_cases h2:k=i
  ·subst h2
   rw [if_pos rfl,if_pos rfl,if_pos hi];rfl
  ·rw [if_neg (fun e=>h2 e.symm),if_neg h2,←List.getD_eq_getElem?_getD];rfl
theorem swapQ_perm {Q:List α} {i j:Nat} (hi:i<Q.length) (hj:j<Q.length):(swapQ Q i j).Perm Q:=by
 have h:=Array.swap_perm (xs:=Q.toArray) (i:=i) (j:=j) (by simpa using hi) (by simpa using hj)
 have e:(Q.toArray.swap i j (by simpa using hi) (by simpa using hj)).toList=swapQ Q i j:=by
  unfold swapQ
  rw [Array.swap_def]
  have e1:atQ Q j=Q[j]:=by unfold atQ;rw [List.getD_eq_getElem?_getD,List.getElem?_eq_getElem hj];rfl
  have e2:atQ Q i=Q[i]:=by unfold atQ;rw [List.getD_eq_getElem?_getD,List.getElem?_eq_getElem hi];rfl
  rw [e1,e2]
  simp
 rw [←e]
 exact h.toList
def par (c:Nat):Nat:=(c-1) / 2
structure Ord (lt:α→α→Bool):Prop where
 asymm : ∀ a b,lt a b=true→lt b a=false
 ntrans : ∀ a b c,lt a b=false→lt b c=false→lt a c=false
def HeapQ (lt:α→α→Bool) (Q:List α) (n:Nat):Prop := ∀ c,0<c→c<n→lt (atQ Q c) (atQ Q (par c))=false
def upQ (lt:α→α→Bool):Nat→List α→Nat→List α
 | 0,Q,_=>Q
 | f+1,Q,j=>if par j=j∨lt (atQ Q j) (atQ Q (par j))=false then Q else upQ lt f (swapQ Q (par j) j) (par j)
theorem par_lt {c:Nat} (h:0<c):par c<c:=by unfold par;omega
theorem upQ_len (lt:α→α→Bool) : ∀ (f:Nat) (Q:List α) (j:Nat),(upQ lt f Q j).length=Q.length
 | 0,Q,j=>rfl
 | f+1,Q,j=>by
   unfold upQ
   split
   ·rfl
   ·rw [upQ_len lt f,swapQ_len]
theorem upQ_perm (lt:α→α→Bool) : ∀ (f:Nat) (Q:List α) (j:Nat),j<Q.length→(upQ lt f Q j).Perm Q
 | 0,Q,j,_=>List.Perm.refl _
 | f+1,Q,j,hj=>by
   unfold upQ
   split
   ·exact List.Perm.refl _
   ·have h1:par j<Q.length:=by unfold par;omega
    exact (upQ_perm lt f _ _ (by rw [swapQ_len];exact h1)).trans (swapQ_perm h1 hj)
structure UpI (lt:α→α→Bool) (Q:List α) (n j:Nat):Prop where
 a : ∀ c,0<c→c<n→c≠j→lt (atQ Q c) (atQ Q (par c))=false
 b : ∀ c,0<c→c<n→par c=j→0<j→lt (atQ Q c) (atQ Q (par j))=false
theorem up_heap {lt:α→α→Bool} (ho:Ord lt) (n:Nat) : ∀ (f:Nat) (Q:List α) (j:Nat),n≤Q.length→j<n→j<f→UpI lt Q n j→HeapQ lt (upQ lt f Q j) n
 | 0,Q,j,_,_,h,_=>by omega
 | f+1,Q,j,hn,hj,hf,hu=>by
   unfold upQ
   split
   ·rename_i hc
    intro c h0 h1
    by_cases e:c=j
    ·rw [e] at h0 ⊢
     rcases hc with hc | hc
     ·have:=par_lt h0;omega
     ·exact hc
    ·exact hu.a c h0 h1 e
   ·rename_i hc
    have hj0:0<j:=by
     rcases Nat.eq_zero_or_pos j with e | e
     ·exact absurd (.inl (by rw [e];rfl)) hc
     ·exact e
    have hij:=par_lt hj0
    have hlt:lt (atQ Q j) (atQ Q (par j))=true:=by
     cases hb:lt (atQ Q j) (atQ Q (par j))
     ·exact absurd (.inr hb) hc
     ·rfl
    have has:=ho.asymm _ _ hlt
    have hat:=atQ_swap (Q:=Q) (i:=par j) (j:=j) (by omega) (by omega)
    refine up_heap ho n f _ _ (by rw [swapQ_len];exact hn) (by omega) (by omega) ⟨fun c h0 h1 hne=>?_,fun c h0 h1 hpc hi0=>?_⟩
    ·rw [hat,hat]
     have hpc:=par_lt h0
     by_cases e1:c=j
     ·subst e1
      rw [if_pos rfl,if_neg (by omega),if_pos rfl]
      exact has
     ·rw [if_neg e1,if_neg hne]
      by_cases e2:par c=j
      ·rw [if_pos e2]
       exact hu.b c h0 h1 e2 hj0
      ·rw [if_neg e2]
       by_cases e3:par c=par j
       ·rw [if_pos e3]
        have h2:=hu.a c h0 h1 e1
        rw [e3] at h2
        exact ho.ntrans _ _ _ h2 has
       ·rw [if_neg e3]
        exact hu.a c h0 h1 e1
    ·have hpp:=par_lt hi0
     rw [hat,hat,if_neg (show ¬ par (par j)=j by omega),if_neg (show ¬ par (par j)=par j by omega)]
     have h4:=hu.a (par j) hi0 (by omega) (by omega)
     by_cases e1:c=j
     ·rw [if_pos e1];exact h4
     ·have:=par_lt h0
      rw [if_neg e1,if_neg (by omega)]
      have h2:=hu.a c h0 h1 e1
      rw [hpc] at h2
      exact ho.ntrans _ _ _ h2 h4
theorem heap_push {lt:α→α→Bool} (ho:Ord lt) {Q:List α} (h:HeapQ lt Q Q.length) (x:α):HeapQ lt (upQ lt (Q.length+1) (Q++[x]) Q.length) (Q.length+1)∧(upQ lt (Q.length+1) (Q++[x]) Q.length).Perm (Q++[x]):=by
 have hl:(Q++[x]).length=Q.length+1:=by rw [List.length_append];rfl
 have hat : ∀ c,c<Q.length→atQ (Q++[x]) c=atQ Q c:=fun c hc=>by unfold atQ;rw [List.getD_eq_getElem?_getD,List.getD_eq_getElem?_getD,List.getElem?_append_left hc]
 refine ⟨up_heap ho (Q.length+1) _ _ _ (by omega) (by omega) (by omega) ⟨fun c h0 h1 hne=>?_,fun c h0 h1 hpc _=>?_⟩,upQ_perm lt _ _ _ (by omega)⟩
 ·have:=par_lt h0
  rw [hat c (by omega),hat (par c) (by omega)]
  exact h c h0 (by omega)
 ·have:=par_lt h0;omega
end
end Go.Proofs.YtbhdfaadedlcfaaGreatDoor
namespace Go.Proofs.YtbhdfaadedlcfaaGreatDoor
open Go.RowKit
section
theorem objC_at {o:ObjL} (h:o.tree.length=32) (ve vp:Value):(objC o ve vp)[35]?=some vp∧(objC o ve vp)[36]?=some (.int .u32 o.time):=by
 have e:objC o ve vp=(.int .i64 o.kind :: .string (B o.data)::ve::(u8s o.tree).toList)++(vp :: .int .u32 o.time :: .string (B o.text)::((u8s o.target).toList++[.int .i64 o.of_, .string (B o.name)])):=by simp [objC]
 have hl:(Value.int .i64 o.kind :: .string (B o.data)::ve::(u8s o.tree).toList).length=35:=by simp [u8s_size,h]
 rw [e]
 constructor
 ·rw [List.getElem?_append_right (by omega),hl];rfl
 ·rw [List.getElem?_append_right (by omega),hl];rfl
def aheadL (x y:Nat) (a b:Txt):Bool:=if x=y then Op.bytesLess a b else decide (y<x)
theorem ahead_asymm {x y:Nat} {a b:Txt} (h:aheadL x y a b=true):aheadL y x b a=false:=by
 unfold aheadL at h ⊢
 by_cases e:x=y
 ·rw [if_pos e] at h
  rw [if_pos e.symm]
  exact less_asymm h
 ·rw [if_neg e] at h
  rw [if_neg fun h=>e h.symm]
  have:=of_decide_eq_true h
  exact decide_eq_false (by omega)
theorem less_ntrans {a b c:Txt} (h1:Op.bytesLess a b=false) (h2:Op.bytesLess b c=false):Op.bytesLess a c=false:=by
 cases hac:Op.bytesLess a c with
 | false=>rfl
 | true=>
   by_cases e:a=b
   ·rw [e,h2] at hac;cases hac
   ·rw [less_trans (less_total h1 e) hac] at h2;cases h2
theorem ahead_ntrans {x y z:Nat} {a b c:Txt} (h1:aheadL x y a b=false) (h2:aheadL y z b c=false):aheadL x z a c=false:=by
 unfold aheadL at h1 h2 ⊢
 by_cases e1:x=y
 ·subst e1
  rw [if_pos rfl] at h1
  by_cases e2:x=z
  ·rw [if_pos e2] at h2 ⊢
   exact less_ntrans h1 h2
  ·rw [if_neg e2] at h2 ⊢
   exact h2
 ·rw [if_neg e1] at h1
  have h1:=of_decide_eq_false h1
  by_cases e2:y=z
  ·subst e2
   rw [if_neg e1]
   exact decide_eq_false h1
  ·rw [if_neg e2] at h2
   have h2:=of_decide_eq_false h2
   rw [if_neg (by omega)]
   exact decide_eq_false (by omega)
theorem ahead_ord {α:Type} [Inhabited α] (t:α→Nat) (f:α→Txt):Ord fun a b=>aheadL (t a) (t b) (f a) (f b):=⟨fun _ _ h=>ahead_asymm h,fun _ _ _ h1 h2=>ahead_ntrans h1 h2⟩
def parS (S:List StL) (n:Txt):List Txt:=match objS S n with
 | some o=>o.pars
 | none=>[]
section
variable {S:List StL} {cut:List Txt}
def leftW (seen out:List Txt):List Txt:=seen.filter fun x => !inL out x
theorem mem_left {seen out:List Txt} {x:Txt}:x∈leftW seen out↔x∈seen∧x ∉ out:=by
 unfold leftW
 rw [List.mem_filter]
 constructor
 ·rintro ⟨h1,h2⟩
  refine ⟨h1,fun h=>?_⟩
  rw [inL_iff.2 h] at h2
  cases h2
 ·rintro ⟨h1,h2⟩
  refine ⟨h1,?_⟩
  cases hi:inL out x with
  | false=>rfl
  | true=>exact absurd (inL_iff.1 hi) h2
def offerS (S:List StL) (seen:List Txt) (p:Txt):List Txt:=if (!inL seen p&&kindS S p==3)=true then seen++[p] else seen
def offerL (S:List StL) (seen l:List Txt):List Txt:=l.foldl (offerS S) seen
def offerE (S:List StL) (seen:List Txt) (x:Txt):List Txt:=match endS S (S.length+1) x with
 | some e=>offerS S seen e
 | none=>seen
def endsL (S:List StL) (l:List Txt):List Txt:=l.foldl (offerE S) []
theorem endsL_more {l:List Txt} {k:Nat} {x:Txt} (h:l[k]?=some x):endsL S (l.take (k+1))=offerE S (endsL S (l.take k)) x:=by
 unfold endsL
 rw [List.take_add_one,h,List.foldl_append]
 rfl
structure WalkI (S:List StL) (seen out:List Txt):Prop where
 nd:seen.Nodup
 k3 : ∀ x∈seen,kindS S x=3
 sub : ∀ x∈out,x∈seen
 ndo:out.Nodup
theorem offerS_law {seen:List Txt} (hn:seen.Nodup) (hk : ∀ x∈seen,kindS S x=3) (p:Txt):(offerS S seen p).Nodup∧(∀ x∈offerS S seen p,kindS S x=3)∧(∀ x∈seen,x∈offerS S seen p) ∧ ∀ x∈offerS S seen p,x∈seen∨x=p:=by
 unfold offerS
 split
 ·rename_i h
  rw [Bool.and_eq_true] at h
  have h1:inL seen p=false:=by simpa using h.1
  have h2:kindS S p=3:=by simpa using h.2
  refine ⟨nodup_more hn h1,fun x hx=>?_,fun x hx=>List.mem_append_left _ hx,fun x hx=>?_⟩
  ·rcases List.mem_append.1 hx with hx | hx
   ·exact hk x hx
   ·rw [List.mem_singleton.1 hx];exact h2
  ·rcases List.mem_append.1 hx with hx | hx
   ·exact .inl hx
   ·exact .inr (List.mem_singleton.1 hx)
 ·exact ⟨hn,hk,fun x hx=>hx,fun x hx => .inl hx⟩
theorem offerL_law : ∀ (l:List Txt) {seen:List Txt},seen.Nodup→(∀ x∈seen,kindS S x=3)→(offerL S seen l).Nodup∧(∀ x∈offerL S seen l,kindS S x=3)∧(∀ x∈seen,x∈offerL S seen l) ∧ ∀ x∈offerL S seen l,x∈seen∨x∈l
 | [],seen,hn,hk=>⟨hn,hk,fun x hx=>hx,fun x hx => .inl hx⟩
 | p::l,seen,hn,hk=>by
   obtain ⟨a1,a2,a3,a4⟩:=offerS_law hn hk p
   obtain ⟨b1,b2,b3,b4⟩:=offerL_law l a1 a2
   refine ⟨b1,b2,fun x hx=>b3 x (a3 x hx),fun x hx=>?_⟩
   rcases b4 x hx with h | h
   ·rcases a4 x h with h | h
    ·exact .inl h
    ·rw [h];exact .inr List.mem_cons_self
   ·exact .inr (List.mem_cons_of_mem _ h)
theorem endsL_law : ∀ (l:List Txt) {seen:List Txt},seen.Nodup→(∀ x∈seen,kindS S x=3)→(l.foldl (offerE S) seen).Nodup∧(∀ x∈l.foldl (offerE S) seen,kindS S x=3) ∧ ∀ x∈seen,x∈l.foldl (offerE S) seen
 | [],seen,hn,hk=>⟨hn,hk,fun x hx=>hx⟩
 | p::l,seen,hn,hk=>by
   have h:(offerE S seen p).Nodup∧(∀ x∈offerE S seen p,kindS S x=3) ∧ ∀ x∈seen,x∈offerE S seen p:=by
    unfold offerE
    cases endS S (S.length+1) p with
    | none=>exact ⟨hn,hk,fun x hx=>hx⟩
    | some e=>
      obtain ⟨a1,a2,a3,_⟩:=offerS_law hn hk e
      exact ⟨a1,a2,a3⟩
   obtain ⟨b1,b2,b3⟩:=endsL_law l h.1 h.2.1
   exact ⟨b1,b2,fun x hx=>b3 x (h.2.2 x hx)⟩
theorem WalkI.start (l:List Txt):WalkI S (endsL S l) []:=by
 obtain ⟨h1,h2,_⟩:=endsL_law (S:=S) l (seen:=[]) List.nodup_nil (fun x hx=>by simp at hx)
 exact ⟨h1,h2,fun x hx=>by simp at hx,List.nodup_nil⟩
theorem WalkI.step {seen out:List Txt} (h:WalkI S seen out) {n:Txt} (hn:n∈leftW seen out):WalkI S (if inL cut n=true then seen else offerL S seen (parS S n)) (out++[n]):=by
 obtain ⟨h1,h2⟩:=mem_left.1 hn
 have hnd:(out++[n]).Nodup:=nodup_more h.ndo (by
  cases hi:inL out n with
  | false=>rfl
  | true=>exact absurd (inL_iff.1 hi) h2)
 have hsub : ∀ x∈out++[n],x∈seen:=fun x hx=>by
  rcases List.mem_append.1 hx with hx | hx
  ·exact h.sub x hx
  ·rw [List.mem_singleton.1 hx];exact h1
 split
 ·exact ⟨h.nd,h.k3,hsub,hnd⟩
 ·obtain ⟨a1,a2,a3,_⟩:=offerL_law (S:=S) (parS S n) h.nd h.k3
  exact ⟨a1,a2,fun x hx=>a3 x (hsub x hx),hnd⟩
theorem kind3_mem {x:Txt} (h:kindS S x=3):x∈S.map StL.id:=by
 refine isS_mem ?_
 unfold kindS at h
 unfold isS objS
 cases hg:getS S x with
 | none=>rw [hg] at h;simp at h
 | some s=>
   rw [hg] at h
   simp only at h ⊢
   cases hd:decO s.text with
   | none=>rw [hd] at h;simp at h
   | some o=>rfl
theorem WalkI.len {seen out:List Txt} (h:WalkI S seen out):seen.length≤S.length∧out.length≤S.length:=by
 have h1:=nodup_len h.nd (m:=S.map StL.id) fun x hx=>kind3_mem (h.k3 x hx)
 have h2:=nodup_len h.ndo (m:=S.map StL.id) fun x hx=>kind3_mem (h.k3 x (h.sub x hx))
 rw [List.length_map] at h1 h2
 exact ⟨h1,h2⟩
end
end
section
attribute [local go_sem ↓] ldvI_eq ldvS_eq
section
variable {w:World} {vm:Value} {es:List DiL}
theorem run_field_pars {X:Array Value} {v:Value} (h:X[35]?=some v) (W:World):(Instr.field 59 (.agg X) 4).run Tryz.prog W = .ok v W:=by
 unfold Instr.field
 simp [run_underlying Tryz.underlying59,part,asAgg,isAgg,h]
set_option maxRecDepth 100000 in
set_option maxHeartbeats 8000000 in
theorem docEnds_calls (h:DocSt w vm es) (ini:List Txt) (hiok : ∀ x∈ini,x.length=32) (hil:ini.length≤800000) (vf:Value) (hvf:Ids w vf ini) :
 Calls Tryz.prog 31 #[.agg #[vm],vf] w fun e w' => ∃ v,e = .returned v∧OwnIds w' w.heap.size v (endsL (es.map (·.st)) ini)∧(∀ x∈endsL (es.map (·.st)) ini,x.length=32)∧Below w.heap.size w w':=by
 obtain ⟨W1,hW1⟩ : ∃ W1,w.alloc (.cells #[vm] 28)=W1:=⟨_,rfl⟩
 have s1:Blk W1 w.heap.size 28 #[vm]:=by rw [←hW1];exact Blk.new _ _ _
 have b1:Below w.heap.size w W1:=by rw [←hW1];exact (Below.refl _ _).alloc (Nat.le_refl _) _
 have hsz1:=b1.size
 have l1:=fun W (hW:Below W1.heap.size W1 W)=>run_ldvS (s1.below hW s1.lt)
 have hen:=fun W (hW:Below w.heap.size w W) (n:Txt) (hn:n.length=32)=>docEnd_calls (h.below hW) n hn
 have hki:=fun W (hW:Below w.heap.size w W) (n:Txt) (hn:n.length=32)=>Lib.hid (docKind_calls (h.below hW) n hn)
 have hzi:=zeroIdV
 have hszI:(Tryz.prog.info? 46).map (·.size)=some (u8s noId).size:=by rw [u8s_size];exact sz32
 have hZ1:=u8s_one noId
 obtain ⟨S,hS⟩ : ∃ S,es.map (·.st)=S:=⟨_,rfl⟩
 have hel:es.length=S.length:=by rw [←hS,List.length_map]
 rw [hS] at hen hki ⊢
 rw [hel] at hen
 clear hel
 obtain ⟨R,hR⟩ : ∃ R,endsL S ini=R:=⟨_,rfl⟩
 rw [hR]
 replace hR:=Lib.hid hR
 obtain ⟨Af,cf,rfl,hf1,hf2,hatf⟩:=hvf
 obtain ⟨vms,hvms⟩ : ∃ vms:Array Value,vms = #[vm]:=⟨_,rfl⟩
 clear hS h s1 hvms
 go_enter Tryz.func31,Tryz.ntmps31
 go_wp2_with (fail)
 go_loopg [5,6] ini.length (fun f vo vi wr => ∃ (k:Nat) (acc:List Txt),vi = .int .i64 k∧k+f=ini.length∧OwnIds wr W1.heap.size vo acc∧(∀ x∈acc,x.length=32)∧Hid (acc=endsL S (ini.take k))∧acc.length≤k∧Below W1.heap.size W1 wr)
 case atStart=>exact ⟨0,[],rfl,by omega,World.ownsRow_nil _ _ _ _,fun x hx=>by simp at hx,Lib.hid rfl,by simp,Below.refl _ _⟩
 case round=>
  clear hW1
  obtain ⟨k,acc,rfl,hkf,hown,hok,hacc,hal,hbel⟩:=hrel
  have hbs:=hbel.size
  have hbr:=bthen b1 hsz1 hbel
  obtain ⟨Ao,co,rfl⟩:=own_form' hown
  cases gk with
  | zero=>
    have hki' : ¬ (k:Int)<(ini.length:Int):=by omega
    have hke:ini.take k=ini:=List.take_of_length_le (by omega)
    have hRa:acc=R:=by rw [hacc.out,hke];exact hR.out
    have HRa:=Lib.hid hRa
    clear hatf hacc hR hRa hen hki hke
    go_wp2_with (fail)
    go_ret
    rw [←HRa.out]
    exact ⟨_,rfl,own_low' hown hsz1,hok,hbr⟩
  | succ f=>
    have hki':(k:Int)<(ini.length:Int):=by omega
    obtain ⟨gf,of_,rfl,hgf,hcf⟩:=hatf (by omega)
    obtain ⟨x,hx⟩ : ∃ x,ini[k]?=some x:=⟨_,List.getElem?_eq_getElem (by omega)⟩
    have hxi:=hiok x (List.mem_of_getElem? hx)
    have hlx:=fun W (hW:Below wr.heap.size wr W)=>run_ldvI_at (show World.rangeAt W gf (of_+k*32) (u8s x).toList from rangeAt_below (hcf k x hx) hgf (bthen hbr hbr.size hW)) hxi
    have lSr:=fun W (hW:Below wr.heap.size wr W)=>l1 W (bthen hbel hbs hW)
    have hmore:Hid (endsL S (ini.take (k+1))=offerE S acc x):=Lib.hid (by rw [endsL_more hx,←hacc.out])
    have hen2:=fun W (hW:Below wr.heap.size wr W)=>hen W (bthen hbr hbr.size hW) x hxi
    clear hx hcf hatf l1 hen hacc
    unfold offerE at hmore
    cases hE:endS S (S.length+1) x with
    | none=>
      rw [hE] at hmore hen2
      have hen3 : ∀ W,Below wr.heap.size wr W→Calls Tryz.prog 55 #[.agg #[vm], .agg (u8s x)] W fun e w'=>e = .returned (.tuple #[.agg (u8s noId), .bool false])∧Below W.heap.size W w':=hen2
      have hin:=fun W (hv:Ids W (.slice Ao acc.length co) acc)=>Lib.hid (in02_calls acc hok _ noId (by rfl) W hv)
      have hldz : ∀ W g,Blk W g 46 (u8s noId)→(ldvI ⟨g,0,none⟩).run Tryz.prog W = .ok (.agg (u8s noId)) W:=fun W g h=>run_ldvI_at (range_blk h) rfl
      generalize inL acc noId=bi at *
      clear hE hen2 hki
      generalize u8s noId=Z at *
      go_upto_region 5 with (fail)
      refine wp_region_go0 12 (by kernel_rfl) (by kernel_rfl) (by kernel_rfl) (by kernel_rfl) ?_
      simp only [exSp]
      iterate 12 apply Exists.intro
      repeat
       first
        | ((with_reducible apply lx0_ex)
           ·(go_simp;done)
           apply Exists.intro
           apply And.intro
           ·apply Eq.refl
           apply And.intro
           ·intro W hW hD
            have q0:=lSr W hW
            have q1:=hlx W hW
            have q2:=hen3 W hW
            go_simp
            first
             | rfl
             | (with_reducible exact q2)
           simp only [Act.put,zA,zB,zC])
        | ((with_reducible apply lx0_pass)
           ·(first | rfl | (go_simp;done))
           ·apply Eq.refl
           simp only [Act.put,zA,zB,zC])
        | ((with_reducible apply lx_al 46 Z hzi)
           ·apply Eq.refl
           intro v
           simp only [Act.put,zA,zB,zC])
        | ((with_reducible apply lx_st' 9 46 Z hszI (by kernel_rfl))
           ·exact rfl
           ·apply Eq.refl
           apply Exists.intro
           apply Exists.intro
           apply And.intro
           ·(go_simp;rfl)
           apply And.intro
           ·(go_simp;rfl)
           refine ⟨?_,fun W hW hD=>?_,?_⟩
           ·first | exact List.Mem.head _ | exact List.Mem.tail _ (List.Mem.head _) | exact List.Mem.tail _ (List.Mem.tail _ (List.Mem.head _)) | exact List.Mem.tail _ (List.Mem.tail _ (List.Mem.tail _ (List.Mem.head _)))
           ·exact ⟨Z,rfl,rfl,hZ1⟩)
      refine lx0_nil ?_ fun w5 hW5 hD5=>?_
      ·exact (by simp [stsOf])
      obtain ⟨_,g7,cs7,rfl,hcs7,hg7,_,hb7⟩:=hD5 _ (.head _)
      obtain rfl:Z=cs7:=by injection hcs7
      have hown5:=own_below hown hW5
      have lz5:=hldz w5 g7 hb7
      have hin5:=hin w5 (SliceAt.of_own (fun e h=>idC_len (hok e h)) hown5)
      have b5:=bthen hbel hbs hW5
      clear hD5 hcs7 hin hldz hen3 hlx
      go_wp2_with (first
       | ((with_reducible refine hin5.out.mono ?_);rintro e w6 ⟨rfl,hb6⟩))
      have hown6:=own_below hown5 hb6
      have b6:=bthen hbel hbs (bthen hW5 hW5.size hb6)
      go_roundg f
      case rel=>exact ⟨k+1,acc,by go_num,by omega,hown6,hok,Lib.hid hmore.out.symm,by omega,b6⟩
      case measure=>omega
    | some m=>
      rw [hE] at hmore hen2
      have hmi:=endS_ok _ _ _ hxi hE
      have hen3 : ∀ W,Below wr.heap.size wr W→Calls Tryz.prog 55 #[.agg #[vm], .agg (u8s x)] W fun e w'=>e = .returned (.tuple #[.agg (u8s m), .bool true])∧Below W.heap.size W w':=hen2
      have hin:=fun W (hv:Ids W (.slice Ao acc.length co) acc)=>Lib.hid (in02_calls acc hok _ m hmi W hv)
      have hldz : ∀ W g,Blk W g 46 (u8s m)→(ldvI ⟨g,0,none⟩).run Tryz.prog W = .ok (.agg (u8s m)) W:=fun W g h=>run_ldvI_at (range_blk h) hmi
      have hkm:=fun W (hW:Below wr.heap.size wr W)=>hki W (bthen hbr hbr.size hW) m hmi
      have hm32:(u8s m).size=32:=by rw [u8s_size,hmi]
      have hm132:(u8s m).size=1*32:=hm32
      have hm1:=u8s_one m
      have hm1l : ∀ u∈(u8s m).toList,u.oneCell'=true:=idC_one m
      have hmz:(u8s m).size=(u8s noId).size:=by rw [hm32,u8s_size];rfl
      have hAk:acc.length+1≤9223372036854775807:=by omega
      have hAb:(acc.length+1)*32≤140737488355328:=by omega
      have hlen2:Hid ((acc++[m]).length=acc.length+1):=Lib.hid (by rw [List.length_append];rfl)
      have hrow2:Hid (rowsOf idC (acc++[m])=rowsOf idC acc++(u8s m).toList):=Lib.hid (by rw [rowsOf_append,rowsOf_one];rfl)
      have hok2 : ∀ y∈acc++[m],y.length=32:=fun y hy=>(List.mem_append.1 hy).elim (hok y) fun e=>by rw [List.mem_singleton.1 e];exact hmi
      have hmo:Hid (endsL S (ini.take (k+1))=if (!inL acc m&&kindS S m==3)=true then acc++[m] else acc):=hmore
      generalize inL acc m=bi at *
      generalize kindS S m=K at *
      clear hE hen2 hki hmore
      generalize u8s noId=Z at *
      obtain ⟨M,hM⟩ : ∃ M,u8s m=M:=⟨_,rfl⟩
      rw [hM] at hen3 hin hldz hkm hm32 hm132 hm1 hm1l hmz hrow2
      clear hM
      go_upto_region 5 with (fail)
      refine wp_region_go0 12 (by kernel_rfl) (by kernel_rfl) (by kernel_rfl) (by kernel_rfl) ?_
      simp only [exSp]
      iterate 12 apply Exists.intro
      repeat
       first
        | ((with_reducible apply lx0_ex)
           ·(go_simp;done)
           apply Exists.intro
           apply And.intro
           ·apply Eq.refl
           apply And.intro
           ·intro W hW hD
            have q0:=lSr W hW
            have q1:=hlx W hW
            have q2:=hen3 W hW
            go_simp
            first
             | rfl
             | (with_reducible exact q2)
           simp only [Act.put,zA,zB,zC])
        | ((with_reducible apply lx0_pass)
           ·(first | rfl | (go_simp;done))
           ·apply Eq.refl
           simp only [Act.put,zA,zB,zC])
        | ((with_reducible apply lx_al 46 Z hzi)
           ·apply Eq.refl
           intro v
           simp only [Act.put,zA,zB,zC])
        | ((with_reducible apply lx_st' 9 46 Z hszI (by kernel_rfl))
           ·exact rfl
           ·apply Eq.refl
           apply Exists.intro
           apply Exists.intro
           apply And.intro
           ·(go_simp;rfl)
           apply And.intro
           ·(go_simp;rfl)
           refine ⟨?_,fun W hW hD=>?_,?_⟩
           ·first | exact List.Mem.head _ | exact List.Mem.tail _ (List.Mem.head _) | exact List.Mem.tail _ (List.Mem.tail _ (List.Mem.head _)) | exact List.Mem.tail _ (List.Mem.tail _ (List.Mem.tail _ (List.Mem.head _)))
           ·exact ⟨M,rfl,hmz,hm1⟩)
      refine lx0_nil ?_ fun w5 hW5 hD5=>?_
      ·exact (by simp [stsOf])
      obtain ⟨_,g7,cs7,rfl,hcs7,hg7,_,hb7⟩:=hD5 _ (.head _)
      obtain rfl:M=cs7:=by injection hcs7
      have hown5:=own_below hown hW5
      have lz5:=hldz w5 g7 hb7
      have hin5:=hin w5 (SliceAt.of_own (fun e h=>idC_len (hok e h)) hown5)
      clear hD5 hcs7 hin hen3 hlx
      cases bi with
      | true=>
        have hmo2:Hid (acc=endsL S (ini.take (k+1))):=Lib.hid (by rw [hmo.out];rfl)
        clear hmo hkm hldz
        go_wp2_with (first
         | ((with_reducible refine hin5.out.mono ?_);rintro e w6 ⟨rfl,hb6⟩))
        have hown6:=own_below hown5 hb6
        have b6:=bthen hbel hbs (bthen hW5 hW5.size hb6)
        go_roundg f
        case rel=>exact ⟨k+1,acc,by go_num,by omega,hown6,hok,hmo2,by omega,b6⟩
        case measure=>omega
      | false=>
        by_cases hK:K=3
        ·have hKb:(K==3)=true:=by simp [hK]
         have hmo2:Hid (acc++[m]=endsL S (ini.take (k+1))):=Lib.hid (by rw [hmo.out,hKb];rfl)
         clear hmo hK
         go_wp2_with (first
          | ((with_reducible refine hin5.out.mono ?_);rintro e w6 ⟨rfl,hb6⟩
             have b56:=bthen hW5 hW5.size hb6
             have lS6:=lSr w6 b56
             have lz6:=hldz w6 g7 (hb7.below hb6 hb7.lt)
             have hk6:=hkm w6 b56)
          | ((with_reducible refine hk6.out.mono ?_);rintro e w7 ⟨rfl,hb7'⟩
             have b57:=bthen b56 b56.size hb7'
             have lz7:=hldz w7 g7 ((hb7.below hb6 hb7.lt).below hb7' (hb7.below hb6 hb7.lt).lt)
             have hown7:=own_below (own_below hown5 hb6) hb7'
             have hsz7:W1.heap.size≤w7.heap.size:=Nat.le_trans hbs b57.size)
          | ((with_reducible refine lit_slice1 (.tmp 40) Tryz.idsTy M hm32 (by omega) ?_ ?_);rfl)
          | ((with_reducible refine lit_append_new (.tmp 39) (.tmp 41) 1 _ Tryz.idsTy hown7 M hm132 hm1l hAk hAb hsz7 ?_ ?_ ?_);rfl;rfl
             intro v8 w8 ho8 hb8 hg8 hn8
             clear hg8 hn8))
         have ho9:OwnIds w8 W1.heap.size v8 (acc++[m]):=by unfold OwnIds;rw [hlen2.out,hrow2.out];exact ho8
         have b8:=(bthen hbel hbs b57).trans hb8
         clear ho8 hown7 hown5 hown hk6 hin5 lS6 lz6 lz7
         go_roundg f
         case rel=>exact ⟨k+1,acc++[m],by go_num,by omega,ho9,hok2,hmo2,by rw [hlen2.out];omega,b8⟩
         case measure=>omega
        ·have hKb:(K==3)=false:=by simp [hK]
         have hmo2:Hid (acc=endsL S (ini.take (k+1))):=Lib.hid (by rw [hmo.out,hKb];rfl)
         clear hmo hK
         go_wp2_with (first
          | ((with_reducible refine hin5.out.mono ?_);rintro e w6 ⟨rfl,hb6⟩
             have b56:=bthen hW5 hW5.size hb6
             have lS6:=lSr w6 b56
             have lz6:=hldz w6 g7 (hb7.below hb6 hb7.lt)
             have hk6:=hkm w6 b56)
          | ((with_reducible refine hk6.out.mono ?_);rintro e w7 ⟨rfl,hb7'⟩
             have b57:=bthen b56 b56.size hb7'))
         have hown7:=own_below (own_below hown5 hb6) hb7'
         have b7:=bthen hbel hbs b57
         go_roundg f
         case rel=>exact ⟨k+1,acc,by go_num,by omega,hown7,hok,hmo2,by omega,b7⟩
         case measure=>omega
end
end
section
structure DpL where
 id:Txt
 n:Nat
def addD (S:List StL) (n:Nat) (D:List DpL) (x:Txt):List DpL:=if (!inL (D.map DpL.id) x&&kindS S x==3)=true then D++[⟨x,n⟩] else D
def addL (S:List StL) (n:Nat) (D:List DpL) (l:List Txt):List DpL:=l.foldl (addD S n) D
def nextP (S:List StL) (D:List DpL) (a:Nat):List Txt:=(D.drop a).flatMap fun p=>parS S p.id
def levQ (S:List StL) (most:Nat):Nat→List DpL→List Txt→Nat→List DpL
 | 0,D,_,_=>D
 | f+1,D,ids,n=>if n≤most∧ids≠[] then levQ S most f (addL S n D ids) (nextP S (addL S n D ids) D.length) (n+1) else D
def docQ (S:List StL) (most:Nat):Nat→Nat→List DpL→List DpL
 | 0,_,D=>D
 | f+1,i,D=>match D[i]? with
   | none=>D
   | some p=>docQ S most f (i+1) (if p.n<most then addL S (p.n+1) D (parS S p.id) else D)
structure DptI (S:List StL) (D:List DpL):Prop where
 nd:(D.map DpL.id).Nodup
 k3 : ∀ p∈D,kindS S p.id=3
section
variable {S:List StL} {D:List DpL} {n most:Nat}
theorem DptI.nil : DptI S []:=⟨List.nodup_nil,fun p hp=>by cases hp⟩
theorem DptI.len (h:DptI S D):D.length≤S.length:=by
 have:=nodup_len h.nd (m:=S.map StL.id) fun x hx=>by
  obtain ⟨p,hp,rfl⟩:=List.mem_map.1 hx
  exact kind3_mem (h.k3 p hp)
 rwa [List.length_map,List.length_map] at this
theorem addD_ext (S:List StL) (n:Nat) (D:List DpL) (x:Txt) : ∃ new,addD S n D x=D++new ∧ ∀ p∈new,p.n=n:=by
 unfold addD
 split
 ·exact ⟨_,rfl,fun p hp=>by rw [List.mem_singleton.1 hp]⟩
 ·exact ⟨[],(List.append_nil _).symm,fun p hp=>by cases hp⟩
theorem addL_ext (S:List StL) (n:Nat) : ∀ (l:List Txt) (D:List DpL), ∃ new,addL S n D l=D++new ∧ ∀ p∈new,p.n=n
 | [],D=>⟨[],(List.append_nil _).symm,fun p hp=>by cases hp⟩
 | x::l,D=>by
   obtain ⟨n1,h1,h2⟩:=addD_ext S n D x
   obtain ⟨n2,h3,h4⟩:=addL_ext S n l (addD S n D x)
   refine ⟨n1++n2,?_,fun p hp=>(List.mem_append.1 hp).elim (h2 p) (h4 p)⟩
   show addL S n (addD S n D x) l=_
   rw [h3,h1,List.append_assoc]
theorem addL_app (S:List StL) (n:Nat) (D:List DpL) (a b:List Txt):addL S n D (a++b)=addL S n (addL S n D a) b:=by
 unfold addL;rw [List.foldl_append]
theorem addD_I (h:DptI S D) (x:Txt):DptI S (addD S n D x):=by
 unfold addD
 split
 ·rename_i hc
  rw [Bool.and_eq_true] at hc
  have h1:inL (D.map DpL.id) x=false:=by simpa using hc.1
  have h2:kindS S x=3:=by simpa using hc.2
  refine ⟨?_,fun p hp=>?_⟩
  ·rw [List.map_append];exact nodup_more h.nd h1
  ·rcases List.mem_append.1 hp with hp | hp
   ·exact h.k3 p hp
   ·rw [List.mem_singleton.1 hp];exact h2
 ·exact h
theorem addL_I : ∀ (l:List Txt) {D:List DpL},DptI S D→DptI S (addL S n D l)
 | [],_,h=>h
 | x::l,_,h=>addL_I l (addD_I h x)
theorem addL_more {l:List Txt} {k:Nat} {x:Txt} (h:l[k]?=some x):addL S n D (l.take (k+1))=addD S n (addL S n D (l.take k)) x:=by
 unfold addL
 rw [List.take_add_one,h,List.foldl_append]
 rfl
theorem doc_end {f i:Nat} (h:D.length≤i):docQ S most f i D=D:=by
 cases f with
 | zero=>rfl
 | succ f=>unfold docQ;rw [List.getElem?_eq_none h]
theorem doc_go {f i:Nat} {p:DpL} (h:D[i]?=some p):docQ S most (f+1) i D=docQ S most f (i+1) (if p.n<most then addL S (p.n+1) D (parS S p.id) else D):=by
 rw [docQ,h]
theorem doc_chunk (hn:n<most) : ∀ (c:List DpL) (g a:Nat) (D:List DpL),(∀ j,j<c.length→D[a+j]?=c[j]?)→(∀ p∈c,p.n=n)→docQ S most (g+c.length) a D=docQ S most g (a+c.length) (addL S (n+1) D (c.flatMap fun p=>parS S p.id))
 | [],g,a,D,_,_=>rfl
 | p::c,g,a,D,hc,hp=>by
   have h0:D[a]?=some p:=hc 0 (by simp)
   have hpn:=hp p List.mem_cons_self
   obtain ⟨new,h1,_⟩:=addL_ext S (n+1) (parS S p.id) D
   rw [List.length_cons,←Nat.add_assoc,doc_go h0,hpn,if_pos hn,doc_chunk hn c g (a+1) _ (fun j hj=>?_) (fun q hq=>hp q (List.mem_cons_of_mem _ hq)),List.flatMap_cons,addL_app,show a+1+c.length=a+(c.length+1) by omega]
   have h2:=hc (j+1) (by rw [List.length_cons];omega)
   have hlt:a+(j+1)<D.length:=by
    rcases Nat.lt_or_ge (a+(j+1)) D.length with h | h
    ·exact h
    ·rw [List.getElem?_eq_none h,List.getElem?_cons_succ,List.getElem?_eq_getElem hj] at h2
     cases h2
   rw [h1,show a+1+j=a+(j+1) by omega,List.getElem?_append_left hlt,h2,List.getElem?_cons_succ]
theorem doc_last : ∀ (c:List DpL) (g a:Nat) (D:List DpL),(∀ j,j<c.length→D[a+j]?=c[j]?)→(∀ p∈c,p.n=most)→docQ S most (g+c.length) a D=docQ S most g (a+c.length) D
 | [],g,a,D,_,_=>rfl
 | p::c,g,a,D,hc,hp=>by
   have h0:D[a]?=some p:=hc 0 (by simp)
   have hpn:=hp p List.mem_cons_self
   rw [List.length_cons,←Nat.add_assoc,doc_go h0,hpn,if_neg (by omega),doc_last c g (a+1) _ (fun j hj=>?_) (fun q hq=>hp q (List.mem_cons_of_mem _ hq)),show a+1+c.length=a+(c.length+1) by omega]
   have h2:=hc (j+1) (by rw [List.length_cons];omega)
   rw [show a+1+j=a+(j+1) by omega,h2,List.getElem?_cons_succ]
theorem drop_atD (D:List DpL) (a:Nat) : ∀ j,j<(D.drop a).length→D[a+j]?=(D.drop a)[j]?:=fun j _=>by rw [List.getElem?_drop]
theorem doc_over {a g:Nat} (hI:DptI S D) (ha:a≤D.length) (hn : ∀ p∈D.drop a,p.n=n) (hm:n≤most) (hg:g+a=S.length+1) (h:n=most∨nextP S D a=[]):docQ S most g a D=D:=by
 have hl:=hI.len
 have hdl:(D.drop a).length=D.length-a:=List.length_drop
 obtain ⟨g',rfl⟩ : ∃ g',g=g'+(D.drop a).length:=⟨g-(D.drop a).length,by omega⟩
 rcases Nat.lt_or_ge n most with hlt | hge
 ·have he:nextP S D a=[]:=h.resolve_left (by omega)
  rw [doc_chunk hlt _ g' a D (drop_atD D a) hn]
  show docQ S most g' _ (addL S (n+1) D (nextP S D a))=D
  rw [he]
  show docQ S most g' _ D=D
  exact doc_end (by omega)
 ·obtain rfl:n=most:=by omega
  rw [doc_last _ g' a D (drop_atD D a) hn]
  exact doc_end (by omega)
theorem lev_doc : ∀ (f:Nat) {D:List DpL} {a n g:Nat},DptI S D→a≤D.length→(∀ p∈D.drop a,p.n=n)→n≤most→(nextP S D a=[]∨S.length+1≤f+D.length)→g+a=S.length+1→levQ S most f D (nextP S D a) (n+1)=docQ S most g a D
 | 0,D,a,n,g,hI,ha,hn,hm,hf,hg=>by
   have hl:=hI.len
   exact (doc_over hI ha hn hm hg (.inr (hf.resolve_right (by omega)))).symm
 | f+1,D,a,n,g,hI,ha,hn,hm,hf,hg=>by
   have hl:=hI.len
   unfold levQ
   by_cases hc:n+1≤most∧nextP S D a≠[]
   ·rw [if_pos hc]
    obtain ⟨new,h1,h2⟩:=addL_ext S (n+1) (nextP S D a) D
    have hI2:DptI S (addL S (n+1) D (nextP S D a)):=addL_I _ hI
    have hdr:(addL S (n+1) D (nextP S D a)).drop D.length=new:=by rw [h1];simp
    have hl2:(addL S (n+1) D (nextP S D a)).length=D.length+new.length:=by rw [h1,List.length_append]
    have hdl:(D.drop a).length=D.length-a:=List.length_drop
    have hfs:=hf.resolve_left hc.2
    rw [lev_doc f (a:=D.length) (n:=n+1) (g:=g-(D.drop a).length) hI2 (by omega) (by rw [hdr];exact h2) hc.1 ?_ (by omega)]
    ·obtain ⟨g',rfl⟩ : ∃ g',g=g'+(D.drop a).length:=⟨g-(D.drop a).length,by omega⟩
     rw [doc_chunk (n:=n) (by omega) _ g' a D (drop_atD D a) hn,Nat.add_sub_cancel,hdl,show a+(D.length-a)=D.length by omega]
     rfl
    ·cases hnw:new with
     | nil=>
       left
       show List.flatMap (fun p=>parS S p.id) ((addL S (n+1) D (nextP S D a)).drop D.length)=[]
       rw [hdr,hnw];rfl
     | cons q r=>
       right
       rw [hl2,hnw,List.length_cons];omega
   ·rw [if_neg hc]
    refine (doc_over hI ha hn hm hg ?_).symm
    by_cases h:n+1≤most
    ·right
     by_cases h2:nextP S D a=[]
     ·exact h2
     ·exact absurd ⟨h,h2⟩ hc
    ·left;omega
def depS (S:List StL) (most:Nat) (ends:List Txt):List DpL:=docQ S most (S.length+1) 0 (addL S 1 [] ends)
theorem dep_lev (hm:1≤most) (ends:List Txt):levQ S most (S.length+2) [] ends 1=depS S most ends:=by
 unfold depS
 unfold levQ
 by_cases he:ends=[]
 ·rw [if_neg (fun h=>h.2 he),he]
  exact (doc_end (Nat.zero_le _)).symm
 ·rw [if_pos ⟨hm,he⟩]
  obtain ⟨new,h1,h2⟩:=addL_ext S 1 ends []
  rw [List.nil_append] at h1
  exact lev_doc (S.length+1) (a:=0) (n:=1) (addL_I _ DptI.nil) (Nat.zero_le _) (by rw [List.drop_zero,h1];exact h2) hm (.inr (by omega)) (by omega)
theorem doc_I : ∀ (f i:Nat) {D:List DpL},DptI S D→DptI S (docQ S most f i D)
 | 0,i,D,h=>h
 | f+1,i,D,h=>by
   cases hp:D[i]? with
   | none=>rw [doc_end (List.getElem?_eq_none_iff.1 hp)];exact h
   | some p=>
     rw [doc_go hp]
     refine doc_I f (i+1) ?_
     split
     ·exact addL_I _ h
     ·exact h
theorem depS_I (S:List StL) (most:Nat) (ends:List Txt):DptI S (depS S most ends):=doc_I _ _ (addL_I _ DptI.nil)
def endsM (S:List StL) (l:List Txt):List Txt:=l.filterMap (endS S (S.length+1))
theorem endsM_more {l:List Txt} {k:Nat} {x:Txt} (h:l[k]?=some x):endsM S (l.take (k+1))=endsM S (l.take k)++(match endS S (S.length+1) x with | some e=>[e] | none=>[]):=by
 unfold endsM
 rw [List.take_add_one,h,List.filterMap_append]
 congr 1
 show List.filterMap _ [x]=_
 cases he:endS S (S.length+1) x<;>simp [he]
theorem addD_ids (D:List DpL) (x:Txt):(addD S n D x).map DpL.id=offerS S (D.map DpL.id) x:=by
 unfold addD offerS
 split<;>simp
theorem addL_ends : ∀ (l:List Txt) (D:List DpL),(addL S n D (endsM S l)).map DpL.id=l.foldl (offerE S) (D.map DpL.id)
 | [],D=>rfl
 | x::l,D=>by
   have hx:endsM S (x::l)=(match endS S (S.length+1) x with | some e=>[e] | none=>[])++endsM S l:=by
    unfold endsM
    cases he:endS S (S.length+1) x<;>simp [List.filterMap_cons,he]
   rw [hx,addL_app,addL_ends l,List.foldl_cons]
   unfold offerE
   cases he:endS S (S.length+1) x with
   | none=>rfl
   | some e=>
     show List.foldl (offerE S) ((addD S n D e).map DpL.id) l=_
     rw [addD_ids]
     rfl
theorem ends_ones (l:List Txt):addL S 1 [] (endsM S l)=(endsL S l).map fun x=>⟨x,1⟩:=by
 have h:=addL_ends (S:=S) (n:=1) l []
 obtain ⟨new,h1,h2⟩:=addL_ext S 1 (endsM S l) []
 rw [List.nil_append] at h1
 rw [List.map_nil] at h
 show _=(l.foldl (offerE S) []).map _
 rw [←h,h1,List.map_map]
 have e : ∀ p∈new,((fun x=>(⟨x,1⟩:DpL)) ∘ DpL.id) p=id p:=fun p hp=>by
  show (⟨p.id,1⟩:DpL)=p
  rw [←h2 p hp]
 rw [List.map_congr_left e,List.map_id]
end
end
def dptC (r:DpL):List Value:=(u8s r.id).toList++[.int .i64 r.n]
def DptOk (r:DpL):Prop:=r.id.length=32∧r.n≤2000000
theorem dptC_len {r:DpL} (h:DptOk r):(dptC r).length=33:=by unfold dptC;rw [List.length_append,u8s_lenS,h.1];rfl
theorem dptC_one (r:DpL) : ∀ u∈dptC r,u.oneCell'=true:=by
 intro u hu
 simp only [dptC,List.mem_append,List.mem_cons,List.not_mem_nil,or_false] at hu
 rcases hu with hu | rfl
 ·simp only [u8s,List.toList_toArray,List.mem_map] at hu
  obtain ⟨c,_,rfl⟩:=hu
  rfl
 ·rfl
def zDpt : Value := .agg (dptC ⟨List.replicate 32 0,0⟩).toArray
theorem Tryz.dptTy : SliceTy Tryz.prog 37 48 zDpt 33 40:=⟨Tryz.underlying37,info_parts (by kernel_rfl),by kernel_rfl,by omega⟩
theorem Tryz.ddtTy : SliceTy Tryz.prog 43 55 zDpt 33 40:=⟨Tryz.underlying43,info_parts (by kernel_rfl),by kernel_rfl,by omega⟩
theorem dptC_id {w:World} {g o:Nat} {r:DpL} (h:w.rangeAt g o (dptC r)):w.rangeAt g o (u8s r.id).toList:=fun j u hu=>h j u (by
 unfold dptC
 rw [List.getElem?_append_left (List.getElem?_eq_some_iff.1 hu).1]
 exact hu)
theorem dptC_n {w:World} {g o:Nat} {r:DpL} (hr:r.id.length=32) (h:w.rangeAt g o (dptC r)):w.cell? ⟨g,o+32,none⟩=some (.int .i64 r.n):=h 32 _ (by
 unfold dptC
 rw [List.getElem?_append_right (by rw [u8s_lenS,hr];omega),u8s_lenS,hr]
 rfl)
def DptsOk (l:List DpL):Prop := ∀ r∈l,DptOk r
theorem dptK {l:List DpL} (h:DptsOk l) : ∀ x∈l,(dptC x).length=33:=fun x hx=>dptC_len (h x hx)
theorem dptOne (l:List DpL) : ∀ u∈rowsOf dptC l,u.oneCell'=true:=rowsOf_one' fun x _=>dptC_one x
theorem szDpt : (Tryz.prog.info? 48).map (·.size)=some 33:=by kernel_rfl
theorem sizedDpt {r:DpL} (h:DptOk r):(Tryz.prog.info? 48).map (·.size)=some (dptC r).length:=by rw [dptC_len h];exact szDpt
theorem dptC_all (r:DpL) : ∀ u∈(dptC r).toArray.toList,u.oneCell'=true:=by rw [List.toList_toArray];exact dptC_one r
abbrev Dpts (w:World) (v:Value) (l:List DpL):Prop:=SliceAt w 33 dptC v l
abbrev OwnDpts (w:World) (base:Nat) (v:Value) (l:List DpL):Prop:=w.ownsRow base 48 33 v l.length (rowsOf dptC l)
theorem OwnDpts.refs {w:World} {base:Nat} {v:Value} {l:List DpL} (hok:DptsOk l) (h:OwnDpts w base v l):Dpts w v l:=SliceAt.of_own (dptK hok) h
theorem range_blkDpt {w:World} {g:Nat} {r:DpL} (h:Blk w g 48 (dptC r).toArray):w.rangeAt g 0 (dptC r):=by
 have:=range_blk h
 rwa [List.toList_toArray] at this
def ldvDpt (p:Addr):Sem Value:=loadVar 48 p
theorem ldvDpt_eq (p:Addr):loadVar 48 p=ldvDpt p:=rfl
theorem run_ldvDpt {w:World} {g o:Nat} {x:DpL} (h:w.rangeAt g o (dptC x)) (hx:DptOk x):(ldvDpt ⟨g,o,none⟩).run Tryz.prog w = .ok (.agg (dptC x).toArray) w:=
 run_loadVar_mid (P:=Tryz.prog) w g o 48 (dptC x) _ h Tryz.underlying48 rfl (sizedDpt hx)
theorem OwnDpts.of_row {w:World} {base g cap:Nat} {l:List DpL} (hok:DptsOk l) (h:Row w g 48 33 dptC cap l) (hg:base≤g) {n:Nat} (hn:n=l.length):OwnDpts w base (.slice (some ⟨g,0,none⟩) n cap) l:=by
 subst hn
 exact h.own (dptK hok) hg
theorem zDpt_cells : zDpt.cells.size=33:=rfl
section
attribute [local go_sem ↓] ldvDpt_eq ldvI_eq
set_option maxRecDepth 100000 in
set_option maxHeartbeats 4000000 in
theorem bsfDpts_calls (l:List DpL) (hok:DptsOk l) (hbig:l.length≤1000000) (v:Value) (w:World) (hv:Dpts w v l) (f:FuncId) (hf : ∀ (a:Array Value) (W:World),(callFunc f a).run Tryz.prog W = .ok (.enter f a) W) (n:List UInt8) (hn:n.length=32) (cmp:DpL→Int)
 (hcl : ∀ (W:World) (x:DpL),x∈l→Below w.heap.size w W→Calls Tryz.prog f #[.agg (dptC x).toArray, .agg (u8s n)] W fun e w'=>e = .returned (.int .i64 (cmp x))∧Below W.heap.size W w')
 (p:Nat) (hp:p≤l.length) (hcmp : ∀ i x,l[i]?=some x→(cmp x<0↔i<p)) :
 Calls Tryz.prog 86 #[v, .agg (u8s n), .func (.func f) #[] #[]] w fun e w'=>
  e = .returned (.tuple #[.int .i64 p, .bool (hitAt cmp l p)])∧Below w.heap.size w w':=by
 obtain ⟨A,cap,rfl,hcap1,hcap2,hat⟩:=hv
 have hcmp:=Lib.hid hcmp
 obtain ⟨b,hb⟩ : ∃ b,Hid (b=hitAt cmp l p):=⟨_,Lib.hid rfl⟩
 rw [←hb.out]
 obtain ⟨W1,hW1⟩ : ∃ W1,w.alloc (.cells (u8s n) 46)=W1:=⟨_,rfl⟩
 have hn1:Blk W1 w.heap.size 46 (u8s n):=by rw [←hW1];exact Blk.new _ _ _
 have bW1:Below w.heap.size w W1:=by rw [←hW1];exact (Below.refl _ _).alloc (Nat.le_refl _) _
 have hsI:(Tryz.prog.info? 46).map (·.size)=some (u8s n).toList.length:=by rw [u8s_lenS,hn];exact sz32
 obtain ⟨NC,hNC⟩ : ∃ NC,u8s n=NC:=⟨_,rfl⟩
 rw [hNC] at hW1 hn1 hsI hcl ⊢
 clear hNC
 go_enter Tryz.func86,Tryz.ntmps86
 go_wp2
 go_loopw [9,10] (fun vi vj wr => ∃ lo hi:Nat,vi = .int .i64 lo∧vj = .int .i64 hi∧lo≤p∧p≤hi∧hi≤l.length∧Below W1.heap.size W1 wr) (fun vi vj _=>(intOf vj).toNat-(intOf vi).toNat)
 case atStart=>exact ⟨0,l.length,rfl,rfl,by omega,hp,by omega,Below.refl _ _⟩
 case round=>
  obtain ⟨lo,hi,rfl,rfl,hlo,hhi,hle,hbel⟩:=hrel
  clear hW1
  by_cases hlt:lo<hi
  ·have hli:(lo:Int)<(hi:Int):=by omega
   obtain ⟨m,hm⟩ : ∃ m:Nat,Hid (m=(lo+hi) / 2):=⟨_,Lib.hid rfl⟩
   have hm2:((lo:Int)+(hi:Int)) / 2=(m:Int):=by rw [hm.out];omega
   have hml:m<l.length:=by rw [hm.out];omega
   have hmi:(m:Int)<(l.length:Int):=by omega
   have hmlo:lo≤m:=by rw [hm.out];omega
   have hmhi:m<hi:=by rw [hm.out];omega
   obtain ⟨g,o,rfl,hg,hcell⟩:=hat (by omega)
   obtain ⟨x,hx⟩ : ∃ x,l[m]?=some x:=⟨_,List.getElem?_eq_getElem hml⟩
   have hxm:=List.mem_of_getElem? hx
   have hxok:=hok x hxm
   have hxr:=hcell m x hx
   have hc2:=fun W hb=>hcl W x hxm hb
   have hd:=hcmp.out m x hx
   clear hx hcell hat hcl
   go_wp2
   refine wp_region_class (C:=fun W=>Below W1.heap.size W1 W) (by kernel_rfl) (by kernel_rfl) hbel.drew ?_
   repeat
    first
     | ((with_reducible refine wpQuiet_ex ?_ ?_)
        ·(go_simp;done)
        apply Exists.intro
        refine ⟨fun W hW=>?_,?_⟩
        ·have hb0:=bthen bW1 bW1.size hW
         have q0:=run_ldvDpt (rangeAt_below hxr hg hb0) hxok
         have q1:(ldvI ⟨w.heap.size,0,none⟩).run Tryz.prog W = .ok (.agg NC) W:=by
          have:=run_loadVar_mid (P:=Tryz.prog) W w.heap.size 0 46 NC.toList _ (range_blk (hn1.below hW hn1.lt)) Tryz.underlying46 rfl hsI
          rwa [Array.toArray_toList] at this
         have hkeep:=bel_keep hW (hc2 W hb0)
         go_simp
         first
          | rfl
          | (with_reducible exact hkeep)
        simp only [Act.put,zA,zB,zC])
     | ((with_reducible refine wpQuiet_pass ?_ ?_)
        ·(first | rfl | (go_simp;done))
        simp only [Act.put,zA,zB,zC])
   with_reducible refine wpQuiet_nil ?_
   intro w5 hW5
   by_cases hneg:cmp x<0
   ·have hmp:m<p:=hd.1 hneg
    clear hd
    go_wp2
    go_roundw
    case rel=>exact ⟨m+1,hi,by go_num,rfl,by omega,hhi,hle,hW5⟩
    case measure=>simp [intOf];omega
   ·have hmp : ¬ m<p:=fun h=>hneg (hd.2 h)
    clear hd
    go_wp2
    go_roundw
    case rel=>exact ⟨lo,m,rfl,by go_num,hlo,by omega,by omega,hW5⟩
    case measure=>simp [intOf];omega
  ·obtain rfl:lo=p:=by omega
   obtain rfl:hi=lo:=by omega
   by_cases hlp:hi<l.length
   ·have hli:(hi:Int)<(l.length:Int):=by omega
    obtain ⟨g,o,rfl,hg,hcell⟩:=hat (by omega)
    obtain ⟨x,hx⟩ : ∃ x,l[hi]?=some x:=⟨_,List.getElem?_eq_getElem hlp⟩
    have hxm:=List.mem_of_getElem? hx
    have hxok:=hok x hxm
    have hxr:=hcell hi x hx
    have hc2:=fun W hb=>hcl W x hxm hb
    have hb':Hid (b=decide (cmp x=0)):=by show _=_;rw [hb.out,hitAt_some hx]
    clear hx hcell hat hb hcl
    go_wp2
    refine wp_region_class (C:=fun W=>Below W1.heap.size W1 W) (by kernel_rfl) (by kernel_rfl) hbel.drew ?_
    repeat
     first
      | ((with_reducible refine wpQuiet_ex ?_ ?_)
         ·(go_simp;done)
         apply Exists.intro
         refine ⟨fun W hW=>?_,?_⟩
         ·have hb0:=bthen bW1 bW1.size hW
          have q0:=run_ldvDpt (rangeAt_below hxr hg hb0) hxok
          have q1:(ldvI ⟨w.heap.size,0,none⟩).run Tryz.prog W = .ok (.agg NC) W:=by
           have:=run_loadVar_mid (P:=Tryz.prog) W w.heap.size 0 46 NC.toList _ (range_blk (hn1.below hW hn1.lt)) Tryz.underlying46 rfl hsI
           rwa [Array.toArray_toList] at this
          have hkeep:=bel_keep hW (hc2 W hb0)
          go_simp
          first
           | rfl
           | (with_reducible exact hkeep)
         simp only [Act.put,zA,zB,zC])
      | ((with_reducible refine wpQuiet_pass ?_ ?_)
         ·(first | rfl | (go_simp;done))
         simp only [Act.put,zA,zB,zC])
    with_reducible refine wpQuiet_nil ?_
    intro w5 hW5
    go_wp2
    go_ret2
    exact ⟨by rw [hb'.out];rfl,bthen bW1 bW1.size hW5⟩
   ·have hli : ¬ (hi:Int)<(l.length:Int):=by omega
    have hb':Hid (b=false):=by show _=_;rw [hb.out,hitAt_none (by omega)]
    clear hb hat
    go_wp2
    refine wp_region_class (C:=fun W=>Below W1.heap.size W1 W) (by kernel_rfl) (by kernel_rfl) hbel.drew ?_
    repeat
     first
      | ((with_reducible refine wpQuiet_ex ?_ ?_)
         ·(go_simp;done)
         apply Exists.intro
         refine ⟨fun W hW=>?_,?_⟩
         ·go_simp
          first
           | rfl
         simp only [Act.put,zA,zB,zC])
      | ((with_reducible refine wpQuiet_pass ?_ ?_)
         ·(first | rfl | (go_simp;done))
         simp only [Act.put,zA,zB,zC])
    with_reducible refine wpQuiet_nil ?_
    intro w5 hW5
    go_wp2
    go_ret2
    exact ⟨by rw [hb'.out];rfl,bthen bW1 bW1.size hW5⟩
end
section
structure DptS (L D:List DpL):Prop where
 sorted:SortedK DpL.id L
 perm:L.Perm D
section
variable {S:List StL} {L D:List DpL} {n most:Nat}
theorem DptS.nil : DptS [] []:=⟨List.Pairwise.nil,List.Perm.refl _⟩
theorem DptS.has (h:DptS L D) (x:Txt):hasK DpL.id L x=inL (D.map DpL.id) x:=by
 have h1:hasK DpL.id L x=true↔inL (D.map DpL.id) x=true:=by
  rw [inL_iff]
  unfold hasK
  rw [List.any_eq_true]
  constructor
  ·rintro ⟨p,hp,he⟩
   exact List.mem_map.2 ⟨p,h.perm.mem_iff.1 hp,eq_of_beq he⟩
  ·intro hx
   obtain ⟨p,hp,he⟩:=List.mem_map.1 hx
   exact ⟨p,h.perm.mem_iff.2 hp,by rw [he];exact beq_self_eq_true x⟩
 cases h2:hasK DpL.id L x<;>cases h3:inL (D.map DpL.id) x<;>first | rfl | (rw [h2,h3] at h1;simp at h1)
theorem DptS.add (h:DptS L D) {x:DpL} (hx:inL (D.map DpL.id) x.id=false):DptS (L.take (posK DpL.id L x.id)++[x]++L.drop (posK DpL.id L x.id)) (D++[x]):=by
 have hh:hasK DpL.id L x.id=false:=by rw [h.has,hx]
 have h1:=sorted_put (x:=x) h.sorted
 unfold putK at h1
 rw [hh] at h1
 refine ⟨h1,?_⟩
 refine List.Perm.trans ?_ (h.perm.append_right [x])
 rw [List.append_assoc]
 refine (List.Perm.append_left _ List.perm_append_comm).trans ?_
 rw [←List.append_assoc,List.take_append_drop]
theorem DptS.len (h:DptS L D):L.length=D.length:=h.perm.length_eq
theorem addD_yes {x:Txt} (h1:inL (D.map DpL.id) x=false) (h2:kindS S x=3):addD S n D x=D++[⟨x,n⟩]:=by
 unfold addD
 rw [h1,h2]
 rfl
theorem addD_no {x:Txt} (h:inL (D.map DpL.id) x=true∨kindS S x≠3):addD S n D x=D:=by
 unfold addD
 rw [if_neg]
 rintro h2
 rw [Bool.and_eq_true] at h2
 rcases h with h | h
 ·rw [h] at h2;simp at h2
 ·exact h (by simpa using h2.2)
theorem nextP_yes {D':List DpL} {a:Nat} {x:DpL} (ha:a≤D'.length):nextP S (D'++[x]) a=nextP S D' a++parS S x.id:=by
 unfold nextP
 rw [List.drop_append_of_le_length ha,List.flatMap_append]
 simp
theorem addL_len (l:List Txt):D.length≤(addL S n D l).length:=by
 obtain ⟨new,h,_⟩:=addL_ext S n l D
 rw [h,List.length_append]
 omega
theorem nextP_self (D:List DpL):nextP S D D.length=[]:=by
 unfold nextP
 rw [List.drop_length]
 rfl
theorem lev_go {f:Nat} {ids:List Txt} (hn:n≤most) (hi:ids≠[]):levQ S most (f+1) D ids n=levQ S most f (addL S n D ids) (nextP S (addL S n D ids) D.length) (n+1):=by
 rw [levQ,if_pos ⟨hn,hi⟩]
theorem lev_end {f:Nat} {ids:List Txt} (h : ¬ (n≤most∧ids≠[])):levQ S most f D ids n=D:=by
 cases f with
 | zero=>rfl
 | succ f=>rw [levQ,if_neg h]
def FuelD (S:List StL) (f:Nat) (D:List DpL) (ids:List Txt):Prop:=ids=[]∨S.length+1≤f+D.length
theorem FuelD.pos {f:Nat} {ids:List Txt} (h:FuelD S f D ids) (hI:DptI S D) (hi:ids≠[]):0<f:=by
 have:=hI.len
 have:=h.resolve_left hi
 omega
theorem FuelD.go {f:Nat} {ids:List Txt} (h:FuelD S (f+1) D ids) (hi:ids≠[]):FuelD S f (addL S n D ids) (nextP S (addL S n D ids) D.length):=by
 have h1:=h.resolve_left hi
 obtain ⟨new,h2,_⟩:=addL_ext S n ids D
 cases new with
 | nil=>
   left
   rw [h2,List.append_nil]
   exact nextP_self D
 | cons q r=>
   right
   rw [h2,List.length_append,List.length_cons]
   omega
end
end
section
attribute [local go_sem ↓] ldvI_eq ldvDpt_eq
set_option maxRecDepth 100000 in
theorem fineB_calls (n:Int) (w:World):Calls Tryz.prog 27 #[.int .i64 n] w fun e w'=>e = .returned (.bool (decide (1≤n∧n≤1048576)))∧w'=w:=by
 obtain ⟨b,hb⟩ : ∃ b,Hid (decide (1≤n∧n≤1048576)=b):=⟨_,Lib.hid rfl⟩
 rw [hb.out]
 by_cases h1:1≤n
 ·by_cases h2:n≤1048576
  ·obtain rfl:b=true:=by rw [←hb.out];exact decide_eq_true ⟨h1,h2⟩
   go_enter Tryz.func27,Tryz.ntmps27
   go_wp2
   go_ret
   exact ⟨rfl,rfl⟩
  ·obtain rfl:b=false:=by rw [←hb.out];exact decide_eq_false fun h=>h2 h.2
   go_enter Tryz.func27,Tryz.ntmps27
   go_wp2
   go_ret
   exact ⟨rfl,rfl⟩
 ·obtain rfl:b=false:=by rw [←hb.out];exact decide_eq_false fun h=>h1 h.1
  go_enter Tryz.func27,Tryz.ntmps27
  go_wp2
  go_ret
  exact ⟨rfl,rfl⟩
set_option maxRecDepth 100000 in
set_option maxHeartbeats 1000000 in
theorem depPlace1_calls (x:DpL) (hx:DptOk x) (n:List UInt8) (hn:n.length=32) (w:World):Calls Tryz.prog 87 #[.agg (dptC x).toArray, .agg (u8s n)] w fun e w'=>e = .returned (.int .i64 (Lib.compareBytes x.id n))∧Below w.heap.size w w':=by
 obtain ⟨W1,hW1⟩ : ∃ W1,w.alloc (.cells (dptC x).toArray 48)=W1:=⟨_,rfl⟩
 have x1:Blk W1 w.heap.size 48 (dptC x).toArray:=by rw [←hW1];exact Blk.new _ _ _
 have b1:Below w.heap.size w W1:=by rw [←hW1];exact (Below.refl _ _).alloc (Nat.le_refl _) _
 obtain ⟨W2,hW2⟩ : ∃ W2,W1.alloc (.cells (u8s n) 46)=W2:=⟨_,rfl⟩
 have bb2:Below W1.heap.size W1 W2:=by rw [←hW2];exact (Below.refl _ _).alloc (Nat.le_refl _) _
 have x2:=x1.below bb2 x1.lt
 have n2:Blk W2 W1.heap.size 46 (u8s n):=by rw [←hW2];exact Blk.new _ _ _
 have b2:=bthen b1 b1.size bb2
 have l1 : ∀ W,Below W2.heap.size W2 W→(ldvI ⟨w.heap.size,0,none⟩).run Tryz.prog W = .ok (.agg (u8s x.id)) W:=fun W hW=>by
  have:=range_blk (x2.below hW x2.lt)
  rw [List.toList_toArray] at this
  exact run_ldvI_at (dptC_id this) hx.1
 have l2 : ∀ W,Below W2.heap.size W2 W→(ldvI ⟨W1.heap.size,0,none⟩).run Tryz.prog W = .ok (.agg (u8s n)) W:=fun W hW=>run_ldvI_at (range_blk (n2.below hW n2.lt)) hn
 have hc:=fun (W:World)=>depthCompare_calls x.id n hx.1 hn W
 obtain ⟨NC,hNC⟩ : ∃ NC,u8s n=NC:=⟨_,rfl⟩
 obtain ⟨XC,hXC⟩ : ∃ XC,(dptC x).toArray=XC:=⟨_,rfl⟩
 obtain ⟨XD,hXD⟩ : ∃ XD,u8s x.id=XD:=⟨_,rfl⟩
 rw [hXC] at hW1 ⊢
 rw [hNC] at hW2 ⊢
 rw [hXD] at l1
 simp only [hNC] at l2
 simp only [hNC,hXD] at hc
 clear hNC hXC hXD x1 x2 n2 bb2
 go_enter Tryz.func87,Tryz.ntmps87
 have q1:=l1 W2 (Below.refl _ _)
 have q2:=l2 W2 (Below.refl _ _)
 have hc2:=Lib.hid ((hc W2).mono fun e w' (h:e = .returned (.int .i64 (Lib.compareBytes x.id n)) ∧ ∃ q os,w'=Go.Sort.grow (W2.drewN q) os)=>(⟨h.1,by obtain ⟨q,os,e2⟩:=h.2;rw [e2];exact below_grow (bdrewN (Below.refl _ _) q) (Nat.le_refl _) os⟩:e = .returned (.int .i64 (Lib.compareBytes x.id n))∧Below W2.heap.size W2 w'))
 clear l1 l2 hc
 go_wp2_with (first
  | ((with_reducible refine hc2.out.mono ?_);rintro e w5 ⟨rfl,hW5⟩))
 go_ret
 exact ⟨rfl,bthen b2 b2.size hW5⟩
theorem depPlace1_func (a:Array Value) (W:World):(callFunc 87 a).run Tryz.prog W = .ok (.enter 87 a) W:=by kernel_rfl
set_option maxRecDepth 100000 in
set_option maxHeartbeats 2000000 in
theorem depPlace_calls {w:World} {v:Value} {l:List DpL} (hv:Dpts w v l) (hok:DptsOk l) (hs:SortedK DpL.id l) (hbig:l.length≤1000000) (n:Txt) (hn:n.length=32) :
 Calls Tryz.prog 52 #[v, .agg (u8s n)] w fun e w'=>e = .returned (.tuple #[.int .i64 (posK DpL.id l n), .bool (hasK DpL.id l n)])∧Below w.heap.size w w':=by
 obtain ⟨W1,hW1,b1,n1,lid⟩:=boxId w n hn
 have hbs:=fun (W:World) (hW:Below W1.heap.size W1 W)=>bsfDpts_calls l hok hbig v W (hv.below (bthen b1 b1.size hW)) 87 depPlace1_func n hn (fun x=>Lib.compareBytes x.id n)
  (fun W2 x hx _=>depPlace1_calls x (hok x hx) n hn W2) (posK DpL.id l n) posK_le (fun i x hx=>by
    rw [←decide_eq_true_iff (p:=Lib.compareBytes x.id n<0),cmp_neg,sorted_at hs hx,decide_eq_true_iff])
 rw [←hasK_hit hs] at hbs
 obtain ⟨A,cap,rfl,_⟩:=hv
 obtain ⟨NC,hNC⟩ : ∃ NC,u8s n=NC:=⟨_,rfl⟩
 rw [hNC] at hW1 n1 ⊢
 simp only [hNC] at lid hbs
 clear hNC
 generalize posK DpL.id l n=P at *
 generalize hasK DpL.id l n=HB at *
 go_enter Tryz.func52,Tryz.ntmps52
 have q1:=lid W1 (Below.refl _ _)
 have hb1:=Lib.hid (hbs W1 (Below.refl _ _))
 clear lid hbs
 go_wp2_with (first
  | ((with_reducible refine hb1.out.mono ?_);rintro e w5 ⟨rfl,hW5⟩))
 go_ret2
 exact ⟨rfl,bthen b1 b1.size hW5⟩
end
theorem run_overlaps_dpts (w:World) (g vb o:Nat) (cur cv:Array Value) (e ev:TypeId) (hb:Blk w g e cur) (hv:Blk w vb ev cv) (hc:0<cur.size) (hne:vb≠g) (m vc lb cb:Nat) :
 (callFunc 88 #[.slice (some ⟨vb,0,none⟩) m vc, .slice (some ⟨g,o,none⟩) lb cb]).run Tryz.prog w = .ok (.value (.bool false)) w:=by
 have hsz : ∀ w,(Go.sizeOf 48).run Tryz.prog w = .ok 33 w:=fun w=>by
  obtain ⟨i,h1,_,h3,_⟩:=Tryz.dptTy.hi
  simp [sizeOf,typeInfo,h1,h3]
 rw [run_callFunc_extern Tryz.func88 (by kernel_rfl) (by kernel_rfl) (by kernel_rfl) (e:=Extern.SlicesOverlaps.overlaps #[37,37] #[4]) (by kernel_rfl),
  Lib.run_overlaps_apart w 37 4 48 Tryz.underlying37 33 hsz ⟨vb,0,none⟩ ⟨g,o,none⟩ m vc lb cb hne ev e cv.size cur.size (by unfold World.shape?;rw [show w.heap[vb]?=_ from hv]) (by unfold World.shape?;rw [show w.heap[g]?=_ from hb]) (by omega) (hv.frozen _) (hv.frozen _)]
 rfl
set_option maxRecDepth 100000 in
set_option maxHeartbeats 2000000 in
theorem insertDpts_room (l:List DpL) (hok:DptsOk l) (w:World) (g cap i vb:Nat) (x:DpL) (hx:DptOk x) (hrow:Row w g 48 33 dptC cap l) (hi:i<l.length) (hcap:l.length+1≤cap)
 (hv:Blk w vb 48 (dptC x).toArray) (hne:vb≠g) :
 Calls Tryz.prog 53 #[.slice (some ⟨g,0,none⟩) l.length cap, .int .i64 i, .slice (some ⟨vb,0,none⟩) 1 1] w fun e w'=>
  e = .returned (.slice (some ⟨g,0,none⟩) (l.length+1) cap)∧Row w' g 48 33 dptC cap (l.take i++[x]++l.drop i)∧w.grownBy w' (some g):=by
 have h63:=hrow.top63
 have hdl:(l.drop i).length=l.length-i:=List.length_drop
 have hdk : ∀ y∈l.drop i,(dptC y).length=33:=fun y hy=>dptK hok y (List.mem_of_mem_drop hy)
 have hbi:(0:Int)≤(i:Int)+1:=by omega
 have htn:((i:Int)+1).toNat=i+1:=by omega
 have hz2 : ¬ ((i:Int)=(l.length:Int)):=by omega
 have hil:(i:Int)≤(l.length:Int):=by omega
 have hil1:(i:Int)+1≤(l.length:Int)+1:=by omega
 have hil2:(i:Int)≤(l.length:Int)+1:=by omega
 have mixed:Tryz.prog.follows Departure.mixedOrders=true:=by kernel_rfl
 have hci : ¬ (cap=i):=by omega
 have hci1 : ¬ (cap=i+1):=by omega
 have hnc : ¬ ((cap:Int)<(l.length:Int)+1):=by omega
 have hcn:(l.length:Int)+1≤(cap:Int):=by omega
 have hw1:IntKind.i64.wrap ((i:Int)+1)=(i:Int)+1:=by rw [IntKind.wrap_i64];omega
 have hw2:IntKind.i64.wrap ((l.length:Int)+1)=(l.length:Int)+1:=by rw [IntKind.wrap_i64];omega
 have htl:((l.length:Int)+1).toNat=l.length+1:=by omega
 have hov : ∀ lb cb o,(callFunc 88 #[.slice (some ⟨vb,0,none⟩) 1 1, .slice (some ⟨g,o,none⟩) lb cb]).run Tryz.prog w = .ok (.value (.bool false)) w:=fun lb cb o=>by
  obtain ⟨cur,hb,hs⟩:=hrow.blk
  exact run_overlaps_dpts w g vb o cur _ _ _ hb hv (by rw [hs];omega) hne 1 1 lb cb
 have hput:=hrow.drew.put (dptK hok) hdk (i:=i+1) (by omega) (by omega)
 have hcp1 : ∀ ty dc sc,(Builtin.copy_ #[37,37] ty #[.slice (some ⟨g,(i+1)*33,none⟩) (l.length-i) dc, .slice (some ⟨g,i*33,none⟩) (l.length+1-i) sc]).run Tryz.prog w.drew = .ok (goInt ((l.drop i).length:Nat)) (w.drew.setCells g ((i+1)*33) (rowsOf dptC (l.drop i))):=fun ty dc sc=>
  run_copy_rows w.drew _ _ ty 48 g ((i+1)*33) _ dc ⟨g,i*33,none⟩ _ sc _ _ Tryz.underlying37 szDpt (by rw [hdl];simp only [Nat.min_def];split<;>omega) (rowsOf_length hdk)
   (range_news ((hrow.drew).range_from (dptK hok) i)) ((hrow.drew).there (by rw [rowsOf_length hdk,←Nat.add_mul];exact Nat.mul_le_mul_right _ (by omega))) (dptOne _)
 obtain ⟨W1,hW1⟩ : ∃ W1,W1=w.drew.setCells g ((i+1)*33) (rowsOf dptC (l.drop i)):=⟨_,rfl⟩
 have hbel1:w.grownBy W1 (some g):=by rw [hW1];exact grown_cells (grown_drew (grown_refl' w _)) _ _
 rw [←hW1] at hcp1 hput
 have hv1:Blk W1 vb 48 (dptC x).toArray:=by
  rw [hW1]
  exact hv.drew.setCells_far hne _ _ _
 have hs2:DptsOk (l.take (i+1)++l.drop i++l.drop (i+1+(l.drop i).length)):=by
  intro y hy
  simp only [List.mem_append] at hy
  rcases hy with (hy | hy) | hy
  ·exact hok y (List.mem_of_mem_take hy)
  ·exact hok y (List.mem_of_mem_drop hy)
  ·exact hok y (List.mem_of_mem_drop hy)
 have hset:=hput.set (dptK hs2) (i:=i) (by simp;omega) (dptC_len hx)
 rw [ins_place hi] at hset
 have hcp2 : ∀ ty dc,(Builtin.copy_ #[37,37] ty #[.slice (some ⟨g,i*33,none⟩) (l.length+1-i) dc, .slice (some ⟨vb,0,none⟩) 1 1]).run Tryz.prog W1 = .ok (goInt (1:Nat)) (W1.setCells g (i*33) (dptC x)):=fun ty dc=>
  run_copy_rows W1 _ _ ty 48 g (i*33) _ dc ⟨vb,0,none⟩ _ 1 _ _ Tryz.underlying37 szDpt (by simp only [Nat.min_def];split<;>omega) (by rw [dptC_len hx])
   (range_news (range_blkDpt hv1)) (hput.there (by rw [dptC_len hx];omega)) (dptC_one x)
 have hbel2:=grown_cells hbel1 (i*33) (dptC x)
 clear hput hv hv1 hrow hs2 hdk hW1
 go_enter Tryz.func53,Tryz.ntmps53
 go_wp2_with (simp only [hov])
 go_region_law_o (refine step_copy_run rfl _ _ 37 37 rfl (.slice (some ⟨g,(i+1)*33,none⟩) (l.length-i) (cap-(i+1))) (.slice (some ⟨g,i*33,none⟩) (l.length+1-i) (cap-i)) (by simp [Act.eval,Act.put]) (by simp [Act.eval,Act.put]) (hcp1 _ _ _) ?_)
 go_wp2_with (at_builtin;refine wpList_copy_run _ rfl _ _ 37 37 rfl _ _ rfl rfl (hcp2 _ _) ?_)
 go_ret
 exact ⟨rfl,hset,hbel2⟩
set_option maxRecDepth 100000 in
set_option maxHeartbeats 500000 in
theorem insertDpts_grow (l:List DpL) (hok:DptsOk l) (hbig:l.length≤1000000) (w:World) (base g cap i vb:Nat) (x:DpL) (hx:DptOk x) (hbase:base≤w.heap.size) (hrow:Row w g 48 33 dptC cap l) (hi:i<l.length) (hcap:cap<l.length+1)
 (hv:Blk w vb 48 (dptC x).toArray) :
 Calls Tryz.prog 53 #[.slice (some ⟨g,0,none⟩) l.length cap, .int .i64 i, .slice (some ⟨vb,0,none⟩) 1 1] w fun e w'=>
  ∃ G,e = .returned (.slice (some ⟨w.heap.size,0,none⟩) (l.length+1) G)∧Row w' w.heap.size 48 33 dptC G (l.take i++[x]++l.drop i)∧Below base w w':=by
 have h63:=hrow.top63
 have hle:=hrow.le
 have hgw:=hrow.lt
 have hdl:(l.drop i).length=l.length-i:=List.length_drop
 have htkl:(l.take i).length=i:=by simp;omega
 have hdk : ∀ y∈l.drop i,(dptC y).length=33:=fun y hy=>dptK hok y (List.mem_of_mem_drop hy)
 have htk : ∀ y∈l.take i,(dptC y).length=33:=fun y hy=>dptK hok y (List.mem_of_mem_take hy)
 have hbi:(0:Int)≤(i:Int)+1:=by omega
 have htn:((i:Int)+1).toNat=i+1:=by omega
 have hz2 : ¬ ((i:Int)=(l.length:Int)):=by omega
 have hil:(i:Int)≤(l.length:Int):=by omega
 have hil0:(i:Int)≤(cap:Int):=by omega
 have hil1:(i:Int)+1≤(l.length:Int)+1:=by omega
 have hil2:(i:Int)≤(l.length:Int)+1:=by omega
 have mixed:Tryz.prog.follows Departure.mixedOrders=true:=by kernel_rfl
 have hci : ¬ (cap=i):=by omega
 have hnc:(cap:Int)<(l.length:Int)+1:=by omega
 have hw1:IntKind.i64.wrap ((i:Int)+1)=(i:Int)+1:=by rw [IntKind.wrap_i64];omega
 have hw2:IntKind.i64.wrap ((l.length:Int)+1)=(l.length:Int)+1:=by rw [IntKind.wrap_i64];omega
 have hw3:IntKind.i64.wrap ((l.length:Int)+1-(i:Int))=(l.length:Int)+1-(i:Int):=by rw [IntKind.wrap_i64];omega
 have hkk:(l.length:Int)+1-(i:Int)=((l.length+1-i:Nat):Int):=by omega
 have hik:i+(l.length+1-i)=l.length+1:=by omega
 obtain ⟨i0,hi0,hz0,hzs,hzb⟩:=Tryz.dptTy.hi
 have hold:(Builtin.firstCells i0.size i (.slice (some ⟨g,0,none⟩) i cap)).run Tryz.prog w.drew = .ok (rowsOf dptC (l.take i)).toArray w.drew:=by
  rw [hzs]
  refine run_firstCells_some w.drew 33 i ⟨g,0,none⟩ i cap _ (by rw [rowsOf_length htk,htkl]) (range_news ?_)
  have:=(hrow.cut i).drew.range_from htk 0
  rw [Nat.zero_mul,List.drop_zero] at this
  exact this
 have hrz : ∀ ty,(Builtin.append_ #[37,3] ty #[.slice (some ⟨g,0,none⟩) i cap, .int .i64 ((l.length:Int)+1-(i:Int))]).run Tryz.prog w =
  .ok (.slice (some ⟨w.heap.size,0,none⟩) (l.length+1) (grownCap w (l.length+1) cap 48)) (w.drew.alloc (.cells ((rowsOf dptC (l.take i)).toArray++Builtin.zeroCells zDpt.cells (l.length+1-i)++Builtin.zeroCells zDpt.cells (grownCap w (l.length+1) cap 48-(l.length+1))) 48)):=fun ty=>by
  have h:=Lib.run_append_grow_zeros w 37 3 ty 48 i0 _ .i64 .i64 Tryz.underlying37 Tryz.underlying3 hi0 hz0 (some ⟨g,0,none⟩) i cap (rowsOf dptC (l.take i)) hold (l.length+1-i) (by omega) (by omega) (by omega) (by omega) (by rw [hzb];omega) (by rw [hzb,hik];exact growslice_fits hcap (by omega))
  rw [hik] at h
  rw [hkk]
  exact h
 obtain ⟨G,hG⟩ : ∃ G,G=grownCap w (l.length+1) cap 48:=⟨_,rfl⟩
 have hGn:l.length+1≤G:=by rw [hG];exact grownCap_ge w _ _ _
 have hGt:G≤maxLen:=by rw [hG];exact grownCap_le_maxLen w _ cap _ (by unfold maxLen;omega)
 have hG63:G≤9223372036854775807:=by simpa [maxLen] using hGt
 rw [←hG] at hrz
 have hnew:=Row.of_new (s:=l.take i) (enc:=dptC) (e:=48) (cap:=G) htk w.drew (Builtin.zeroCells zDpt.cells (l.length+1-i)++Builtin.zeroCells zDpt.cells (G-(l.length+1))) (by
  rw [htkl,Array.size_append,size_zeroCells,size_zeroCells,zDpt_cells];omega) (by rw [htkl];omega) hGt
 rw [←Array.append_assoc] at hnew
 have hbel0:Below base w (w.drew.alloc (.cells ((rowsOf dptC (l.take i)).toArray++Builtin.zeroCells zDpt.cells (l.length+1-i)++Builtin.zeroCells zDpt.cells (G-(l.length+1))) 48)):=(Below.refl _ _).drew.alloc hbase _
 have hoff:Below w.heap.size w (w.drew.alloc (.cells ((rowsOf dptC (l.take i)).toArray++Builtin.zeroCells zDpt.cells (l.length+1-i)++Builtin.zeroCells zDpt.cells (G-(l.length+1))) 48)):=(Below.refl _ _).drew.alloc (Nat.le_refl _) _
 obtain ⟨W1,hW1⟩ : ∃ W1,W1=w.drew.alloc (.cells ((rowsOf dptC (l.take i)).toArray++Builtin.zeroCells zDpt.cells (l.length+1-i)++Builtin.zeroCells zDpt.cells (G-(l.length+1))) 48):=⟨_,rfl⟩
 rw [←hW1] at hrz hnew hbel0 hoff
 clear hW1 hG
 have hold1:=hrow.below hoff
 have hv1:=hv.below hoff hv.lt
 obtain ⟨N,hN⟩ : ∃ N,N=w.heap.size:=⟨_,rfl⟩
 have hgN:g≠N:=by omega
 have hbN:base≤N:=by omega
 have hnew':Row W1 N 48 33 dptC G (l.take i):=by rw [hN];exact hnew
 rw [←hN] at hrz ⊢
 clear hnew hoff hold hN
 have hput:=hnew'.put htk (t:=[x]) (fun y hy=>by simp at hy;subst hy;exact dptC_len hx) (i:=i) (by omega) (by simp;omega)
 have e1:(l.take i).take i=l.take i:=List.take_of_length_le (by omega)
 have e2:(l.take i).drop (i+[x].length)=[]:=List.drop_of_length_le (by simp;omega)
 rw [rowsOf_one,e1,e2,List.append_nil] at hput
 have hcp1 : ∀ ty dc,(Builtin.copy_ #[37,37] ty #[.slice (some ⟨N,i*33,none⟩) (l.length+1-i) dc, .slice (some ⟨vb,0,none⟩) 1 1]).run Tryz.prog W1 = .ok (goInt (1:Nat)) (W1.setCells N (i*33) (dptC x)):=fun ty dc=>
  run_copy_rows W1 _ _ ty 48 N (i*33) _ dc ⟨vb,0,none⟩ _ 1 _ _ Tryz.underlying37 szDpt (by simp only [Nat.min_def];split<;>omega) (by rw [dptC_len hx])
   (range_news (range_blkDpt hv1)) (hnew'.there (by rw [dptC_len hx];omega)) (dptC_one x)
 have hbel1:=below_setCells (dptC x) (i*33) w W1 hbel0 hbN
 have hold2:Row (W1.setCells N (i*33) (dptC x)) g 48 33 dptC cap l:=by
  obtain ⟨cur,hb,hs⟩:=hold1.blk
  exact ⟨⟨cur,hb.setCells_far hgN _ _ _,hs⟩,fun j y hy=>World.rangeAt_setCells_apart (hold1.at_ j y hy) _ _ _ (.inl hgN),hold1.le,hold1.top⟩
 obtain ⟨W2,hW2⟩ : ∃ W2,W2=W1.setCells N (i*33) (dptC x):=⟨_,rfl⟩
 rw [←hW2] at hcp1 hput hbel1 hold2
 clear hW2 hold1 hv1 hnew' hbel0 hrow hv
 have hk2 : ∀ y∈l.take i++[x],(dptC y).length=33:=by
  intro y hy
  rcases List.mem_append.1 hy with hy | hy
  ·exact htk y hy
  ·simp at hy;subst hy;exact dptC_len hx
 have hput2:=hput.drew.put hk2 hdk (i:=i+1) (by simp;omega) (by omega)
 have e3:(l.take i++[x]).take (i+1)=l.take i++[x]:=List.take_of_length_le (by simp;omega)
 have e4:(l.take i++[x]).drop (i+1+(l.drop i).length)=[]:=List.drop_of_length_le (by simp;omega)
 rw [e3,e4,List.append_nil] at hput2
 have hcp2 : ∀ ty dc sc,(Builtin.copy_ #[37,37] ty #[.slice (some ⟨N,(i+1)*33,none⟩) (l.length-i) dc, .slice (some ⟨g,i*33,none⟩) (l.length-i) sc]).run Tryz.prog W2.drew = .ok (goInt ((l.drop i).length:Nat)) (W2.drew.setCells N ((i+1)*33) (rowsOf dptC (l.drop i))):=fun ty dc sc=>
  run_copy_rows W2.drew _ _ ty 48 N ((i+1)*33) _ dc ⟨g,i*33,none⟩ _ sc _ _ Tryz.underlying37 szDpt (by rw [hdl];simp only [Nat.min_def];split<;>omega) (rowsOf_length hdk)
   (range_news (hold2.drew.range_from (dptK hok) i)) (hput.drew.there (by rw [rowsOf_length hdk,←Nat.add_mul];exact Nat.mul_le_mul_right _ (by omega))) (dptOne _)
 have hbel2:=below_setCells (rowsOf dptC (l.drop i)) ((i+1)*33) w W2.drew hbel1.drew hbN
 obtain ⟨W3,hW3⟩ : ∃ W3,W3=W2.drew.setCells N ((i+1)*33) (rowsOf dptC (l.drop i)):=⟨_,rfl⟩
 rw [←hW3] at hcp2 hput2 hbel2
 clear hW3 hput hold2 hk2 hdk htk hbel1 e1 e2 e3 e4 hi0 hz0 hzs hzb hbig hGt hkk hik hdl htkl hgw
 have hGi : ¬ (G=i):=by omega
 have hGim : ¬ (G=i+1):=by omega
 go_enter Tryz.func53,Tryz.ntmps53
 go_wp2_with (first
  | (at_builtin;refine Lib.wpList_append_run _ rfl _ _ _ _ rfl _ _ rfl rfl _ _ (hrz _) ?_)
  | (at_builtin;refine wpList_copy_run _ rfl _ _ 37 37 rfl _ _ rfl rfl (hcp1 _ _) ?_))
 go_region_law_o (refine step_copy_run rfl _ _ 37 37 rfl (.slice (some ⟨N,(i+1)*33,none⟩) (l.length-i) (G-(i+1))) (.slice (some ⟨g,i*33,none⟩) (l.length-i) (cap-i)) (by simp [Act.eval,Act.put]) (by simp [Act.eval,Act.put]) (hcp2 _ _ _) ?_)
 go_wp2
 go_ret
 exact ⟨G,rfl,hput2,hbel2⟩
theorem dptsOk_ins {l:List DpL} (hok:DptsOk l) (i:Nat) {x:DpL} (hx:DptOk x):DptsOk (l.take i++[x]++l.drop i):=by
 intro y hy
 simp only [List.mem_append,List.mem_singleton] at hy
 rcases hy with (hy | rfl) | hy
 ·exact hok y (List.mem_of_mem_take hy)
 ·exact hx
 ·exact hok y (List.mem_of_mem_drop hy)
set_option maxRecDepth 100000 in
set_option maxHeartbeats 500000 in
theorem insertDpts_end (l:List DpL) (hok:DptsOk l) (hbig:l.length≤1000000) (v:Value) (w:World) (base vb:Nat) (x:DpL) (hx:DptOk x) (hbase:base≤w.heap.size) (hown:OwnDpts w base v l)
 (hv:Blk w vb 48 (dptC x).toArray) :
 Calls Tryz.prog 53 #[v, .int .i64 (l.length:Nat), .slice (some ⟨vb,0,none⟩) 1 1] w fun e w'=>
  ∃ v',e = .returned v'∧OwnDpts w' base v' (l++[x])∧w.grownBy w' v.ownBlock∧Newer w v v':=by
 have hcap : ∃ A cap,v = .slice A l.length cap∧l.length≤cap∧cap≤9223372036854775807∧(A=none→l.length=0∧cap=0):=by
  rcases Row.of_own (dptK hok) hown with ⟨rfl,rfl⟩ | ⟨g,cap,rfl,hg,hrow⟩
  ·exact ⟨none,0,rfl,by simp,by omega,fun _=>⟨rfl,rfl⟩⟩
  ·exact ⟨_,cap,rfl,hrow.le,hrow.top63,fun h=>by cases h⟩
 obtain ⟨A,cap,rfl,hc1,hc2,hnil⟩:=hcap
 have hlk:=dptC_len hx
 have hone : ∀ u∈(dptC x).toArray.toList,u.oneCell'=true:=fun u hu=>dptC_one x u (by simpa using hu)
 have h1:l.length+1≤9223372036854775807:=by omega
 have h2:(l.length+1)*40≤140737488355328:=by omega
 have hlen:l.length≤9223372036854775807:=by omega
 clear hbig
 go_enter Tryz.func53,Tryz.ntmps53
 go_wp2_with (first
  | (at_builtin
     (with_reducible refine lit_append_at (.tmp 23) (.tmp 24) 1 _ Tryz.dptTy hown hv (by rw [List.size_toArray,hlk]) hone h1 h2 hbase ?_ ?_ ?_);rfl;rfl
     intro v' w' hown3 hg3 hnw3))
 all_goals
  go_ret
  have hown4:OwnDpts w' base v' (l++[x]):=by
   unfold OwnDpts
   rw [List.length_append,List.length_singleton,rowsOf_append,rowsOf_one]
   exact hown3
  first
   | exact ⟨_,rfl,hown4,hg3,hnw3⟩
   | exact ⟨_,rfl,hown4,by cases A<;>exact hg3,by cases A<;>exact hnw3⟩
theorem insertDpts_calls (l:List DpL) (hok:DptsOk l) (hbig:l.length≤1000000) (v:Value) (w:World) (base i vb:Nat) (x:DpL) (hx:DptOk x) (hbase:base≤w.heap.size) (hown:OwnDpts w base v l) (hi:i≤l.length)
 (hv:Blk w vb 48 (dptC x).toArray) (hne:v.ownBlock≠some vb) :
 Calls Tryz.prog 53 #[v, .int .i64 i, .slice (some ⟨vb,0,none⟩) 1 1] w fun e w'=>
  ∃ v',e = .returned v'∧OwnDpts w' base v' (l.take i++[x]++l.drop i)∧w.grownBy w' v.ownBlock∧Newer w v v':=by
 rcases Nat.lt_or_ge i l.length with hlt | hge
 ·rcases Row.of_own (dptK hok) hown with ⟨rfl,rfl⟩ | ⟨g,cap,rfl,hg,hrow⟩
  ·simp at hlt
  have hlen:l.length+1=(l.take i++[x]++l.drop i).length:=by simp;omega
  by_cases hcap:l.length+1≤cap
  ·refine (insertDpts_room l hok w g cap i vb x hx hrow hlt hcap hv (fun e=>hne (by rw [e];rfl))).mono ?_
   rintro e w' ⟨rfl,h1,h2⟩
   exact ⟨_,rfl,OwnDpts.of_row (dptsOk_ins hok i hx) h1 hg hlen,h2, .inl rfl⟩
  ·refine (insertDpts_grow l hok hbig w w.heap.size g cap i vb x hx (Nat.le_refl _) hrow hlt (by omega) hv).mono ?_
   rintro e w' ⟨G,rfl,h1,h2⟩
   exact ⟨_,rfl,OwnDpts.of_row (dptsOk_ins hok i hx) h1 hbase hlen,grown_of_below h2 _, .inr fun k hk=>by simp only [Value.ownBlock,Option.some.injEq] at hk;omega⟩
 ·obtain rfl:i=l.length:=by omega
  rw [List.take_length,List.drop_length,List.append_nil]
  exact insertDpts_end l hok hbig v w base vb x hx hbase hown hv
section
attribute [local go_sem ↓] ldvI_eq
instance : Inhabited DiL:=⟨⟨⟨[],[]⟩,zeroO, .slice none 0 0, .slice none 0 0⟩⟩
def ndC (e:DiL):List Value:=(u8s e.st.id).toList++objC e.o e.ve e.vp
theorem ndC_len {w:World} {e:DiL} (h:DitOk w e):(ndC e).length=104:=by
 unfold ndC
 rw [List.length_append,u8s_lenS,h.id,objC_len h.val.ok]
section
variable {w w':World} {g o:Nat} {e:DiL}
theorem DitOk.same {e:DiL} (h:DitOk w e) (h1 : ∀ k,e.ve.ownBlock=some k→w'.heap[k]?=w.heap[k]?) (h2 : ∀ k,e.vp.ownBlock=some k→w'.heap[k]?=w.heap[k]?):DitOk w' e:=⟨h.dec,h.id,h.ok,own_same h.oe h1,own_same h.op h2⟩
theorem DitOk.far {S:List (Option Nat)} {e:DiL} (h:DitOk w e) (hf:Far S w w') (h1 : ∀ k,e.ve.ownBlock=some k→some k ∉ S) (h2 : ∀ k,e.vp.ownBlock=some k→some k ∉ S):DitOk w' e:=⟨h.dec,h.id,h.ok,hf.own h.oe h1,hf.own h.op h2⟩
end
abbrev OwnNds (w:World) (B:Nat) (v:Value) (l:List DiL):Prop:=w.ownsRow B 94 104 v l.length (rowsOf ndC l)
structure QAt (w:World) (B:Nat) (v:Value) (Q:List DiL):Prop where
 own:OwnNds w B v Q
 each : ∀ e∈Q,DitOk w e
section
variable {w w':World} {B:Nat} {v:Value} {Q:List DiL}
theorem QAt.len (h:QAt w B v Q) : ∀ e∈Q,(ndC e).length=104:=fun e he=>ndC_len (h.each e he)
theorem QAt.at_ (h:QAt w B v Q):SliceAt w 104 ndC v Q:=SliceAt.of_own h.len h.own
theorem QAt.below (h:QAt w B v Q) (hb:Below w.heap.size w w'):QAt w' B v Q:=⟨own_below h.own hb,fun e he=>(h.each e he).below hb⟩
theorem QAt.apart (h:QAt w B v Q) {e:DiL} (he:DitOk w e):(∀ k,e.ve.ownBlock=some k→some k ∉ [v.ownBlock]) ∧ ∀ k,e.vp.ownBlock=some k→some k ∉ [v.ownBlock]:=
 ⟨fun k hk hm=>own_ne he.oe h.own (by decide) k hk (List.mem_singleton.1 hm).symm,fun k hk hm=>own_ne he.op h.own (by decide) k hk (List.mem_singleton.1 hm).symm⟩
end
def ltN (a b:DiL):Bool:=aheadL a.o.time b.o.time a.st.id b.st.id
theorem ltN_ord : Ord ltN:=ahead_ord (fun e:DiL=>e.o.time) (fun e=>e.st.id)
end
section
def ldvN (p:Addr):Sem Value:=loadVar 94 p
theorem ldvN_eq (p:Addr):loadVar 94 p=ldvN p:=rfl
def stvN (p:Addr) (v:Value):Sem Unit:=storeVar 94 p v
theorem stvN_eq (p:Addr) (v:Value):storeVar 94 p v=stvN p v:=rfl
section
attribute [local go_sem ↓] ldvN_eq stvN_eq
end
section
variable {P:Program} {ops:Array Oper} {w0:World} {rows:List (Option Nat)} {pres:Pres} {sps:List Sp} {E:Act→Facts→Prop} {i:Nat} {rest:List Oper} {s:Sp} {ss:List Sp} {a:Act} {D:Facts}
end
structure WqAt (w:World) (B g:Nat) (vs vq vn:Value) (Q:List DiL):Prop where
 blk:Blk w g 89 #[vs,vq,vn]
 q:QAt w B vq Q
section
variable {w w':World} {B g:Nat} {vs vq vn:Value} {Q:List DiL}
theorem WqAt.c1 (h:WqAt w B g vs vq vn Q):w.cell? ⟨g,1,none⟩=some vq:=by rw [h.blk.cell];rfl
theorem WqAt.below (h:WqAt w B g vs vq vn Q) (hb:Below w.heap.size w w'):WqAt w' B g vs vq vn Q:=⟨h.blk.below hb h.blk.lt,h.q.below hb⟩
theorem WqAt.apart (h:WqAt w B g vs vq vn Q) {e:DiL} (he:DitOk w e):(∀ k,e.ve.ownBlock=some k→some k ∉ [some g,vq.ownBlock]) ∧ ∀ k,e.vp.ownBlock=some k→some k ∉ [some g,vq.ownBlock]:=by
 obtain ⟨a1,a2⟩:=h.q.apart he
 refine ⟨fun k hk hm=>?_,fun k hk hm=>?_⟩
 ·rcases List.mem_cons.1 hm with h1 | h1
  ·exact own_blk_ne he.oe h.blk (by decide) (h1.symm.trans hk.symm)
  ·exact a1 k hk h1
 ·rcases List.mem_cons.1 hm with h1 | h1
  ·exact own_blk_ne he.op h.blk (by decide) (h1.symm.trans hk.symm)
  ·exact a2 k hk h1
end
attribute [local go_sem ↓] ldvN_eq
end
section
section
variable (n:Nat) {g:Nat} {v:Value} {w:World} (h:w.cell? ⟨g,1,none⟩=some v)
include h
end
section
variable {w w':World} {B g:Nat} {vs vq vn:Value} {Q:List DiL}
theorem WqAt.swap (h:WqAt w B g vs vq vn Q) {Q':List DiL} (hq:QAt w' B vq Q') (hf:Far [vq.ownBlock] w w'):WqAt w' B g vs vq vn Q':=
 ⟨hf.blk h.blk fun hm=>own_blk_ne h.q.own h.blk (by decide) (List.mem_singleton.1 hm),hq⟩
theorem QAt.mem (h:QAt w B vq Q) {i:Nat} (hi:i<Q.length):DitOk w (atQ Q i):=h.each _ (List.mem_of_getElem? (atQ_get hi))
end
end
section
section
variable {S:List StL} {Q:List DiL} {seen out:List Txt}
theorem left_seen {n:Txt} (h:n ∉ out):leftW (seen++[n]) out=leftW seen out++[n]:=by
 unfold leftW
 rw [List.filter_append]
 congr 1
 cases hi:inL out n with
 | true=>exact absurd (inL_iff.1 hi) h
 | false=>simp [hi]
end
structure WalkAt (S:List StL) (w:World) (B g:Nat) (vs vq vn:Value) (Q:List DiL) (seen out:List Txt):Prop where
 q:WqAt w B g vs vq vn Q
 sn:OwnIds w B vn (sortU seen)
 ok : ∀ x∈seen,x.length=32
 heap:HeapQ ltN Q Q.length
 perm:(Q.map fun e=>e.st.id).Perm (leftW seen out)
 obj : ∀ e∈Q,objS S e.st.id=some e.o
 wi:WalkI S seen out
section
variable {S:List StL} {w w':World} {B g:Nat} {vs vq vn:Value} {Q:List DiL} {seen out:List Txt}
theorem WalkAt.below (h:WalkAt S w B g vs vq vn Q seen out) (hb:Below w.heap.size w w'):WalkAt S w' B g vs vq vn Q seen out:=⟨h.q.below hb,own_below h.sn hb,h.ok,h.heap,h.perm,h.obj,h.wi⟩
theorem WalkAt.len (h:WalkAt S w B g vs vq vn Q seen out):Q.length≤S.length:=by
 have h1:=h.perm.length_eq
 rw [List.length_map] at h1
 have h2:(leftW seen out).length≤seen.length:=List.length_filter_le _ _
 have:=h.wi.len.1
 omega
theorem WqAt.setRow (h:WqAt w B g vs vq vn Q) {k:Nat} {T:TypeId} {c0:Array Value} (hk:Blk w k T c0) (h1:k≠g) (h2:vq.ownBlock≠some k) (h3:132≠T) (h4:46≠T) (cs:Array Value):WqAt (w.setRow k cs) B g vs vq vn Q:=
 ⟨keep_row h.blk (fun e=>h1 e.symm) cs,own_same h.q.own fun j hj=>setRow_other _ _ _ _ fun e=>h2 (e▸hj),fun e he=>(h.q.each e he).same (fun j hj=>setRow_other _ _ _ _ fun e'=>own_blk_ne (h.q.each e he).oe hk h3 (by rw [hj,e'])) fun j hj=>setRow_other _ _ _ _ fun e'=>own_blk_ne (h.q.each e he).op hk h4 (by rw [hj,e'])⟩
end
section
attribute [local go_sem ↓] ldvN_eq
end
end
section
def bldN (fs:Array (Nat×Value)):Sem Value:=Instr.build 94 fs
theorem bldN_eq (fs:Array (Nat×Value)):Instr.build 94 fs=bldN fs:=rfl
attribute [local go_sem ↓] ldvI_eq ldvO_eq bldN_eq
theorem sortU_snoc (l:List Txt) (x:Txt):sortU (l++[x])=insU (sortU l) x:=by unfold sortU;rw [List.foldl_append];rfl
structure WalkB (S:List StL) (w:World) (B g:Nat) (vs vq vn:Value) (Q:List DiL) (seen out:List Txt):Prop where
 at_:WalkAt S w B g vs vq vn Q seen out
 ap : ∀ e∈Q,Ap e.vp vn
section
variable {S:List StL} {w w':World} {B g:Nat} {vs vq vn:Value} {Q:List DiL} {seen out:List Txt}
theorem WalkB.below (h:WalkB S w B g vs vq vn Q seen out) (hb:Below w.heap.size w w'):WalkB S w' B g vs vq vn Q seen out:=⟨h.at_.below hb,h.ap⟩
theorem WalkB.set_ (h:WalkB S w B g vs vq vn Q seen out) {vn':Value} (hb:Blk w' g 89 #[vs,vq,vn']) (hf:Far [some g,vn.ownBlock] w w'):WqAt w' B g vs vq vn' Q:=by
 have hq : ∀ {e:DiL},e∈Q→DitOk w' e:=fun {e} he=>by
  have hd:=h.at_.q.q.each e he
  refine hd.far hf (fun k hk hm=>?_) (fun k hk hm=>?_)
  ·rcases List.mem_cons.1 hm with h1 | h1
   ·exact own_blk_ne hd.oe h.at_.q.blk (by decide) (h1.symm.trans hk.symm)
   ·exact own_ne hd.oe h.at_.sn (by decide) k hk (List.mem_singleton.1 h1).symm
  ·rcases List.mem_cons.1 hm with h1 | h1
   ·exact own_blk_ne hd.op h.at_.q.blk (by decide) (h1.symm.trans hk.symm)
   ·exact h.ap e he k hk (List.mem_singleton.1 h1).symm
 refine ⟨hb,hf.own h.at_.q.q.own (fun k hk hm=>?_),fun e he=>hq he⟩
 rcases List.mem_cons.1 hm with h1 | h1
 ·exact own_blk_ne h.at_.q.q.own h.at_.q.blk (by decide) (h1.symm.trans hk.symm)
 ·exact own_ne h.at_.q.q.own h.at_.sn (by decide) k hk (List.mem_singleton.1 h1).symm
end
def OfferR (S:List StL) (w:World) (B g:Nat) (vs vq vn:Value) (Q:List DiL) (seen' out:List Txt) (w':World):Prop := ∃ vq' vn' Q',WalkB S w' B g vs vq' vn' Q' seen' out∧(∀ e∈Q',e∈Q ∨ ∀ k,e.vp.ownBlock=some k→w.heap.size≤k)∧Far [some g,vq.ownBlock,vn.ownBlock] w w'∧Newer w vn vn'
section
variable {S:List StL} {w w5 w6 w7:World} {B g:Nat} {vs vq vn vn6 vq7:Value} {Q:List DiL} {seen out:List Txt} {n:Txt} {e0:DiL}
theorem Far.offer {T:List (Option Nat)} (hb:Below w.heap.size w w5) (hf:Far T w5 w6) (hT : ∀ k,some k∈T→some k∈[some g,vq.ownBlock,vn.ownBlock]):Far [some g,vq.ownBlock,vn.ownBlock] w w6:=(Far.of_below hb).trans (hf.mono hT)
theorem OfferR.old (h:WalkB S w B g vs vq vn Q seen out) (hb:Below w.heap.size w w5) (hs:SetIn w6 B g 2 89 #[vs,vq,vn6] vn6 (sortU seen)) (hf:Far [some g,vn.ownBlock] w5 w6) (hn:Newer w5 vn vn6):OfferR S w B g vs vq vn Q seen out w6:=by
 have h5:=h.below hb
 refine ⟨vq,vn6,Q,⟨⟨h5.set_ hs.blk hf,hs.own,h.at_.ok,h.at_.heap,h.at_.perm,h.at_.obj,h.at_.wi⟩,fun e he=>((h.ap e he).symm.newer hn fun k hk=>(World.ownsRow.lt (h5.at_.q.q.each e he).op k hk).2).symm⟩,fun e he => .inl he,Far.offer hb hf fun k hk=>?_,(Newer.refl w vn).then_ hn hb.size⟩
 rcases List.mem_cons.1 hk with h1 | h1
 ·rw [h1];exact List.mem_cons_self
 ·rw [List.mem_singleton.1 h1];simp
theorem OfferR.new (h:WalkB S w B g vs vq vn Q seen out) (hb:Below w.heap.size w w5) (hs:SetIn w6 B g 2 89 #[vs,vq,vn6] vn6 (insU (sortU seen) n)) (hf:Far [some g,vn.ownBlock] w5 w6) (hn:Newer w5 vn vn6)
 (hd5:DitOk w5 e0) (hid:e0.st.id=n) (hobj:objS S n=some e0.o) (hk:kindS S n=3) (hi:inL seen n=false) (hvp : ∀ k,e0.vp.ownBlock=some k→w.heap.size≤k) (h7:WqAt w7 B g vs vq7 vn6 (upQ ltN (Q.length+1) (Q++[e0]) Q.length)) (hf7:Far [some g,vq.ownBlock] w6 w7):OfferR S w B g vs vq vn Q (seen++[n]) out w7:=by
 have h5:=h.below hb
 obtain ⟨p1,p2⟩:=heap_push ltN_ord h.at_.heap e0
 have hlen:(upQ ltN (Q.length+1) (Q++[e0]) Q.length).length=Q.length+1:=by rw [upQ_len,List.length_append];rfl
 obtain ⟨U,hU⟩ : ∃ U,upQ ltN (Q.length+1) (Q++[e0]) Q.length=U:=⟨_,rfl⟩
 rw [hU] at p1 p2 hlen h7
 have hmem : ∀ e∈U,e∈Q∨e=e0:=fun e he=>by
  rcases List.mem_append.1 (p2.mem_iff.1 he) with h1 | h1
  ·exact .inl h1
  ·exact .inr (List.mem_singleton.1 h1)
 have hno:n ∉ out:=fun hm=>by
  rw [inL_iff.2 (h.at_.wi.sub n hm)] at hi
  cases hi
 have hsn:OwnIds w7 B vn6 (sortU (seen++[n])):=by
  rw [sortU_snoc]
  refine hf7.own hs.own fun k hk hm=>?_
  rcases List.mem_cons.1 hm with h1 | h1
  ·exact own_blk_ne hs.own hs.blk (by decide) (h1.symm.trans hk.symm)
  ·have hq6:=(h5.set_ hs.blk hf).q.own
   exact own_ne hs.own hq6 (by decide) k hk (List.mem_singleton.1 h1).symm
 have hvn : ∀ k,vn.ownBlock=some k→k<w.heap.size:=fun k hk=>(World.ownsRow.lt h.at_.sn k hk).2
 refine ⟨vq7,vn6,U,⟨⟨h7,hsn,fun x hx=>?_,by rw [hlen];exact p1,?_,fun e he=>?_,⟨nodup_more h.at_.wi.nd hi,fun x hx=>?_,fun x hx=>List.mem_append_left _ (h.at_.wi.sub x hx),h.at_.wi.ndo⟩⟩,fun e he=>?_⟩,fun e he=>?_,?_,(Newer.refl w vn).then_ hn hb.size⟩
 ·rcases List.mem_append.1 hx with h1 | h1
  ·exact h.at_.ok x h1
  ·rw [List.mem_singleton.1 h1,←hid];exact hd5.id
 ·rw [left_seen hno]
  have h1:=p2.map fun e=>e.st.id
  rw [List.map_append] at h1
  refine h1.trans ?_
  show (Q.map (fun e=>e.st.id)++[e0.st.id]).Perm _
  rw [hid]
  exact h.at_.perm.append_right _
 ·rcases hmem e he with h1 | rfl
  ·exact h.at_.obj e h1
  ·rw [hid];exact hobj
 ·rcases List.mem_append.1 hx with h1 | h1
  ·exact h.at_.wi.k3 x h1
  ·rw [List.mem_singleton.1 h1];exact hk
 ·rcases hmem e he with h1 | rfl
  ·exact ((h.ap e h1).symm.newer hn fun k hk=>(World.ownsRow.lt (h5.at_.q.q.each e h1).op k hk).2).symm
  ·have ha:Ap vn e.vp:=fun k hk hv=>by have:=hvp k hv;have:=hvn k hk;omega
   exact (ha.newer hn fun k hk=>(World.ownsRow.lt hd5.op k hk).2).symm
 ·rcases hmem e he with h1 | rfl
  ·exact .inl h1
  ·exact .inr hvp
 ·refine Far.trans (Far.offer hb hf fun k hk=>?_) (hf7.mono fun k hk=>?_)
  ·rcases List.mem_cons.1 hk with h1 | h1
   ·rw [h1];exact List.mem_cons_self
   ·rw [List.mem_singleton.1 h1];simp
  ·rcases List.mem_cons.1 hk with h1 | h1
   ·rw [h1];exact List.mem_cons_self
   ·rw [List.mem_singleton.1 h1];simp
end
end
end Go.Proofs.YtbhdfaadedlcfaaGreatDoor
