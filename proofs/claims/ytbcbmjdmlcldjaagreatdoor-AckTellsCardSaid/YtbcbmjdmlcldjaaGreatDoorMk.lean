/- Texts of this claim, laid together: GraE, GraF, HpP, GrW, AckP, GraN, GraQ. -/
import Derived.Test.YtbcbmjdmlcldjaaGreatDoorMj
import Derived.Deep.CutBlock
import Derived.Below
import Derived.BigRegion
namespace Go.Proofs.YtbcbmjdmlcldjaaGreatDoor
open Go.RowKit
section
attribute [local go_sem ↓] ldvI_eq ldvS_eq
theorem linksS_ok (S:List StL) (n:Txt) : ∀ y∈linksS S n,LinkOk y:=by
 intro y hy
 show y.id.length=32
 unfold linksS objS at hy
 cases hg:getS S n with
 | none=>rw [hg] at hy;simp at hy
 | some s=>
   rw [hg] at hy
   simp only at hy
   cases hd:decO s.text with
   | none=>rw [hd] at hy;simp at hy
   | some o=>
     rw [hd] at hy
     simp only at hy
     have hs:=(zDg hd).2
     unfold linksL at hy
     split at hy
     ·obtain ⟨e,he,rfl⟩:=List.mem_map.1 hy
      exact hs.ents e he
     ·split at hy
      ·rcases List.mem_cons.1 hy with rfl | hy
       ·exact hs.tree
       ·obtain ⟨p,hp,rfl⟩:=List.mem_map.1 hy
        exact hs.pars p hp
      ·split at hy
       ·rw [List.mem_singleton.1 hy];exact hs.target
       ·simp at hy
theorem nextS_sub (S:List StL) (cut:List Txt) (n:Txt) : ∀ y∈nextS S cut n,y∈(linksS S n).map LinkL.id:=by
 intro y hy
 rw [←keptK_end (S:=S) (cut:=cut) (n:=n) rfl] at hy
 unfold keptK at hy
 obtain ⟨z,hz,rfl⟩:=List.mem_map.1 hy
 exact List.mem_map.2 ⟨z,List.mem_of_mem_take hz,rfl⟩
theorem nextS_ok (S:List StL) (cut:List Txt) (n:Txt) : ∀ y∈nextS S cut n,y.length=32:=by
 intro y hy
 obtain ⟨z,hz,rfl⟩:=List.mem_map.1 (nextS_sub S cut n y hy)
 exact linksS_ok S n z hz
theorem hasS_is {S:List StL} (h:StoOk S) (n:Txt):hasS S n=isS S n:=by
 unfold hasS isS objS
 cases hg:getS S n with
 | none=>rfl
 | some s=>
   obtain ⟨o,ho⟩:=(h.each s (getS_id hg).1).2
   simp only
   rw [ho]
   rfl
theorem Rch.ok {S:List StL} {cut ini:List Txt} (h : ∀ x∈ini,x.length=32) {x:Txt} (hx:Rch S cut ini x):x.length=32:=hx (fun x=>x.length=32) h fun y z _ hz=>nextS_ok S cut y z hz
theorem zCw {l:List Txt} {x:Txt} (h:l.Nodup) (hx:inL l x=false):(l++[x]).Nodup:=by
 refine List.pairwise_append.2 ⟨h,List.pairwise_singleton _ _,fun a ha b hb e=>?_⟩
 rw [List.mem_singleton.1 hb] at e
 rw [e] at ha
 rw [inL_iff.2 ha] at hx
 cases hx
theorem GrwI.more {S:List StL} {cut ini all:List Txt} {i:Nat} {y:Txt} (h:GrwI S cut ini all i) (hi:i≤all.length) (hy:Rch S cut ini y) (hn:inL all y=false):GrwI S cut ini (all++[y]) i:=by
 refine ⟨fun x hx=>(List.mem_append.1 hx).elim (h.a1 x) fun e=>by rw [List.mem_singleton.1 e];exact hy,zCw h.nd hn,fun x hx=>List.mem_append_left _ (h.ini_ x hx),fun j x hx hj z hz=>List.mem_append_left _ (h.next j x ?_ hj z hz)⟩
 rwa [List.getElem?_append_left (by omega)] at hx
theorem GrwI.len {S:List StL} {cut ini all:List Txt} {i:Nat} (h:GrwI S cut ini all i):all.length≤(allU S cut ini).length:=zB4 h.nd fun x hx=>(h.a1 x hx).inU
theorem GrwI.step {S:List StL} {cut ini all:List Txt} {i:Nat} {x:Txt} (h:GrwI S cut ini all i) (hx:all[i]?=some x) (hn : ∀ y∈nextS S cut x,y∈all):GrwI S cut ini all (i+1):=by
 refine ⟨h.a1,h.nd,h.ini_,fun j z hz hj=>?_⟩
 by_cases e:j=i
 ·subst e
  rw [hx] at hz
  injection hz with hz
  subst hz
  exact hn
 ·exact h.next j z hz (by omega)
section
variable {w:World} {vm:Value} {es:List DiL}
set_option maxRecDepth 100000 in
set_option maxHeartbeats 8000000 in
theorem docReach_calls (h:DocSt w vm es) (ini cut:List Txt) (hiok : ∀ x∈ini,x.length=32) (hcok : ∀ x∈cut,x.length=32) (hU:ini.length+es.length*70≤800000) (vf vc:Value) (hvf:Ids w vf ini) (hvc:Ids w vc cut) :
 Calls Tryz.prog 48 #[.agg #[vm],vf,vc] w fun e w' => ∃ va vb a b,e = .returned (.tuple #[va,vb])∧RchIs (es.map (·.st)) cut ini true a∧RchIs (es.map (·.st)) cut ini false b∧OwnIds w' w.heap.size va a∧OwnIds w' w.heap.size vb b∧Below w.heap.size w w':=by
 obtain ⟨W1,hW1⟩ : ∃ W1,w.alloc (.cells #[vm] 29)=W1:=⟨_,rfl⟩
 have s1:Blk W1 w.heap.size 29 #[vm]:=by rw [←hW1];exact Blk.new _ _ _
 have b1:Below w.heap.size w W1:=by rw [←hW1];exact (Below.refl _ _).alloc (Nat.le_refl _) _
 have hsz1:=b1.size
 have l1:Hid (∀ W,Below w.heap.size w W→Below W1.heap.size W1 W→(ldvS ⟨w.heap.size,0,none⟩).run Tryz.prog W = .ok (.agg #[vm]) W):=Lib.hid fun W _ hW=>zAC (s1.below hW s1.lt)
 have hin:=fun (l:List Txt) (hl : ∀ x∈l,x.length=32) (v:Value) (W:World) (hv:Ids W v l) (x:Txt) (hx:x.length=32)=>Lib.hid (zBC l hl v x hx W hv)
 have hnx:=fun W (hW:Below w.heap.size w W) (x:Txt) (hx:x.length=32)=>Lib.hid (docNext_calls (h.below hW) x hx cut hcok vc (hvc.below hW) (linksS_ok _ x))
 have hha:Hid (∀ W,Below w.heap.size w W → ∀ x:Txt,x.length=32→Calls Tryz.prog 77 #[.agg #[vm], .agg (u8s x)] W fun e w'=>e = .returned (.bool (isS (es.map (·.st)) x))∧Below W.heap.size W w'):=Lib.hid fun W hW x hx=>by
  have:=docHas_calls (h.below hW) x hx
  rwa [hasS_is h.ok] at this
 have hso:=fun (l:List Txt) (hl : ∀ x∈l,x.length=32) (hb:l.length≤1000000) (v:Value) (W:World) (hv:Ids W v l)=>Lib.hid (zDp l hl hb v W hv)
 have hUl:(allU (es.map (·.st)) cut ini).length≤800000:=Nat.le_trans (allU_len (K:=70) fun x _=>nextS_len _) (by rw [List.length_map];exact hU)
 obtain ⟨S,hS⟩ : ∃ S,es.map (·.st)=S:=⟨_,rfl⟩
 rw [hS] at hnx hha hUl ⊢
 have hvf0:=hvf
 obtain ⟨Af,cf,rfl,hf1,hf2,hatf⟩:=hvf
 obtain ⟨Ac,cc,rfl,_⟩:=hvc
 obtain ⟨vms,hvms⟩ : ∃ vms:Array Value,vms = #[vm]:=⟨_,rfl⟩
 have ids : ∀ {W:World} {B:Nat} {v:Value} {l:List Txt},(∀ x∈l,x.length=32)→OwnIds W B v l→Ids W v l:=fun hl ho=>SliceAt.of_own (idsK hl) ho
 clear hS h s1 hvf0 hvms
 go_enter Tryz.func48,Tryz.ntmps48
 go_wp2
 go_loopg [8,9] ini.length (fun f va vi wr => ∃ (k:Nat) (A:List Txt),vi = .int .i64 k∧k+f=ini.length∧OwnIds wr W1.heap.size va A∧A.Nodup∧Hid (∀ x∈A,x∈ini)∧Hid (∀ x∈ini.take k,x∈A)∧A.length≤k∧Below W1.heap.size W1 wr)
 case atStart=>exact ⟨0,[],rfl,by omega,World.ownsRow_nil _ _ _ _,List.nodup_nil,Lib.hid (by simp),Lib.hid (by simp),by simp,Below.refl _ _⟩
 case round=>
  clear hW1
  obtain ⟨k,A,rfl,hkf,hown,hnd,hA1,hA2,hAl,hbel⟩:=hrel
  have hbs:=hbel.size
  have hAok:Hid (∀ x∈A,x.length=32):=Lib.hid fun x hx=>hiok x (hA1.out x hx)
  obtain ⟨Aa,ca,rfl⟩:=zAl hown
  cases gk with
  | succ f=>
    have hki:(k:Int)<(ini.length:Int):=by omega
    obtain ⟨gf,of_,rfl,hgf,hcf⟩:=hatf (by omega)
    obtain ⟨x,hx⟩ : ∃ x,ini[k]?=some x:=⟨_,List.getElem?_eq_getElem (by omega)⟩
    have hxi:=hiok x (List.mem_of_getElem? hx)
    have hlx : ∀ W,Below W1.heap.size W1 W→(ldvI ⟨gf,of_+k*32,none⟩).run Tryz.prog W = .ok (.agg (u8s x)) W:=fun W hW=>zAb (show World.rangeAt W gf (of_+k*32) (u8s x).toList from zAc (hcf k x hx) hgf (bthen b1 hsz1 hW)) hxi
    have hl1:=hlx wr hbel
    have hi1:=hin A hAok.out _ wr (ids hAok.out hown) x hxi
    have hxm:=List.mem_of_getElem? hx
    have htk:Hid (∀ y∈ini.take (k+1),y∈A∨y=x):=Lib.hid fun y hy=>by
     rw [List.take_add_one,hx] at hy
     rcases List.mem_append.1 hy with h1 | h1
     ·exact .inl (hA2.out y h1)
     ·exact .inr (by simpa using h1)
    clear hx hcf hatf
    have hx32:(u8s x).size=32:=by rw [zAh,hxi]
    have hx132:(u8s x).size=1*32:=hx32
    have hx1 : ∀ u∈(u8s x).toList,u.oneCell'=true:=idC_one x
    have hAk:A.length+1≤9223372036854775807:=by omega
    have hAb:(A.length+1)*32≤140737488355328:=by omega
    have hlen2:Hid ((A++[x]).length=A.length+1):=Lib.hid (by rw [List.length_append];rfl)
    have hrow2:Hid (rowsOf idC (A++[x])=rowsOf idC A++(u8s x).toList):=Lib.hid (by rw [zAo,zAp];rfl)
    cases hb:inL A x with
    | true=>
      rw [hb] at hi1
      have hA3:Hid (∀ y∈ini.take (k+1),y∈A):=Lib.hid fun y hy=>(htk.out y hy).elim id fun e=>by rw [e];exact inL_iff.1 hb
      clear hb htk
      go_wp2_with (first
       | ((with_reducible refine hi1.out.mono ?_);rintro e w2 ⟨rfl,hb2⟩))
      have hown2:=zAd hown hb2
      have hb2':=hbel.trans (hb2.mono hbel.size)
      clear hi1 hl1 hlx
      go_roundg f
      case rel=>exact ⟨k+1,A,by go_num,by omega,hown2,hnd,hA1,hA3,by omega,hb2'⟩
      case measure=>omega
    | false=>
      rw [hb] at hi1
      have hnd2:=zCw hnd hb
      have hA3:Hid (∀ y∈ini.take (k+1),y∈A++[x]):=Lib.hid fun y hy=>by simpa using htk.out y hy
      have hA4:Hid (∀ y∈A++[x],y∈ini):=Lib.hid fun y hy=>(List.mem_append.1 hy).elim (hA1.out y) fun e=>by rw [List.mem_singleton.1 e];exact hxm
      clear hb htk hnd hxm
      go_wp2_with (first
       | ((with_reducible refine hi1.out.mono ?_);rintro e w2 ⟨rfl,hb2⟩
          have hb2':=hbel.trans (hb2.mono hbel.size)
          have hl2:=hlx w2 hb2'
          have hown2:=zAd hown hb2
          have hsz2:=Nat.le_trans hbs hb2.size)
       | ((with_reducible refine zAq (.tmp 37) Tryz.idsTy (u8s x) hx32 (by omega) ?_ ?_);rfl)
       | ((with_reducible refine zAn (.tmp 33) (.tmp 38) 1 _ Tryz.idsTy hown2 (u8s x) hx132 hx1 hAk hAb hsz2 ?_ ?_ ?_);rfl;rfl
          intro v3 w3 ho3 hb3 _ _))
      have ho4:OwnIds w3 W1.heap.size v3 (A++[x]):=by unfold OwnIds;rw [hlen2.out,hrow2.out];exact ho3
      have hb4:=hb2'.trans hb3
      clear hi1 hl1 hl2 hlx hown hown2 ho3
      go_roundg f
      case rel=>exact ⟨k+1,A++[x],by go_num,by omega,ho4,hnd2,hA4,hA3,by rw [hlen2.out];omega,hb4⟩
      case measure=>omega
  | zero=>
    have hki : ¬ (k:Int)<(ini.length:Int):=by omega
    obtain rfl:k=ini.length:=by omega
    have hA3:=hA2.out
    rw [List.take_length] at hA3
    have hg0:GrwI S cut ini A 0:=⟨fun x hx => .base (hA1.out x hx),hnd,hA3,fun j x _ hj=>by omega⟩
    clear hA3 hA1 hA2 hnd hAok hatf hAl
    go_wp2_with (fail)
    go_loopg [8,11] (allU S cut ini).length (fun f va vi wr => ∃ (i:Nat) (A:List Txt),vi = .int .i64 i∧i+f=(allU S cut ini).length∧i≤A.length∧GrwI S cut ini A i∧OwnIds wr W1.heap.size va A∧Below W1.heap.size W1 wr)
    case atStart=>exact ⟨0,A,rfl,by omega,by omega,hg0,hown,hbel⟩
    case round=>
     clear hg0 hown hbel hbs
     obtain ⟨i,A,rfl,hif,hiA,hg,hown,hbel⟩:=hrel
     have hbs:=hbel.size
     have hAl:=hg.len
     have hAok:Hid (∀ x∈A,x.length=32):=Lib.hid fun x hx=>(hg.a1 x hx).ok hiok
     by_cases hlt:i<A.length
     ·cases gk with
      | zero=>omega
      | succ f=>
      have hki:(i:Int)<(A.length:Int):=by omega
      rcases Row.of_own (idsK hAok.out) hown with ⟨_,rfl⟩ | ⟨ga,ca,rfl,hga,hrow⟩
      ·simp at hlt
      obtain ⟨x,hx⟩ : ∃ x,A[i]?=some x:=⟨_,List.getElem?_eq_getElem hlt⟩
      have hxm:=List.mem_of_getElem? hx
      have hxi:=hAok.out x hxm
      have hlx : ∀ W,Below wr.heap.size wr W→(ldvI ⟨ga,i*32,none⟩).run Tryz.prog W = .ok (.agg (u8s x)) W:=fun W hW=>zAb (show World.rangeAt W ga (i*32) (u8s x).toList from (hrow.below hW).at_ i x hx) hxi
      have hrch:=hg.a1 x hxm
      have hbw:=fun W (hW:Below wr.heap.size wr W)=>bthen hbel hbs hW
      have hcn:=fun W (hW:Below wr.heap.size wr W)=>(hnx W (bthen b1 hsz1 (hbw W hW)) x hxi).out
      have hNok:Hid (∀ y∈nextS S cut x,y.length=32∧Rch S cut ini y):=Lib.hid fun y hy=>⟨nextS_ok S cut x y hy,hrch.step hy⟩
      have hNl:=nextS_len (S:=S) (cut:=cut) x
      have hgs:Hid (∀ all:List Txt,GrwI S cut ini all i→all[i]?=some x→(∀ y∈nextS S cut x,y∈all)→GrwI S cut ini all (i+1)):=Lib.hid fun all h1 h2 h3=>h1.step h2 h3
      generalize nextS S cut x=Nx at *
      have hxh:=Lib.hid hx
      have hapa : ∀ k,(Value.slice (some ⟨ga,0,none⟩) A.length ca).ownBlock=some k→k<wr.heap.size:=own_lt hown
      clear hx hrow hxm
      go_upto_region 11 with (fail)
      refine zAr 8 (by kernel_rfl) (by kernel_rfl) (by kernel_rfl) (by kernel_rfl) ?_
      simp only [exSp]
      iterate 8 apply Exists.intro
      repeat
       first
        | ((with_reducible apply lx0_ex)
           ·(go_simp;done)
           apply Exists.intro
           apply And.intro
           ·apply Eq.refl
           apply And.intro
           ·intro W hW hD
            have q0:=l1.out W (bthen b1 hsz1 (hbw W hW)) (hbw W hW)
            have q1:=hlx W hW
            go_simp
            rfl
           simp only [Act.put,zA,zB,zC])
        | ((with_reducible apply zAJ)
           ·(first | rfl | (go_simp;done))
           ·apply Eq.refl
           simp only [Act.put,zA,zB,zC])
        | ((with_reducible refine lx0_new (ownR wr.heap.size 53 32 Nx.length (rowsOf idC Nx)) rfl ?_ (zBL _ _ _ _ _) ?_ ?_)
           ·(go_simp;done)
           ·intro W hW hD
            unfold doesAt Oper.wp execOp
            go_simp
            (with_reducible refine (hcn W hW).mono ?_)
            rintro e w' ⟨v',rfl,ho,hb⟩
            exact ⟨hb,zDb hW.size ho⟩
           intro v
           simp only [Act.put,zA,zB,zC])
        | (first | (with_reducible apply zBc) | (with_reducible apply zAK)
           ·apply Eq.refl
           apply Exists.intro
           apply And.intro
           ·(go_simp;rfl)
           simp only [Act.put,zA,zB,zC])
      refine lx0_nil ?_ fun w5 hW5 hD5=>?_
      ·exact List.nodup_nil
      obtain ⟨F5,ho5,_⟩:=hD5 _ (.head _)
      have hon5:OwnIds w5 wr.heap.size v Nx:=ho5
      have hown5:=zAd hown hW5
      have hb5:=hbw w5 hW5
      have hap5:Ap (.slice (some ⟨ga,0,none⟩) A.length ca) v:=fun k hk e=>by
       have h1:=hapa k hk
       have h2:=own_ge hon5 k e
       omega
      obtain ⟨An,cn,rfl⟩:=zAl hon5
      clear hD5 ho5 hlx hcn hbw hown hbel
      go_wp2_with (fail)
      go_loopg [8,13] Nx.length (fun f va vj wz => ∃ (j:Nat) (A:List Txt),vj = .int .i64 j∧j+f=Nx.length∧GrwI S cut ini A i∧i<A.length∧A[i]?=some x∧Hid (∀ y∈Nx.take j,y∈A)∧OwnIds wz W1.heap.size va A∧OwnIds wz wr.heap.size (.slice An Nx.length cn) Nx∧Ap va (.slice An Nx.length cn)∧Below W1.heap.size W1 wz)
      case atStart=>exact ⟨0,A,rfl,by omega,hg,hlt,hxh.out,Lib.hid (by simp),hown5,hon5,hap5,hb5⟩
      case round=>
       rename World=>wz
       clear hg hxh hown5 hon5 hap5 hb5 hAok hAl hiA hlt hki hga hapa
       obtain ⟨j,A,rfl,hjf,hg,hlt,hx,hN1,hown,hon,hap,hbel⟩:=hrel
       have hbs2:=hbel.size
       have hAl:=hg.len
       have hAok:Hid (∀ x∈A,x.length=32):=Lib.hid fun x hx=>(hg.a1 x hx).ok hiok
       obtain ⟨Aa,ca',rfl⟩:=zAl hown
       have hxh:=Lib.hid hx
       clear hx
       cases gk with
       | zero=>
         have hki : ¬ (j:Int)<(Nx.length:Int):=by omega
         obtain rfl:j=Nx.length:=by omega
         have hN2:=hN1.out
         rw [List.take_length] at hN2
         have hg2:=hgs.out A hg hxh.out hN2
         clear hN2 hN1 hon hap
         go_wp2_with (fail)
         go_roundg f
         case rel=>exact ⟨i+1,A,by go_num,by omega,by omega,hg2,hown,hbel⟩
         case measure=>omega
       | succ f2=>
         have hki:(j:Int)<(Nx.length:Int):=by omega
         rcases Row.of_own (idsK fun y hy=>(hNok.out y hy).1) hon with ⟨_,h0⟩ | ⟨gn,cn',hfe,hgn,hrown⟩
         ·rw [h0] at hjf;simp at hjf
         injection hfe with e1 e2 e3
         subst e1 e3
         obtain ⟨y,hy⟩ : ∃ y,Nx[j]?=some y:=⟨_,List.getElem?_eq_getElem (by omega)⟩
         have hym:=List.mem_of_getElem? hy
         have hxi2:y.length=32:=(hNok.out y hym).1
         have hyr:=(hNok.out y hym).2
         have hly : ∀ W,Below wz.heap.size wz W→(ldvI ⟨gn,j*32,none⟩).run Tryz.prog W = .ok (.agg (u8s y)) W:=fun W hW=>zAb (show World.rangeAt W gn (j*32) (u8s y).toList from (hrown.below hW).at_ j y hy) hxi2
         have hl1:=hly wz (Below.refl _ _)
         have hi1:=hin A hAok.out _ wz (ids hAok.out hown) y hxi2
         have htk:Hid (∀ z∈Nx.take (j+1),z∈A∨z=y):=Lib.hid fun z hz=>by
          rw [List.take_add_one,hy] at hz
          rcases List.mem_append.1 hz with h1 | h1
          ·exact .inl (hN1.out z h1)
          ·exact .inr (by simpa using h1)
         clear hy hym hrown
         have hx32:(u8s y).size=32:=by rw [zAh,hxi2]
         have hx132:(u8s y).size=1*32:=hx32
         have hx1 : ∀ u∈(u8s y).toList,u.oneCell'=true:=idC_one y
         have hAk:A.length+1≤9223372036854775807:=by omega
         have hAb:(A.length+1)*32≤140737488355328:=by omega
         have hlen2:Hid ((A++[y]).length=A.length+1):=Lib.hid (by rw [List.length_append];rfl)
         have hrow2:Hid (rowsOf idC (A++[y])=rowsOf idC A++(u8s y).toList):=Lib.hid (by rw [zAo,zAp];rfl)
         cases hb:inL A y with
         | true=>
           rw [hb] at hi1
           have hA3:Hid (∀ z∈Nx.take (j+1),z∈A):=Lib.hid fun z hz=>(htk.out z hz).elim id fun e=>by rw [e];exact inL_iff.1 hb
           clear hb htk
           go_wp2_with (first
            | ((with_reducible refine hi1.out.mono ?_);rintro e w2 ⟨rfl,hb2⟩))
           have hown2:=zAd hown hb2
           have hon2:=zAd hon hb2
           have hb2':=hbel.trans (hb2.mono hbel.size)
           clear hi1 hl1 hly
           go_roundg f2
           case rel=>exact ⟨j+1,A,by go_num,by omega,hg,hlt,hxh.out,hA3,hown2,hon2,hap,hb2'⟩
           case measure=>omega
         | false=>
           rw [hb] at hi1
           have hg2:=hg.more (Nat.le_of_lt hlt) hyr hb
           have hA3:Hid (∀ z∈Nx.take (j+1),z∈A++[y]):=Lib.hid fun z hz=>by simpa using htk.out z hz
           have hx2:Hid ((A++[y])[i]?=some x):=Lib.hid (by rw [List.getElem?_append_left hlt];exact hxh.out)
           clear hb htk hg
           go_wp2_with (first
            | ((with_reducible refine hi1.out.mono ?_);rintro e w2 ⟨rfl,hb2⟩
               have hb2':=hbel.trans (hb2.mono hbel.size)
               have hl2:=hly w2 hb2
               have hown2:=zAd hown hb2
               have hon2:=zAd hon hb2
               have hsz2:=Nat.le_trans hbs2 hb2.size)
            | ((with_reducible refine zAq (.tmp 71) Tryz.idsTy (u8s y) hx32 (by omega) ?_ ?_);rfl)
            | ((with_reducible refine zAn (.tmp 67) (.tmp 72) 1 _ Tryz.idsTy hown2 (u8s y) hx132 hx1 hAk hAb hsz2 ?_ ?_ ?_);rfl;rfl
               intro v3 w3 ho3 hb3 hg3 hn3))
           have ho4:OwnIds w3 W1.heap.size v3 (A++[y]):=by unfold OwnIds;rw [hlen2.out,hrow2.out];exact ho3
           have hb4:=hb2'.trans hb3
           have hon3:=(Far.of_grown hg3).own hon2 fun k hk hm=>hap k (List.mem_singleton.1 hm).symm hk
           have hap3:=hap.newer hn3 (own_lt hon2)
           clear hi1 hl1 hl2 hly hown hown2 ho3 hon hon2 hap
           go_roundg f2
           case rel=>exact ⟨j+1,A++[y],by go_num,by omega,hg2,by rw [hlen2.out];omega,hx2.out,hA3,ho4,hon3,hap3,hb4⟩
           case measure=>omega
     ·have hki : ¬ (i:Int)<(A.length:Int):=by omega
      have hend:=fun b=>Lib.hid (hg.end_ (by omega:A.length≤i) b)
      obtain ⟨Aa,ca',rfl⟩:=zAl hown
      clear hg hif hiA hlt hnx
      go_wp2_with (fail)
      obtain ⟨TA,hTA⟩ : ∃ TA,A=TA:=⟨_,rfl⟩
      go_loopg [15,16,17] A.length (fun f vt vn vi wz => ∃ i:Nat,vi = .int .i64 i∧i+f=A.length∧OwnIds wz W1.heap.size vt ((A.take i).filter fun x=>isS S x==true)∧OwnIds wz W1.heap.size vn ((A.take i).filter fun x=>isS S x==false)∧OwnIds wz W1.heap.size (.slice Aa A.length ca') A∧Ap vt (.slice Aa A.length ca')∧Ap vn (.slice Aa A.length ca')∧Ap vt vn∧Below W1.heap.size W1 wz)
      case atStart=>exact ⟨0,rfl,by omega,World.ownsRow_nil _ _ _ _,World.ownsRow_nil _ _ _ _,hown, .nil_l _ _ _, .nil_l _ _ _, .nil_l _ _ _,hbel⟩
      case round=>
       rename World=>wz
       clear hown hbel hbs hTA
       obtain ⟨i,rfl,hif,hvt,hvn,hown,ha1,ha2,ha3,hbel⟩:=hrel
       have hbs2:=hbel.size
       cases gk with
       | zero=>
         have hki : ¬ (i:Int)<(A.length:Int):=by omega
         obtain rfl:i=A.length:=by omega
         rw [List.take_length] at hvt hvn
         have hok1 : ∀ x∈A.filter (fun x=>isS S x==true),x.length=32:=fun x hx=>hAok.out x (List.mem_filter.1 hx).1
         have hok2 : ∀ x∈A.filter (fun x=>isS S x==false),x.length=32:=fun x hx=>hAok.out x (List.mem_filter.1 hx).1
         have hl1:(A.filter (fun x=>isS S x==true)).length≤1000000:=Nat.le_trans (List.length_filter_le _ _) (by omega)
         have hl2:(A.filter (fun x=>isS S x==false)).length≤1000000:=Nat.le_trans (List.length_filter_le _ _) (by omega)
         have he1:=hend true
         have he2:=hend false
         generalize A.filter (fun x=>isS S x==true)=L1 at *
         generalize A.filter (fun x=>isS S x==false)=L2 at *
         have hc1:=hso L1 hok1 hl1 _ wz (ids hok1 hvt)
         have hc2:=fun W (hW:Below wz.heap.size wz W)=>hso L2 hok2 hl2 _ W ((ids hok2 hvn).below hW)
         obtain ⟨At,ct,rfl⟩:=zAl hvt
         obtain ⟨An,cn,rfl⟩:=zAl hvn
         clear hend hvt hvn hown ha1 ha2 ha3 hin hso
         go_wp2_with (first
          | ((with_reducible refine hc1.out.mono ?_);rintro e w5 ⟨v5,rfl,ho5,hb5⟩
             have hc3:=hc2 w5 hb5)
          | ((with_reducible refine hc3.out.mono ?_);rintro e w6 ⟨v6,rfl,ho6,hb6⟩))
         go_ret2
         have b0:=bthen b1 hsz1 hbel
         have b5:=bthen b0 b0.size hb5
         exact ⟨_,_,_,_,rfl,he1.out,he2.out,zAx (zAd ho5 hb6) b0.size,zAx ho6 b5.size,bthen b5 b5.size hb6⟩
       | succ f=>
         have hki:(i:Int)<(A.length:Int):=by omega
         rcases Row.of_own (idsK hAok.out) hown with ⟨_,h0⟩ | ⟨ga,ca2,hfe,hga,hrow⟩
         ·rw [h0] at hif;simp at hif
         injection hfe with e1 e2 e3
         subst e1 e3
         obtain ⟨x,hx⟩ : ∃ x,A[i]?=some x:=⟨_,List.getElem?_eq_getElem (by omega)⟩
         have hxi:=hAok.out x (List.mem_of_getElem? hx)
         have hlx : ∀ W,Below wz.heap.size wz W→(ldvI ⟨ga,i*32,none⟩).run Tryz.prog W = .ok (.agg (u8s x)) W:=fun W hW=>zAb (show World.rangeAt W ga (i*32) (u8s x).toList from (hrow.below hW).at_ i x hx) hxi
         have hbw:=fun W (hW:Below wz.heap.size wz W)=>bthen hbel hbs2 hW
         have hch:=fun W (hW:Below wz.heap.size wz W)=>hha.out W (bthen b1 hsz1 (hbw W hW)) x hxi
         have htk : ∀ b,(A.take (i+1)).filter (fun x=>isS S x==b)=(A.take i).filter (fun x=>isS S x==b)++(if isS S x==b then [x] else []):=fun b=>by
          rw [List.take_add_one,hx,List.filter_append]
          congr 1
          simp [List.filter_cons]
         have ht1:=htk true
         have ht2:=htk false
         obtain ⟨L1,hL1⟩ : ∃ L1,(A.take i).filter (fun x=>isS S x==true)=L1:=⟨_,rfl⟩
         obtain ⟨L2,hL2⟩ : ∃ L2,(A.take i).filter (fun x=>isS S x==false)=L2:=⟨_,rfl⟩
         have hl1:L1.length≤800000:=by rw [←hL1];exact Nat.le_trans (List.length_filter_le _ _) (by rw [List.length_take];omega)
         have hl2:L2.length≤800000:=by rw [←hL2];exact Nat.le_trans (List.length_filter_le _ _) (by rw [List.length_take];omega)
         rw [hL1] at hvt ht1
         rw [hL2] at hvn ht2
         replace ht1:=Lib.hid ht1
         replace ht2:=Lib.hid ht2
         obtain ⟨At,ct,rfl⟩:=zAl hvt
         obtain ⟨An,cn,rfl⟩:=zAl hvn
         have hx32:(u8s x).size=32:=by rw [zAh,hxi]
         have hx132:(u8s x).size=1*32:=hx32
         have hx1 : ∀ u∈(u8s x).toList,u.oneCell'=true:=idC_one x
         generalize isS S x=b at *
         clear hx hrow htk hL1 hL2 hend
         go_upto_region 23 with (fail)
         refine zAe (C:=fun W=>Below wz.heap.size wz W) (by kernel_rfl) (by kernel_rfl) (Below.refl _ _).drew ?_
         repeat
          first
           | ((with_reducible refine zAm ?_ ?_)
              ·(go_simp;done)
              apply Exists.intro
              refine ⟨fun W hW=>?_,?_⟩
              ·first
                | (have q0:=l1.out W (bthen b1 hsz1 (hbw W hW)) (hbw W hW)
                   have q1:=hlx W hW
                   have q2:=zAL hW (hch W hW)
                   go_simp
                   first
                    | rfl
                    | (with_reducible exact q2))
              simp only [Act.put,zA,zB,zC])
           | ((with_reducible refine zAj ?_ ?_)
              ·(first | rfl | (go_simp;done))
              simp only [Act.put,zA,zB,zC])
         with_reducible refine wpQuiet_nil ?_
         intro w5 hW5
         have hl5:=hlx w5 hW5
         have hb5:=hbw w5 hW5
         have hvt5:=zAd hvt hW5
         have hvn5:=zAd hvn hW5
         have hown5:=zAd hown hW5
         have hsz5:=hb5.size
         clear hlx hch hbw hvt hvn hown
         cases b with
         | true=>
           have hAk:L1.length+1≤9223372036854775807:=by omega
           have hAb:(L1.length+1)*32≤140737488355328:=by omega
           have hlen2:Hid ((L1++[x]).length=L1.length+1):=Lib.hid (by rw [List.length_append];rfl)
           have hrow2:Hid (rowsOf idC (L1++[x])=rowsOf idC L1++(u8s x).toList):=Lib.hid (by rw [zAo,zAp];rfl)
           go_wp2_with (first
            | ((with_reducible refine zAq (.tmp 91) Tryz.idsTy (u8s x) hx32 (by omega) ?_ ?_);rfl)
            | ((with_reducible refine zAn (.tmp 87) (.tmp 92) 1 _ Tryz.idsTy hvt5 (u8s x) hx132 hx1 hAk hAb hsz5 ?_ ?_ ?_);rfl;rfl
               intro v3 w3 ho3 hb3 hg3 hn3))
           have ho4:OwnIds w3 W1.heap.size v3 ((A.take (i+1)).filter fun x=>isS S x==true):=by rw [ht1.out];show OwnIds w3 W1.heap.size v3 (L1++[x]);unfold OwnIds;rw [hlen2.out,hrow2.out];exact ho3
           have hg4:=Far.of_grown hg3
           have ho5:OwnIds w3 W1.heap.size (.slice An L2.length cn) ((A.take (i+1)).filter fun x=>isS S x==false):=by rw [ht2.out];show OwnIds w3 W1.heap.size _ (L2++[]);rw [List.append_nil];exact hg4.own hvn5 fun k hk hm=>ha3 k (List.mem_singleton.1 hm).symm hk
           have ho6:=hg4.own hown5 fun k hk hm=>ha1 k (List.mem_singleton.1 hm).symm hk
           have ha4:=ha1.newer hn3 (own_lt hown5)
           have ha5:=ha3.newer hn3 (own_lt hvn5)
           have hb6:=hb5.trans hb3
           clear ho3 hvt5 hvn5 hown5 ha1 ha3 hl5
           go_roundg f
           case rel=>exact ⟨i+1,by go_num,by omega,ho4,ho5,ho6,ha4,ha2,ha5,hb6⟩
           case measure=>omega
         | false=>
           have hAk:L2.length+1≤9223372036854775807:=by omega
           have hAb:(L2.length+1)*32≤140737488355328:=by omega
           have hlen2:Hid ((L2++[x]).length=L2.length+1):=Lib.hid (by rw [List.length_append];rfl)
           have hrow2:Hid (rowsOf idC (L2++[x])=rowsOf idC L2++(u8s x).toList):=Lib.hid (by rw [zAo,zAp];rfl)
           go_wp2_with (first
            | ((with_reducible refine zAq (.tmp 98) Tryz.idsTy (u8s x) hx32 (by omega) ?_ ?_);rfl)
            | ((with_reducible refine zAn (.tmp 94) (.tmp 99) 1 _ Tryz.idsTy hvn5 (u8s x) hx132 hx1 hAk hAb hsz5 ?_ ?_ ?_);rfl;rfl
               intro v3 w3 ho3 hb3 hg3 hn3))
           have ho4:OwnIds w3 W1.heap.size v3 ((A.take (i+1)).filter fun x=>isS S x==false):=by rw [ht2.out];show OwnIds w3 W1.heap.size v3 (L2++[x]);unfold OwnIds;rw [hlen2.out,hrow2.out];exact ho3
           have hg4:=Far.of_grown hg3
           have ho5:OwnIds w3 W1.heap.size (.slice At L1.length ct) ((A.take (i+1)).filter fun x=>isS S x==true):=by rw [ht1.out];show OwnIds w3 W1.heap.size _ (L1++[]);rw [List.append_nil];exact hg4.own hvt5 fun k hk hm=>ha3 k hk (List.mem_singleton.1 hm).symm
           have ho6:=hg4.own hown5 fun k hk hm=>ha2 k (List.mem_singleton.1 hm).symm hk
           have ha4:=ha2.newer hn3 (own_lt hown5)
           have ha5:=(ha3.symm.newer hn3 (own_lt hvt5)).symm
           have hb6:=hb5.trans hb3
           clear ho3 hvt5 hvn5 hown5 ha2 ha3 hl5
           go_roundg f
           case rel=>exact ⟨i+1,by go_num,by omega,ho5,ho4,ho6,ha1,ha4,ha5,hb6⟩
           case measure=>omega
end
end
section
attribute [local go_sem ↓] ldvI_eq ldvS_eq
def endS (S:List StL):Nat→Txt→Option Txt
 | 0,_=>none
 | f+1,n=>match objS S n with
   | none=>none
   | some o=>if o.kind=4 then endS S f o.target else some n
def endV (r:Option Txt):Value:=match r with
 | some m => .tuple #[.agg (u8s m), .bool true]
 | none => .tuple #[.agg (u8s noId), .bool false]
theorem zCo {S:List StL} {n:Txt} {o:ObjL} (h:objS S n=some o):Sound o∧(o.kind=1∨o.kind=2∨o.kind=3∨o.kind=4):=by
 unfold objS at h
 cases hg:getS S n with
 | none=>rw [hg] at h;cases h
 | some s=>
   rw [hg] at h
   exact ⟨(zDg h).2,dec_kind4 h⟩
theorem endS_ok {S:List StL} : ∀ (f:Nat) (n m:Txt),n.length=32→endS S f n=some m→m.length=32
 | 0,n,m,_,h=>by cases h
 | f+1,n,m,hn,h=>by
   unfold endS at h
   cases ho:objS S n with
   | none=>rw [ho] at h;cases h
   | some o=>
     rw [ho] at h
     simp only at h
     split at h
     ·exact endS_ok f _ m (zCo ho).1.target h
     ·injection h with h;rw [←h];exact hn
set_option maxRecDepth 100000 in
set_option maxHeartbeats 8000000 in
theorem zEE {w:World} {base p:Nat} {vl:Value} {S:List StL} (hS:StoAt w base p vl S) (n:Txt) (hn:n.length=32) :
 Calls Tryz.prog 57 #[.pointer (some ⟨p,0,none⟩), .agg (u8s n)] w fun e w'=>e = .returned (endV (endS S (S.length+1) n))∧Below w.heap.size w w':=by
 have hzi:=zeroIdV
 have hrb:=fun W=>run_build (P:=Tryz.prog) W _ _ _ zBP
 have hzo:=zeroObj
 have hZ32:(u8s noId).size=32:=by rw [zAh];rfl
 have hZone:=u8s_one noId
 have hsI : ∀ cs:Array Value,cs.size=32→(Tryz.prog.info? 53).map (·.size)=some cs.size:=fun cs h=>by rw [h];exact sz32
 have hz72:=zAF
 have hzone:zObj.all (·.oneCell')=true:=zCG
 obtain ⟨W1,hW1,b1,n1,_⟩:=boxIdS w n hn
 obtain ⟨W2,hW2⟩ : ∃ W2,W1.alloc (.cells (u8s noId) 53)=W2:=⟨_,rfl⟩
 have z2:Blk W2 W1.heap.size 53 (u8s noId):=by rw [←hW2];exact Blk.new _ _ _
 have bb2:Below W1.heap.size W1 W2:=by rw [←hW2];exact (Below.refl _ _).alloc (Nat.le_refl _) _
 have b2:=bthen b1 b1.size bb2
 have n2:=n1.below bb2 n1.lt
 have hlt12:w.heap.size<W1.heap.size:=n1.lt
 have hln:=Lib.hid (stoLen_calls (hS.below b2))
 have hsl:S.length≤500000:=hS.ok.few
 have hob:=fun W (hW:Below w.heap.size w W) (m:Txt) (hm:m.length=32)=>zCL (hS.below hW) m hm
 have hSok:=hS.ok
 obtain ⟨R,hR⟩ : ∃ R,endS S (S.length+1) n=R:=⟨_,rfl⟩
 rw [hR]
 replace hR:=Lib.hid hR
 have hRn:Hid (R=none→endV R = .tuple #[.agg (u8s noId), .bool false]):=Lib.hid fun h=>by rw [h];rfl
 have hRs:Hid (∀ m,R=some m→endV R = .tuple #[.agg (u8s m), .bool true]):=Lib.hid fun m h=>by rw [h];rfl
 generalize endV R=V at *
 obtain ⟨B2,hB2⟩ : ∃ B2,W1.heap.size=B2:=⟨_,rfl⟩
 rw [hB2] at z2 hlt12
 obtain ⟨NC,hNC⟩ : ∃ NC,u8s n=NC:=⟨_,rfl⟩
 have hNC2:=hNC
 rw [hNC] at hW1 ⊢
 obtain ⟨Z,hZ⟩ : ∃ Z,u8s noId=Z:=⟨_,rfl⟩
 rw [hZ] at hZ32 hZone hW2 z2 hzi hrb hRn
 clear hNC hZ hS
 go_enter Tryz.func57,Tryz.ntmps57
 go_wp2_with (first
  | ((with_reducible refine hln.out.mono ?_);rintro e w3 ⟨rfl,rfl⟩))
 have hw1:IntKind.i64.wrap ((S.length:Int)+1)=(S.length:Int)+1:=IntWalk.i64_in _ (by omega)
 try rw [hB2]
 go_loopg [11] (S.length+1) (fun f vi wr => ∃ (k:Nat) (m:Txt),vi = .int .i64 k∧k+f=S.length+1∧Hid (endS S f m=R)∧m.length=32∧Blk wr w.heap.size 53 (u8s m)∧Blk wr B2 53 Z∧Below w.heap.size w wr)
 case atStart=>exact ⟨0,n,rfl,by omega,hR,hn,n2,z2,b2⟩
 case round=>
  clear hR n2 z2 b2 bb2 b1 n1 hW1 hW2 hln
  obtain ⟨k,m,rfl,hkf,hend,hm,hi,hz,hbel⟩:=hrel
  have hbs:=hbel.size
  have hm32:(u8s m).size=32:=by rw [zAh,hm]
  have hm1:=u8s_one m
  cases gk with
  | zero=>
    have hki : ¬ (k:Int)<(S.length:Int)+1:=by omega
    have hV:=hRn.out hend.out.symm
    clear hend hRn hRs
    go_wp2_with (first
     | (refine wpList_store_row rfl 53 (.tmp 4) (.tmp 31) rfl B2 Z rfl rfl _ _ hz (hsI _ hZ32) rfl hZone ?_))
    (try rw [hV])
    refine bodyPost_ret (zAg rfl _ _ B2 _ _ _ _ rfl (setRow_heap _ _ _ _ _ _ hz) Tryz.underlying53 rfl (hsI _ hZ32)) rfl ⟨rfl,zAa hbel (Nat.le_of_lt hlt12) _⟩
  | succ f=>
    have hki:(k:Int)<(S.length:Int)+1:=by omega
    have hl1:=zAb (zAk hi) hm
    have hob1:=hob wr hbel m hm
    cases hg:getS S m with
    | none=>
      have hV:=hRn.out (by rw [←hend.out,endS,zCY hg])
      have hob2:Hid (Calls Tryz.prog 90 #[.pointer (some ⟨p,0,none⟩), .agg (u8s m)] wr fun e w'=>e = .returned (.tuple #[.agg zObj, .bool false])∧Below wr.heap.size wr w'):=Lib.hid (by
       have h:=hob1
       unfold ObjT at h
       rw [hg] at h
       exact h)
      clear hg hob1 hob hend hRn hRs
      generalize zObj=ZO at *
      go_wp2_with (first
       | ((with_reducible refine hob2.out.mono ?_);rintro e w4 ⟨rfl,hb4⟩
          have b4:=bthen hbel hbs hb4
          have z4:=hz.below hb4 hz.lt)
       | ((with_reducible refine lit_new 68 (.tmp 6) (.tmp 17) ZO 72 szObj hz72 hzone _ ?_ ?_ ?_ ?_)
          ·first | exact hz72 | rfl
          ·rfl
          ·rfl
          intro W5 hb5 hbl5
          have b5:=bthen b4 b4.size hbl5
          have z5:=z4.below hbl5 z4.lt)
       | (refine wpList_store_row rfl 53 (.tmp 4) (.tmp 22) rfl B2 Z rfl rfl _ _ z5 (hsI _ hZ32) rfl hZone ?_))
      (try rw [hV])
      refine bodyPost_ret (zAg rfl _ _ B2 _ _ _ _ rfl (setRow_heap _ _ _ _ _ _ z5) Tryz.underlying53 rfl (hsI _ hZ32)) rfl ⟨rfl,zAa b5 (Nat.le_of_lt hlt12) _⟩
    | some s=>
      obtain ⟨o,hdo⟩:=(hSok.each s (getS_id hg).1).2
      have hobj:=zCM hg hdo
      have hend2:=hend.out
      rw [endS,hobj] at hend2
      simp only at hend2
      have hob2:Hid (Calls Tryz.prog 90 #[.pointer (some ⟨p,0,none⟩), .agg (u8s m)] wr fun e w'=>(∃ A1 A2 k1 k2,e = .returned (.tuple #[.agg (objC o (.slice A1 o.ents.length k1) (.slice A2 o.pars.length k2)).toArray, .bool true])∧ObjV w' (.slice A1 o.ents.length k1) (.slice A2 o.pars.length k2) o)∧Below wr.heap.size wr w'):=Lib.hid (by
       refine hob1.mono fun e w' ⟨h,hb⟩=>⟨?_,hb⟩
       unfold ObjT at h
       rw [hg] at h
       obtain ⟨o',A1,A2,k1,k2,h1,h2,h3,_⟩:=h
       rw [hdo] at h1
       injection h1 with h1
       subst h1
       exact ⟨A1,A2,k1,k2,h2,h3⟩)
      have hta:=(zCo hobj).1.target
      clear hg hob1 hobj hdo hend
      by_cases hk4:o.kind=4
      ·rw [if_pos hk4] at hend2
       have hkb:(o.kind != 4)=false:=by simp [hk4]
       have hkb2:(o.kind==4)=true:=by simp [hk4]
       have ht32:(u8s o.target).size=32:=by rw [zAh,hta]
       have ht1:=u8s_one o.target
       replace hend2:=Lib.hid hend2
       clear hk4 hRn hRs hob
       go_wp2_with (first
        | ((with_reducible refine hob2.out.mono ?_);rintro e w4 ⟨⟨A1,A2,k1,k2,rfl,hv4⟩,hb4⟩
           have b4:=bthen hbel hbs hb4
           have z4:=hz.below hb4 hz.lt
           have i4:=hi.below hb4 hi.lt
           have hc72:(objC o (.slice A1 o.ents.length k1) (.slice A2 o.pars.length k2)).toArray.size=72:=by rw [List.size_toArray,zAy hv4.ok]
           have hcone:=zAv o A1 A2 o.ents.length k1 o.pars.length k2)
        | ((with_reducible refine lit_new 68 (.tmp 6) (.tmp 17) (objC o (.slice A1 o.ents.length k1) (.slice A2 o.pars.length k2)).toArray 72 szObj hc72 hcone _ ?_ ?_ ?_ ?_)
           ·first | exact hz72 | rfl
           ·rfl
           ·rfl
           intro W5 hb5 hbl5
           have b5:=bthen b4 b4.size hbl5
           have z5:=z4.below hbl5 z4.lt
           have i5:=i4.below hbl5 i4.lt
           have hO5:ObjB W5 w4.heap.size o (.slice A1 o.ents.length k1) (.slice A2 o.pars.length k2):=⟨hb5,hv4.ok.tree,hv4.ok.target⟩
           have hc0:=hO5.kind
           have hlt5:=zAb hO5.target hta)
        | (refine wpList_store_row rfl 53 (.tmp 3) (.tmp 29) rfl w.heap.size (u8s o.target) rfl rfl _ _ i5 (hsI _ ht32) (hm32.trans ht32.symm) ht1 ?_))
       have i6:Blk (W5.setRow w.heap.size (u8s o.target)) w.heap.size 53 (u8s o.target):=setRow_heap _ _ _ _ _ _ i5
       have z6:Blk (W5.setRow w.heap.size (u8s o.target)) B2 53 Z:=(setRow_other _ _ _ _ (by omega)).trans z5
       have b6:=zAa b5 (Nat.le_refl _) (u8s o.target)
       clear hl1 hlt5 hc0 hb5 hO5 z5 i5 z4 i4 hv4 hob2
       go_roundg f
       case rel=>exact ⟨k+1,o.target,by go_num,by omega,hend2,hta,i6,z6,b6⟩
       case measure=>omega
      ·rw [if_neg hk4] at hend2
       have hkb:(o.kind != 4)=true:=by simp [hk4]
       have hkb2:(o.kind==4)=false:=by simp [hk4]
       have hV:=hRs.out m hend2.symm
       clear hk4 hRn hRs hob hend2
       go_wp2_with (first
        | ((with_reducible refine hob2.out.mono ?_);rintro e w4 ⟨⟨A1,A2,k1,k2,rfl,hv4⟩,hb4⟩
           have b4:=bthen hbel hbs hb4
           have z4:=hz.below hb4 hz.lt
           have i4:=hi.below hb4 hi.lt
           have hc72:(objC o (.slice A1 o.ents.length k1) (.slice A2 o.pars.length k2)).toArray.size=72:=by rw [List.size_toArray,zAy hv4.ok]
           have hcone:=zAv o A1 A2 o.ents.length k1 o.pars.length k2)
        | ((with_reducible refine lit_new 68 (.tmp 6) (.tmp 17) (objC o (.slice A1 o.ents.length k1) (.slice A2 o.pars.length k2)).toArray 72 szObj hc72 hcone _ ?_ ?_ ?_ ?_)
           ·first | exact hz72 | rfl
           ·rfl
           ·rfl
           intro W5 hb5 hbl5
           have b5:=bthen b4 b4.size hbl5
           have z5:=z4.below hbl5 z4.lt
           have i5:=i4.below hbl5 i4.lt
           have hO5:ObjB W5 w4.heap.size o (.slice A1 o.ents.length k1) (.slice A2 o.pars.length k2):=⟨hb5,hv4.ok.tree,hv4.ok.target⟩
           have hc0:=hO5.kind
           have hl5:=zAb (zAk i5) hm)
        | (refine wpList_store_row rfl 53 (.tmp 4) (.tmp 27) rfl B2 (u8s m) rfl rfl _ _ z5 (hsI _ hm32) (hZ32.trans hm32.symm) hm1 ?_))
       (try rw [hV])
       refine bodyPost_ret (zAg rfl _ _ B2 _ _ _ _ rfl (setRow_heap _ _ _ _ _ _ z5) Tryz.underlying53 rfl (hsI _ hm32)) rfl ⟨rfl,zAa b5 (Nat.le_of_lt hlt12) _⟩
set_option maxRecDepth 100000 in
set_option maxHeartbeats 8000000 in
theorem zEw {w:World} {vm:Value} {es:List DiL} (h:DocSt w vm es) (n:Txt) (hn:n.length=32) :
 Calls Tryz.prog 32 #[.agg #[vm], .agg (u8s n)] w fun e w'=>e = .returned (endV (endS (es.map (·.st)) (es.length+1) n))∧Below w.heap.size w w':=by
 have hzi:=zeroIdV
 have hrb:=fun W=>run_build (P:=Tryz.prog) W _ _ _ zBP
 have hzo:=zeroObj
 have hZ32:(u8s noId).size=32:=by rw [zAh];rfl
 have hZone:=u8s_one noId
 have hsI : ∀ cs:Array Value,cs.size=32→(Tryz.prog.info? 53).map (·.size)=some cs.size:=fun cs h=>by rw [h];exact sz32
 have hz72:=zAF
 have hzone:zObj.all (·.oneCell')=true:=zCG
 obtain ⟨W1,W2,hW1,hW2,b2,hlt1,hlt2,hf⟩:=boxSt (w:=w) vm n hn
 have n2:Blk W2 W1.heap.size 53 (u8s n):=by rw [←hW2];exact Blk.new _ _ _
 have s2:W2.heap[w.heap.size]?=some (.cells #[vm] 29 (0,0)):=(hf W2 (Below.refl _ _)).2.1
 obtain ⟨W3,hW3⟩ : ∃ W3,W2.alloc (.cells (u8s noId) 53)=W3:=⟨_,rfl⟩
 have z3:Blk W3 W2.heap.size 53 (u8s noId):=by rw [←hW3];exact Blk.new _ _ _
 have bb3:Below W2.heap.size W2 W3:=by rw [←hW3];exact (Below.refl _ _).alloc (Nat.le_refl _) _
 have b3:=bthen b2 b2.size bb3
 have n3:=n2.below bb3 n2.lt
 have s3:Blk W3 w.heap.size 29 #[vm]:=Blk.below s2 bb3 (Nat.lt_trans hlt1 hlt2)
 have hob:=fun W (hW:Below w.heap.size w W) (m:Txt) (hm:m.length=32)=>zCP (h.below hW) m hm
 have hSok:=h.ok
 have hfew:=h.few
 obtain ⟨R,hR⟩ : ∃ R,endS (es.map (·.st)) (es.length+1) n=R:=⟨_,rfl⟩
 rw [hR]
 replace hR:=Lib.hid hR
 have hRn:Hid (R=none→endV R = .tuple #[.agg (u8s noId), .bool false]):=Lib.hid fun h=>by rw [h];rfl
 have hRs:Hid (∀ m,R=some m→endV R = .tuple #[.agg (u8s m), .bool true]):=Lib.hid fun m h=>by rw [h];rfl
 obtain ⟨S,hS⟩ : ∃ S,es.map (·.st)=S:=⟨_,rfl⟩
 rw [hS] at hob hSok hR
 generalize endV R=V at *
 obtain ⟨A,cap,rfl,hcap⟩:=h.at_
 obtain ⟨B2,hB2⟩ : ∃ B2,W1.heap.size=B2:=⟨_,rfl⟩
 obtain ⟨B3,hB3⟩ : ∃ B3,W2.heap.size=B3:=⟨_,rfl⟩
 rw [hB3] at z3
 rw [hB2] at n3
 have hlt12:w.heap.size<B2:=by omega
 have hlt23:B2<B3:=by omega
 obtain ⟨NC,hNC⟩ : ∃ NC,u8s n=NC:=⟨_,rfl⟩
 have hNC2:=hNC
 rw [hNC] at hW2 ⊢
 obtain ⟨Z,hZ⟩ : ∃ Z,u8s noId=Z:=⟨_,rfl⟩
 rw [hZ] at hZ32 hZone hW3 z3 hzi hrb hRn
 clear hNC hZ h hcap hf hS s2 n2
 go_enter Tryz.func32,Tryz.ntmps32
 go_wp2_with (fail)
 go_loopg [6] (es.length+1) (fun f vi wr => ∃ (k:Nat) (m:Txt),vi = .int .i64 k∧k+f=es.length+1∧Hid (endS S f m=R)∧m.length=32∧Blk wr w.heap.size 29 #[.slice A es.length cap]∧Blk wr B2 53 (u8s m)∧Blk wr B3 53 Z∧Below w.heap.size w wr)
 case atStart=>exact ⟨0,n,rfl,by omega,hR,hn,s3,n3,z3,b3⟩
 case round=>
  clear hR n3 z3 s3 b3 bb3 b2 hW1 hW2 hW3
  obtain ⟨k,m,rfl,hkf,hend,hm,hs,hi,hz,hbel⟩:=hrel
  have hbs:=hbel.size
  have hm32:(u8s m).size=32:=by rw [zAh,hm]
  have hm1:=u8s_one m
  have hc0:wr.cell? ⟨w.heap.size,0,none⟩=some (.slice A es.length cap):=by rw [hs.cell];rfl
  have hls:=zAC hs
  cases gk with
  | zero=>
    have hki : ¬ (k:Int)≤(es.length:Int):=by omega
    have hV:=hRn.out hend.out.symm
    clear hend hRn hRs
    go_wp2_with (first
     | (refine wpList_store_row rfl 53 (.tmp 4) (.tmp 28) rfl B3 Z rfl rfl _ _ hz (hsI _ hZ32) rfl hZone ?_))
    (try rw [hV])
    refine bodyPost_ret (zAg rfl _ _ B3 _ _ _ _ rfl (setRow_heap _ _ _ _ _ _ hz) Tryz.underlying53 rfl (hsI _ hZ32)) rfl ⟨rfl,zAa hbel (by omega) _⟩
  | succ f=>
    have hki:(k:Int)≤(es.length:Int):=by omega
    have hl1:=zAb (zAk hi) hm
    have hob1:=hob wr hbel m hm
    cases hg:getS S m with
    | none=>
      have hV:=hRn.out (by rw [←hend.out,endS,zCY hg])
      have hob2:Hid (Calls Tryz.prog 35 #[.agg #[.slice A es.length cap], .agg (u8s m)] wr fun e w'=>e = .returned (.agg zObj)∧Below wr.heap.size wr w'):=Lib.hid (by
       have h:=hob1
       unfold ObjG at h
       rw [hg] at h
       exact h)
      have hzk:zObj[0]?=some (.int .i64 0):=rfl
      clear hg hob1 hob hend hRn hRs
      generalize zObj=ZO at *
      go_wp2_with (first
       | ((with_reducible refine hob2.out.mono ?_);rintro e w4 ⟨rfl,hb4⟩
          have b4:=bthen hbel hbs hb4
          have z4:=hz.below hb4 hz.lt)
       | ((with_reducible refine lit_new 68 (.tmp 7) (.tmp 17) ZO 72 szObj hz72 hzone _ ?_ ?_ ?_ ?_)
          ·first | exact hz72 | rfl
          ·rfl
          ·rfl
          intro W5 hb5 hbl5
          have b5:=bthen b4 b4.size hbl5
          have z5:=z4.below hbl5 z4.lt
          have hck:W5.cell? ⟨w4.heap.size,0,none⟩=some (.int .i64 0):=by rw [hb5.cell];exact hzk)
       | (refine wpList_store_row rfl 53 (.tmp 4) (.tmp 21) rfl B3 Z rfl rfl _ _ z5 (hsI _ hZ32) rfl hZone ?_))
      (try rw [hV])
      refine bodyPost_ret (zAg rfl _ _ B3 _ _ _ _ rfl (setRow_heap _ _ _ _ _ _ z5) Tryz.underlying53 rfl (hsI _ hZ32)) rfl ⟨rfl,zAa b5 (by omega) _⟩
    | some s=>
      obtain ⟨o,hdo⟩:=(hSok.each s (getS_id hg).1).2
      have hobj:=zCM hg hdo
      have hend2:=hend.out
      rw [endS,hobj] at hend2
      simp only at hend2
      have hob2:Hid (Calls Tryz.prog 35 #[.agg #[.slice A es.length cap], .agg (u8s m)] wr fun e w'=>(∃ A1 A2 k1 k2,e = .returned (.agg (objC o (.slice A1 o.ents.length k1) (.slice A2 o.pars.length k2)).toArray)∧ObjV w' (.slice A1 o.ents.length k1) (.slice A2 o.pars.length k2) o)∧Below wr.heap.size wr w'):=Lib.hid (by
       refine hob1.mono fun e w' ⟨h,hb⟩=>⟨?_,hb⟩
       unfold ObjG at h
       rw [hg] at h
       obtain ⟨o',A1,A2,k1,k2,h1,h2,h3⟩:=h
       rw [hdo] at h1
       injection h1 with h1
       subst h1
       exact ⟨A1,A2,k1,k2,h2,h3⟩)
      have hta:=(zCo hobj).1.target
      have hk0:(o.kind==0)=false:=by have:=(zCo hobj).2;simp;omega
      clear hg hob1 hobj hdo hend
      by_cases hk4:o.kind=4
      ·rw [if_pos hk4] at hend2
       have hkb:(o.kind != 4)=false:=by simp [hk4]
       have hkb2:(o.kind==4)=true:=by simp [hk4]
       have ht32:(u8s o.target).size=32:=by rw [zAh,hta]
       have ht1:=u8s_one o.target
       replace hend2:=Lib.hid hend2
       clear hk4 hRn hRs hob
       go_wp2_with (first
        | ((with_reducible refine hob2.out.mono ?_);rintro e w4 ⟨⟨A1,A2,k1,k2,rfl,hv4⟩,hb4⟩
           have b4:=bthen hbel hbs hb4
           have z4:=hz.below hb4 hz.lt
           have i4:=hi.below hb4 hi.lt
           have s4:=hs.below hb4 hs.lt
           have hc72:(objC o (.slice A1 o.ents.length k1) (.slice A2 o.pars.length k2)).toArray.size=72:=by rw [List.size_toArray,zAy hv4.ok]
           have hcone:=zAv o A1 A2 o.ents.length k1 o.pars.length k2)
        | ((with_reducible refine lit_new 68 (.tmp 7) (.tmp 17) (objC o (.slice A1 o.ents.length k1) (.slice A2 o.pars.length k2)).toArray 72 szObj hc72 hcone _ ?_ ?_ ?_ ?_)
           ·first | exact hz72 | rfl
           ·rfl
           ·rfl
           intro W5 hb5 hbl5
           have b5:=bthen b4 b4.size hbl5
           have z5:=z4.below hbl5 z4.lt
           have i5:=i4.below hbl5 i4.lt
           have s5:=s4.below hbl5 s4.lt
           have hO5:ObjB W5 w4.heap.size o (.slice A1 o.ents.length k1) (.slice A2 o.pars.length k2):=⟨hb5,hv4.ok.tree,hv4.ok.target⟩
           have hck:=hO5.kind
           have hlt5:=zAb hO5.target hta)
        | (refine wpList_store_row rfl 53 (.tmp 3) (.tmp 27) rfl B2 (u8s o.target) rfl rfl _ _ i5 (hsI _ ht32) (hm32.trans ht32.symm) ht1 ?_))
       have i6:Blk (W5.setRow B2 (u8s o.target)) B2 53 (u8s o.target):=setRow_heap _ _ _ _ _ _ i5
       have z6:Blk (W5.setRow B2 (u8s o.target)) B3 53 Z:=(setRow_other _ _ _ _ (by omega)).trans z5
       have s6:Blk (W5.setRow B2 (u8s o.target)) w.heap.size 29 #[.slice A es.length cap]:=(setRow_other _ _ _ _ (by omega)).trans s5
       have b6:=zAa b5 (Nat.le_of_lt hlt12) (u8s o.target)
       clear hl1 hlt5 hck hc0 hls hb5 hO5 z5 i5 z4 i4 s4 s5 hv4 hob2
       go_roundg f
       case rel=>exact ⟨k+1,o.target,by go_num,by omega,hend2,hta,s6,i6,z6,b6⟩
       case measure=>omega
      ·rw [if_neg hk4] at hend2
       have hkb:(o.kind != 4)=true:=by simp [hk4]
       have hkb2:(o.kind==4)=false:=by simp [hk4]
       have hV:=hRs.out m hend2.symm
       clear hk4 hRn hRs hob hend2
       go_wp2_with (first
        | ((with_reducible refine hob2.out.mono ?_);rintro e w4 ⟨⟨A1,A2,k1,k2,rfl,hv4⟩,hb4⟩
           have b4:=bthen hbel hbs hb4
           have z4:=hz.below hb4 hz.lt
           have i4:=hi.below hb4 hi.lt
           have hc72:(objC o (.slice A1 o.ents.length k1) (.slice A2 o.pars.length k2)).toArray.size=72:=by rw [List.size_toArray,zAy hv4.ok]
           have hcone:=zAv o A1 A2 o.ents.length k1 o.pars.length k2)
        | ((with_reducible refine lit_new 68 (.tmp 7) (.tmp 17) (objC o (.slice A1 o.ents.length k1) (.slice A2 o.pars.length k2)).toArray 72 szObj hc72 hcone _ ?_ ?_ ?_ ?_)
           ·first | exact hz72 | rfl
           ·rfl
           ·rfl
           intro W5 hb5 hbl5
           have b5:=bthen b4 b4.size hbl5
           have z5:=z4.below hbl5 z4.lt
           have i5:=i4.below hbl5 i4.lt
           have hO5:ObjB W5 w4.heap.size o (.slice A1 o.ents.length k1) (.slice A2 o.pars.length k2):=⟨hb5,hv4.ok.tree,hv4.ok.target⟩
           have hck:=hO5.kind
           have hl5:=zAb (zAk i5) hm)
        | (refine wpList_store_row rfl 53 (.tmp 4) (.tmp 25) rfl B3 (u8s m) rfl rfl _ _ z5 (hsI _ hm32) (hZ32.trans hm32.symm) hm1 ?_))
       (try rw [hV])
       refine bodyPost_ret (zAg rfl _ _ B3 _ _ _ _ rfl (setRow_heap _ _ _ _ _ _ z5) Tryz.underlying53 rfl (hsI _ hm32)) rfl ⟨rfl,zAa b5 (by omega) _⟩
end
end Go.Proofs.YtbcbmjdmlcldjaaGreatDoor
namespace Go.Proofs.YtbcbmjdmlcldjaaGreatDoor
section
variable {α:Type} [Inhabited α]
def atQ (Q:List α) (i:Nat):α:=Q.getD i default
def swapQ (Q:List α) (i j:Nat):List α:=(Q.set i (atQ Q j)).set j (atQ Q i)
theorem atQ_get {Q:List α} {i:Nat} (h:i<Q.length):Q[i]?=some (atQ Q i):=by
 unfold atQ
 rw [List.getD_eq_getElem?_getD,List.getElem?_eq_getElem h];rfl
theorem zA2 (Q:List α) (i j:Nat):(swapQ Q i j).length=Q.length:=by unfold swapQ;rw [List.length_set,List.length_set]
theorem zEX {Q:List α} {i j:Nat} (hi:i<Q.length) (hj:j<Q.length) (k:Nat):atQ (swapQ Q i j) k=if k=j then atQ Q i else if k=i then atQ Q j else atQ Q k:=by
 unfold swapQ
 show ((Q.set i (atQ Q j)).set j (atQ Q i)).getD k default=_
 rw [List.getD_eq_getElem?_getD,List.getElem?_set]
 by_cases h1:k=j
 ·subst h1
  rw [if_pos rfl,if_pos rfl,if_pos (by rw [List.length_set];exact hj)];rfl
 ·rw [if_neg (fun e=>h1 e.symm),if_neg h1,List.getElem?_set]
  by_cases h2:k=i
  ·subst h2
   rw [if_pos rfl,if_pos rfl,if_pos hi];rfl
  ·rw [if_neg (fun e=>h2 e.symm),if_neg h2,←List.getD_eq_getElem?_getD];rfl
theorem zEq {Q:List α} {i j:Nat} (hi:i<Q.length) (hj:j<Q.length):(swapQ Q i j).Perm Q:=by
 have h:=Array.swap_perm (xs:=Q.toArray) (i:=i) (j:=j) (by simpa using hi) (by simpa using hj)
 have e:(Q.toArray.swap i j (by simpa using hi) (by simpa using hj)).toList=swapQ Q i j:=by
  unfold swapQ
  rw [Array.swap_def]
  have e1:atQ Q j=Q[j]:=by unfold atQ;rw [List.getD_eq_getElem?_getD,List.getElem?_eq_getElem hj];rfl
  have e2:atQ Q i=Q[i]:=by unfold atQ;rw [List.getD_eq_getElem?_getD,List.getElem?_eq_getElem hi];rfl
  rw [e1,e2]
  simp
 rw [←e]
 exact h.toList
def par (c:Nat):Nat:=(c-1) / 2
structure Ord (lt:α→α→Bool):Prop where
 asymm : ∀ a b,lt a b=true→lt b a=false
 ntrans : ∀ a b c,lt a b=false→lt b c=false→lt a c=false
def HeapQ (lt:α→α→Bool) (Q:List α) (n:Nat):Prop := ∀ c,0<c→c<n→lt (atQ Q c) (atQ Q (par c))=false
def upQ (lt:α→α→Bool):Nat→List α→Nat→List α
 | 0,Q,_=>Q
 | f+1,Q,j=>if par j=j∨lt (atQ Q j) (atQ Q (par j))=false then Q else upQ lt f (swapQ Q (par j) j) (par j)
def minC (lt:α→α→Bool) (Q:List α) (i n:Nat):Nat:=if 2*i+1+1<n∧lt (atQ Q (2*i+1+1)) (atQ Q (2*i+1))=true then 2*i+1+1 else 2*i+1
def downQ (lt:α→α→Bool):Nat→List α→Nat→Nat→List α
 | 0,Q,_,_=>Q
 | f+1,Q,i,n=>if n≤2*i+1∨lt (atQ Q (minC lt Q i n)) (atQ Q i)=false then Q else downQ lt f (swapQ Q i (minC lt Q i n)) (minC lt Q i n) n
theorem par_lt {c:Nat} (h:0<c):par c<c:=by unfold par;omega
theorem upQ_len (lt:α→α→Bool) : ∀ (f:Nat) (Q:List α) (j:Nat),(upQ lt f Q j).length=Q.length
 | 0,Q,j=>rfl
 | f+1,Q,j=>by
   unfold upQ
   split
   ·rfl
   ·rw [upQ_len lt f,zA2]
theorem upQ_perm (lt:α→α→Bool) : ∀ (f:Nat) (Q:List α) (j:Nat),j<Q.length→(upQ lt f Q j).Perm Q
 | 0,Q,j,_=>List.Perm.refl _
 | f+1,Q,j,hj=>by
   unfold upQ
   split
   ·exact List.Perm.refl _
   ·have h1:par j<Q.length:=by unfold par;omega
    exact (upQ_perm lt f _ _ (by rw [zA2];exact h1)).trans (zEq h1 hj)
theorem downQ_len (lt:α→α→Bool) : ∀ (f:Nat) (Q:List α) (i n:Nat),(downQ lt f Q i n).length=Q.length
 | 0,Q,i,n=>rfl
 | f+1,Q,i,n=>by
   unfold downQ
   split
   ·rfl
   ·rw [downQ_len lt f,zA2]
theorem minC_lt {lt:α→α→Bool} {Q:List α} {i n:Nat} (h : ¬ n≤2*i+1):minC lt Q i n<n:=by
 unfold minC;split<;>omega
theorem downQ_perm (lt:α→α→Bool) : ∀ (f:Nat) (Q:List α) (i n:Nat),i<Q.length→n≤Q.length→(downQ lt f Q i n).Perm Q
 | 0,Q,i,n,_,_=>List.Perm.refl _
 | f+1,Q,i,n,hi,hn=>by
   unfold downQ
   split
   ·exact List.Perm.refl _
   ·rename_i hc
    have h1:=minC_lt (lt:=lt) (Q:=Q) (fun h=>hc (.inl h))
    exact (downQ_perm lt f _ _ n (by rw [zA2];omega) (by rw [zA2];exact hn)).trans (zEq hi (by omega))
theorem downQ_out (lt:α→α→Bool) : ∀ (f:Nat) (Q:List α) (i n k:Nat),i<n→n≤Q.length→n≤k→atQ (downQ lt f Q i n) k=atQ Q k
 | 0,Q,i,n,k,_,_,_=>rfl
 | f+1,Q,i,n,k,hi,hn,hk=>by
   unfold downQ
   split
   ·rfl
   ·rename_i hc
    have h1:=minC_lt (lt:=lt) (Q:=Q) (fun h=>hc (.inl h))
    rw [downQ_out lt f _ _ n k h1 (by rw [zA2];exact hn) hk,zEX (by omega) (by omega),if_neg (by omega),if_neg (by omega)]
structure UpI (lt:α→α→Bool) (Q:List α) (n j:Nat):Prop where
 a : ∀ c,0<c→c<n→c≠j→lt (atQ Q c) (atQ Q (par c))=false
 b : ∀ c,0<c→c<n→par c=j→0<j→lt (atQ Q c) (atQ Q (par j))=false
theorem up_heap {lt:α→α→Bool} (ho:Ord lt) (n:Nat) : ∀ (f:Nat) (Q:List α) (j:Nat),n≤Q.length→j<n→j<f→UpI lt Q n j→HeapQ lt (upQ lt f Q j) n
 | 0,Q,j,_,_,h,_=>by omega
 | f+1,Q,j,hn,hj,hf,hu=>by
   unfold upQ
   split
   ·rename_i hc
    intro c h0 h1
    by_cases e:c=j
    ·rw [e] at h0 ⊢
     rcases hc with hc | hc
     ·have:=par_lt h0;omega
     ·exact hc
    ·exact hu.a c h0 h1 e
   ·rename_i hc
    have hj0:0<j:=by
     rcases Nat.eq_zero_or_pos j with e | e
     ·exact absurd (.inl (by rw [e];rfl)) hc
     ·exact e
    have hij:=par_lt hj0
    have hlt:lt (atQ Q j) (atQ Q (par j))=true:=by
     cases hb:lt (atQ Q j) (atQ Q (par j))
     ·exact absurd (.inr hb) hc
     ·rfl
    have has:=ho.asymm _ _ hlt
    have hat:=zEX (Q:=Q) (i:=par j) (j:=j) (by omega) (by omega)
    refine up_heap ho n f _ _ (by rw [zA2];exact hn) (by omega) (by omega) ⟨fun c h0 h1 hne=>?_,fun c h0 h1 hpc hi0=>?_⟩
    ·rw [hat,hat]
     have hpc:=par_lt h0
     by_cases e1:c=j
     ·subst e1
      rw [if_pos rfl,if_neg (by omega),if_pos rfl]
      exact has
     ·rw [if_neg e1,if_neg hne]
      by_cases e2:par c=j
      ·rw [if_pos e2]
       exact hu.b c h0 h1 e2 hj0
      ·rw [if_neg e2]
       by_cases e3:par c=par j
       ·rw [if_pos e3]
        have h2:=hu.a c h0 h1 e1
        rw [e3] at h2
        exact ho.ntrans _ _ _ h2 has
       ·rw [if_neg e3]
        exact hu.a c h0 h1 e1
    ·have hpp:=par_lt hi0
     rw [hat,hat,if_neg (show ¬ par (par j)=j by omega),if_neg (show ¬ par (par j)=par j by omega)]
     have h4:=hu.a (par j) hi0 (by omega) (by omega)
     by_cases e1:c=j
     ·rw [if_pos e1];exact h4
     ·have:=par_lt h0
      rw [if_neg e1,if_neg (by omega)]
      have h2:=hu.a c h0 h1 e1
      rw [hpc] at h2
      exact ho.ntrans _ _ _ h2 h4
structure DownI (lt:α→α→Bool) (Q:List α) (n i:Nat):Prop where
 a : ∀ c,0<c→c<n→par c≠i→lt (atQ Q c) (atQ Q (par c))=false
 b : ∀ c,0<c→c<n→par c=i→0<i→lt (atQ Q c) (atQ Q (par i))=false
theorem minC_least {lt:α→α→Bool} (ho:Ord lt) {Q:List α} {i n:Nat} {c:Nat} (h0:0<c) (h1:c<n) (hp:par c=i):c=minC lt Q i n∨lt (atQ Q c) (atQ Q (minC lt Q i n))=false:=by
 have hc:c=2*i+1∨c=2*i+1+1:=by unfold par at hp;omega
 unfold minC
 split
 ·rename_i h
  rcases hc with rfl | rfl
  ·exact .inr (ho.asymm _ _ h.2)
  ·exact .inl rfl
 ·rename_i h
  rcases hc with rfl | rfl
  ·exact .inl rfl
  ·refine .inr ?_
   cases hb:lt (atQ Q (2*i+1+1)) (atQ Q (2*i+1))
   ·rfl
   ·exact absurd ⟨h1,hb⟩ h
theorem minC_par (lt:α→α→Bool) (Q:List α) (i n:Nat):par (minC lt Q i n)=i∧i<minC lt Q i n:=by
 unfold minC par
 split<;>omega
theorem down_heap {lt:α→α→Bool} (ho:Ord lt) (n:Nat) : ∀ (f:Nat) (Q:List α) (i:Nat),n≤Q.length→i<n→n≤i+f→DownI lt Q n i→HeapQ lt (downQ lt f Q i n) n
 | 0,Q,i,_,hi,h,_=>by omega
 | f+1,Q,i,hn,hi,hf,hu=>by
   unfold downQ
   split
   ·rename_i hc
    intro c h0 h1
    by_cases e:par c=i
    ·rcases hc with hc | hc
     ·unfold par at e;omega
     ·rw [e]
      rcases minC_least ho h0 h1 e (Q:=Q) with h2 | h2
      ·rw [h2];exact hc
      ·exact ho.ntrans _ _ _ h2 hc
    ·exact hu.a c h0 h1 e
   ·rename_i hc
    have h1:=minC_lt (lt:=lt) (Q:=Q) (fun h=>hc (.inl h))
    obtain ⟨hp,hlt2⟩:=minC_par lt Q i n
    have hml:=fun c h0 h1 hp=>minC_least ho (Q:=Q) (i:=i) (n:=n) (c:=c) h0 h1 hp
    have hlt:lt (atQ Q (minC lt Q i n)) (atQ Q i)=true:=by
     cases hb:lt (atQ Q (minC lt Q i n)) (atQ Q i)
     ·exact absurd (.inr hb) hc
     ·rfl
    generalize minC lt Q i n=j at *
    have has:=ho.asymm _ _ hlt
    have hat:=zEX (Q:=Q) (i:=i) (j:=j) (by omega) (by omega)
    refine down_heap ho n f _ _ (by rw [zA2];exact hn) h1 (by omega) ⟨fun c h0 hc1 hne=>?_,fun c h0 hc1 hpc hj0=>?_⟩
    ·have hpc:=par_lt h0
     rw [hat,hat,if_neg (show ¬ par c=j from hne)]
     by_cases e1:par c=i
     ·rw [if_pos e1]
      by_cases e2:c=j
      ·rw [if_pos e2];exact has
      ·rw [if_neg e2,if_neg (by omega)]
       exact (hml c h0 hc1 e1).resolve_left e2
     ·rw [if_neg e1]
      by_cases e2:c=j
      ·rw [e2] at e1;exact absurd hp e1
      ·rw [if_neg e2]
       by_cases e3:c=i
       ·subst e3
        rw [if_pos rfl]
        exact hu.b j (by omega) h1 hp h0
       ·rw [if_neg e3]
        exact hu.a c h0 hc1 e1
    ·have:=par_lt h0
     rw [hat,hat,hp,if_neg (show ¬ c=j by omega),if_neg (show ¬ c=i by omega),if_neg (show ¬ i=j by omega),if_pos rfl]
     have h2:=hu.a c h0 hc1 (by omega)
     rwa [hpc] at h2
theorem heap_root {lt:α→α→Bool} (ho:Ord lt) {Q:List α} {n:Nat} (h:HeapQ lt Q n) (hirr:lt (atQ Q 0) (atQ Q 0)=false) : ∀ (f c:Nat),c<f→c<n→lt (atQ Q c) (atQ Q 0)=false
 | 0,c,hc,_=>by omega
 | f+1,c,hc,hn=>by
   rcases Nat.eq_zero_or_pos c with rfl | h0
   ·exact hirr
   ·have hp:=par_lt h0
    exact ho.ntrans _ _ _ (h c h0 hn) (heap_root ho h hirr f (par c) (by omega) (by omega))
theorem heap_push {lt:α→α→Bool} (ho:Ord lt) {Q:List α} (h:HeapQ lt Q Q.length) (x:α):HeapQ lt (upQ lt (Q.length+1) (Q++[x]) Q.length) (Q.length+1)∧(upQ lt (Q.length+1) (Q++[x]) Q.length).Perm (Q++[x]):=by
 have hl:(Q++[x]).length=Q.length+1:=by rw [List.length_append];rfl
 have hat : ∀ c,c<Q.length→atQ (Q++[x]) c=atQ Q c:=fun c hc=>by unfold atQ;rw [List.getD_eq_getElem?_getD,List.getD_eq_getElem?_getD,List.getElem?_append_left hc]
 refine ⟨up_heap ho (Q.length+1) _ _ _ (by omega) (by omega) (by omega) ⟨fun c h0 h1 hne=>?_,fun c h0 h1 hpc _=>?_⟩,upQ_perm lt _ _ _ (by omega)⟩
 ·have:=par_lt h0
  rw [hat c (by omega),hat (par c) (by omega)]
  exact h c h0 (by omega)
 ·have:=par_lt h0;omega
theorem heap_pop {lt:α→α→Bool} (ho:Ord lt) {Q:List α} {n:Nat} (hl:Q.length=n+1) (h:HeapQ lt Q Q.length):HeapQ lt (downQ lt (n+1) (swapQ Q 0 n) 0 n) n∧atQ (downQ lt (n+1) (swapQ Q 0 n) 0 n) n=atQ Q 0∧(downQ lt (n+1) (swapQ Q 0 n) 0 n).Perm Q∧(downQ lt (n+1) (swapQ Q 0 n) 0 n).length=n+1:=by
 have hs:(swapQ Q 0 n).length=n+1:=by rw [zA2,hl]
 have hat:=zEX (Q:=Q) (i:=0) (j:=n) (by omega) (by omega)
 have hpm:=zEq (Q:=Q) (i:=0) (j:=n) (by omega) (by omega)
 rcases Nat.eq_zero_or_pos n with rfl | hn
 ·refine ⟨fun c h0 h1=>by omega,?_,?_,by rw [downQ_len,hs]⟩
  ·have:downQ lt (0+1) (swapQ Q 0 0) 0 0=swapQ Q 0 0:=by unfold downQ;rw [if_pos (.inl (by omega))]
   rw [this,hat,if_pos rfl]
  ·have:downQ lt (0+1) (swapQ Q 0 0) 0 0=swapQ Q 0 0:=by unfold downQ;rw [if_pos (.inl (by omega))]
   rw [this];exact hpm
 ·refine ⟨down_heap ho n _ _ _ (by omega) hn (by omega) ⟨fun c h0 h1 hne=>?_,fun c _ _ _ h=>by omega⟩,?_,(downQ_perm lt _ _ _ _ (by omega) (by omega)).trans hpm,by rw [downQ_len,hs]⟩
  ·have:=par_lt h0
   rw [hat,hat,if_neg (show ¬ c=n by omega),if_neg (show ¬ c=0 by omega),if_neg (show ¬ par c=n by omega),if_neg (show ¬ par c=0 from hne)]
   exact h c h0 (by omega)
  ·rw [downQ_out lt _ _ _ n n hn (by omega) (Nat.le_refl _),hat,if_pos rfl]
end
end Go.Proofs.YtbcbmjdmlcldjaaGreatDoor
namespace Go.Proofs.YtbcbmjdmlcldjaaGreatDoor
open Go.RowKit
section
theorem objC_at {o:ObjL} (h:o.tree.length=32) (ve vp:Value):(objC o ve vp)[35]?=some vp∧(objC o ve vp)[36]?=some (.int .u32 o.time):=by
 have e:objC o ve vp=(.int .i64 o.kind :: .string (B o.data)::ve::(u8s o.tree).toList)++(vp :: .int .u32 o.time :: .string (B o.text)::((u8s o.target).toList++[.int .i64 o.of_, .string (B o.name)])):=by simp [objC]
 have hl:(Value.int .i64 o.kind :: .string (B o.data)::ve::(u8s o.tree).toList).length=35:=by simp [zAh,h]
 rw [e]
 constructor
 ·rw [List.getElem?_append_right (by omega),hl];rfl
 ·rw [List.getElem?_append_right (by omega),hl];rfl
def aheadL (x y:Nat) (a b:Txt):Bool:=if x=y then Op.bytesLess a b else decide (y<x)
theorem ahead_asymm {x y:Nat} {a b:Txt} (h:aheadL x y a b=true):aheadL y x b a=false:=by
 unfold aheadL at h ⊢
 by_cases e:x=y
 ·rw [if_pos e] at h
  rw [if_pos e.symm]
  exact zCs h
 ·rw [if_neg e] at h
  rw [if_neg fun h=>e h.symm]
  have:=of_decide_eq_true h
  exact decide_eq_false (by omega)
theorem less_ntrans {a b c:Txt} (h1:Op.bytesLess a b=false) (h2:Op.bytesLess b c=false):Op.bytesLess a c=false:=by
 cases hac:Op.bytesLess a c with
 | false=>rfl
 | true=>
   by_cases e:a=b
   ·rw [e,h2] at hac;cases hac
   ·rw [zDd (zBD h1 e) hac] at h2;cases h2
theorem zCS {x y z:Nat} {a b c:Txt} (h1:aheadL x y a b=false) (h2:aheadL y z b c=false):aheadL x z a c=false:=by
 unfold aheadL at h1 h2 ⊢
 by_cases e1:x=y
 ·subst e1
  rw [if_pos rfl] at h1
  by_cases e2:x=z
  ·rw [if_pos e2] at h2 ⊢
   exact less_ntrans h1 h2
  ·rw [if_neg e2] at h2 ⊢
   exact h2
 ·rw [if_neg e1] at h1
  have h1:=of_decide_eq_false h1
  by_cases e2:y=z
  ·subst e2
   rw [if_neg e1]
   exact decide_eq_false h1
  ·rw [if_neg e2] at h2
   have h2:=of_decide_eq_false h2
   rw [if_neg (by omega)]
   exact decide_eq_false (by omega)
theorem ahead_one {x y:Nat} {a b:Txt} (h1:aheadL x y a b=false) (h2:aheadL y x b a=false):a=b:=by
 unfold aheadL at h1 h2
 by_cases e:x=y
 ·rw [if_pos e] at h1
  rw [if_pos e.symm] at h2
  by_cases hab:a=b
  ·exact hab
  ·rw [zBD h1 hab] at h2;cases h2
 ·rw [if_neg e] at h1
  rw [if_neg fun h=>e h.symm] at h2
  have h1:=of_decide_eq_false h1
  have h2:=of_decide_eq_false h2
  omega
theorem ahead_ord {α:Type} [Inhabited α] (t:α→Nat) (f:α→Txt):Ord fun a b=>aheadL (t a) (t b) (f a) (f b):=⟨fun _ _ h=>ahead_asymm h,fun _ _ _ h1 h2=>zCS h1 h2⟩
def timeS (S:List StL) (n:Txt):Nat:=match objS S n with
 | some o=>o.time
 | none=>0
def parS (S:List StL) (n:Txt):List Txt:=match objS S n with
 | some o=>o.pars
 | none=>[]
def aheadS (S:List StL) (a b:Txt):Bool:=aheadL (timeS S a) (timeS S b) a b
theorem zC0 (S:List StL) (a:Txt):aheadS S a a=false:=by
 unfold aheadS aheadL
 rw [if_pos rfl]
 exact zBH a
def pickB (S:List StL) (b:Option Txt) (x:Txt):Option Txt:=match b with
 | none=>some x
 | some y=>if aheadS S x y=true then some x else some y
section
variable {S:List StL} {cut:List Txt}
theorem pick_some (b:Option Txt) (x:Txt) : ∃ z,pickB S b x=some z∧(z=x∨b=some z)∧aheadS S x z=false ∧ ∀ m,b=some m→aheadS S m z=false:=by
 cases b with
 | none=>exact ⟨x,rfl, .inl rfl,zC0 S x,fun m h=>by cases h⟩
 | some y=>
   cases h:aheadS S x y with
   | true=>exact ⟨x,by unfold pickB;simp [h], .inl rfl,zC0 S x,fun m hm=>by cases hm;exact ahead_asymm h⟩
   | false=>exact ⟨y,by unfold pickB;simp [h], .inr rfl,h,fun m hm=>by cases hm;exact zC0 S y⟩
theorem pick_fold : ∀ (L:List Txt) (b:Option Txt),(L.foldl (pickB S) b=none→L=[]∧b=none) ∧ ∀ n,L.foldl (pickB S) b=some n→(n∈L∨b=some n)∧(∀ m∈L,aheadS S m n=false) ∧ ∀ m,b=some m→aheadS S m n=false
 | [],b=>⟨fun h=>⟨rfl,h⟩,fun n h=>⟨.inr h,fun m hm=>by simp at hm,fun m hm=>by
    have h:b=some n:=h
    rw [h] at hm;cases hm;exact zC0 S n⟩⟩
 | x::L,b=>by
   obtain ⟨z,hz,h1,h2,h3⟩:=pick_some (S:=S) b x
   obtain ⟨i1,i2⟩:=pick_fold L (some z)
   refine ⟨fun h=>?_,fun n h=>?_⟩
   ·rw [List.foldl_cons,hz] at h
    exact absurd (i1 h).2 (by simp)
   ·rw [List.foldl_cons,hz] at h
    obtain ⟨j1,j2,j3⟩:=i2 n h
    have hzn:=j3 z rfl
    refine ⟨?_,fun m hm=>?_,fun m hm=>zCS (h3 m hm) hzn⟩
    ·rcases j1 with j1 | j1
     ·exact .inl (List.mem_cons_of_mem _ j1)
     ·cases j1
      rcases h1 with h1 | h1
      ·rw [h1];exact .inl List.mem_cons_self
      ·exact .inr h1
    ·rcases List.mem_cons.1 hm with rfl | hm
     ·exact zCS h2 hzn
     ·exact j2 m hm
def leftW (seen out:List Txt):List Txt:=seen.filter fun x => !inL out x
def bestT (S:List StL) (seen out:List Txt):Option Txt:=(leftW seen out).foldl (pickB S) none
theorem best_none {seen out:List Txt} (h:bestT S seen out=none):leftW seen out=[]:=((pick_fold _ _).1 h).1
theorem best_some {seen out:List Txt} {n:Txt} (h:bestT S seen out=some n):n∈leftW seen out ∧ ∀ m∈leftW seen out,aheadS S m n=false:=by
 obtain ⟨h1,h2,_⟩:=(pick_fold _ _).2 n h
 exact ⟨h1.elim id fun h=>(by cases h),h2⟩
theorem best_one {seen out:List Txt} {n:Txt} (hn:n∈leftW seen out) (hm : ∀ m∈leftW seen out,aheadS S m n=false):bestT S seen out=some n:=by
 cases hb:bestT S seen out with
 | none=>rw [best_none hb] at hn;simp at hn
 | some z=>
   obtain ⟨h1,h2⟩:=best_some hb
   rw [ahead_one (hm z h1) (h2 n hn)]
theorem mem_left {seen out:List Txt} {x:Txt}:x∈leftW seen out↔x∈seen∧x ∉ out:=by
 unfold leftW
 rw [List.mem_filter]
 constructor
 ·rintro ⟨h1,h2⟩
  refine ⟨h1,fun h=>?_⟩
  rw [inL_iff.2 h] at h2
  cases h2
 ·rintro ⟨h1,h2⟩
  refine ⟨h1,?_⟩
  cases hi:inL out x with
  | false=>rfl
  | true=>exact absurd (inL_iff.1 hi) h2
def offerS (S:List StL) (seen:List Txt) (p:Txt):List Txt:=if (!inL seen p&&kindS S p==3)=true then seen++[p] else seen
def offerL (S:List StL) (seen l:List Txt):List Txt:=l.foldl (offerS S) seen
theorem zCI {seen l:List Txt} {k:Nat} {x:Txt} (h:l[k]?=some x):offerL S seen (l.take (k+1))=offerS S (offerL S seen (l.take k)) x:=by
 unfold offerL
 rw [List.take_add_one,h,List.foldl_append]
 rfl
def offerE (S:List StL) (seen:List Txt) (x:Txt):List Txt:=match endS S (S.length+1) x with
 | some e=>offerS S seen e
 | none=>seen
def endsL (S:List StL) (l:List Txt):List Txt:=l.foldl (offerE S) []
theorem endsL_more {l:List Txt} {k:Nat} {x:Txt} (h:l[k]?=some x):endsL S (l.take (k+1))=offerE S (endsL S (l.take k)) x:=by
 unfold endsL
 rw [List.take_add_one,h,List.foldl_append]
 rfl
def walkW (S:List StL) (cut:List Txt):Nat→List Txt→List Txt→List Txt
 | 0,_,out=>out
 | f+1,seen,out=>match bestT S seen out with
   | none=>out
   | some n=>walkW S cut f (if inL cut n=true then seen else offerL S seen (parS S n)) (out++[n])
def walkS (S:List StL) (cut ini:List Txt):List Txt:=walkW S cut (S.length+1) (endsL S ini) []
theorem walk_stop {f:Nat} {seen out:List Txt} (h:bestT S seen out=none):walkW S cut f seen out=out:=by
 cases f with
 | zero=>rfl
 | succ f=>unfold walkW;rw [h]
theorem walkW_go {f:Nat} {seen out:List Txt} {n:Txt} (h:bestT S seen out=some n):walkW S cut (f+1) seen out=walkW S cut f (if inL cut n=true then seen else offerL S seen (parS S n)) (out++[n]):=by
 rw [walkW,h]
structure WalkI (S:List StL) (seen out:List Txt):Prop where
 nd:seen.Nodup
 k3 : ∀ x∈seen,kindS S x=3
 sub : ∀ x∈out,x∈seen
 ndo:out.Nodup
theorem offerS_law {seen:List Txt} (hn:seen.Nodup) (hk : ∀ x∈seen,kindS S x=3) (p:Txt):(offerS S seen p).Nodup∧(∀ x∈offerS S seen p,kindS S x=3)∧(∀ x∈seen,x∈offerS S seen p) ∧ ∀ x∈offerS S seen p,x∈seen∨x=p:=by
 unfold offerS
 split
 ·rename_i h
  rw [Bool.and_eq_true] at h
  have h1:inL seen p=false:=by simpa using h.1
  have h2:kindS S p=3:=by simpa using h.2
  refine ⟨zCw hn h1,fun x hx=>?_,fun x hx=>List.mem_append_left _ hx,fun x hx=>?_⟩
  ·rcases List.mem_append.1 hx with hx | hx
   ·exact hk x hx
   ·rw [List.mem_singleton.1 hx];exact h2
  ·rcases List.mem_append.1 hx with hx | hx
   ·exact .inl hx
   ·exact .inr (List.mem_singleton.1 hx)
 ·exact ⟨hn,hk,fun x hx=>hx,fun x hx => .inl hx⟩
theorem zBE : ∀ (l:List Txt) {seen:List Txt},seen.Nodup→(∀ x∈seen,kindS S x=3)→(offerL S seen l).Nodup∧(∀ x∈offerL S seen l,kindS S x=3)∧(∀ x∈seen,x∈offerL S seen l) ∧ ∀ x∈offerL S seen l,x∈seen∨x∈l
 | [],seen,hn,hk=>⟨hn,hk,fun x hx=>hx,fun x hx => .inl hx⟩
 | p::l,seen,hn,hk=>by
   obtain ⟨a1,a2,a3,a4⟩:=offerS_law hn hk p
   obtain ⟨b1,b2,b3,b4⟩:=zBE l a1 a2
   refine ⟨b1,b2,fun x hx=>b3 x (a3 x hx),fun x hx=>?_⟩
   rcases b4 x hx with h | h
   ·rcases a4 x h with h | h
    ·exact .inl h
    ·rw [h];exact .inr List.mem_cons_self
   ·exact .inr (List.mem_cons_of_mem _ h)
theorem endsL_law : ∀ (l:List Txt) {seen:List Txt},seen.Nodup→(∀ x∈seen,kindS S x=3)→(l.foldl (offerE S) seen).Nodup∧(∀ x∈l.foldl (offerE S) seen,kindS S x=3) ∧ ∀ x∈seen,x∈l.foldl (offerE S) seen
 | [],seen,hn,hk=>⟨hn,hk,fun x hx=>hx⟩
 | p::l,seen,hn,hk=>by
   have h:(offerE S seen p).Nodup∧(∀ x∈offerE S seen p,kindS S x=3) ∧ ∀ x∈seen,x∈offerE S seen p:=by
    unfold offerE
    cases endS S (S.length+1) p with
    | none=>exact ⟨hn,hk,fun x hx=>hx⟩
    | some e=>
      obtain ⟨a1,a2,a3,_⟩:=offerS_law hn hk e
      exact ⟨a1,a2,a3⟩
   obtain ⟨b1,b2,b3⟩:=endsL_law l h.1 h.2.1
   exact ⟨b1,b2,fun x hx=>b3 x (h.2.2 x hx)⟩
theorem WalkI.start (l:List Txt):WalkI S (endsL S l) []:=by
 obtain ⟨h1,h2,_⟩:=endsL_law (S:=S) l (seen:=[]) List.nodup_nil (fun x hx=>by simp at hx)
 exact ⟨h1,h2,fun x hx=>by simp at hx,List.nodup_nil⟩
theorem WalkI.step {seen out:List Txt} (h:WalkI S seen out) {n:Txt} (hn:n∈leftW seen out):WalkI S (if inL cut n=true then seen else offerL S seen (parS S n)) (out++[n]):=by
 obtain ⟨h1,h2⟩:=mem_left.1 hn
 have hnd:(out++[n]).Nodup:=zCw h.ndo (by
  cases hi:inL out n with
  | false=>rfl
  | true=>exact absurd (inL_iff.1 hi) h2)
 have hsub : ∀ x∈out++[n],x∈seen:=fun x hx=>by
  rcases List.mem_append.1 hx with hx | hx
  ·exact h.sub x hx
  ·rw [List.mem_singleton.1 hx];exact h1
 split
 ·exact ⟨h.nd,h.k3,hsub,hnd⟩
 ·obtain ⟨a1,a2,a3,_⟩:=zBE (S:=S) (parS S n) h.nd h.k3
  exact ⟨a1,a2,fun x hx=>a3 x (hsub x hx),hnd⟩
theorem kind3_mem {x:Txt} (h:kindS S x=3):x∈S.map StL.id:=by
 refine isS_mem ?_
 unfold kindS at h
 unfold isS objS
 cases hg:getS S x with
 | none=>rw [hg] at h;simp at h
 | some s=>
   rw [hg] at h
   simp only at h ⊢
   cases hd:decO s.text with
   | none=>rw [hd] at h;simp at h
   | some o=>rfl
theorem WalkI.len {seen out:List Txt} (h:WalkI S seen out):seen.length≤S.length∧out.length≤S.length:=by
 have h1:=zB4 h.nd (m:=S.map StL.id) fun x hx=>kind3_mem (h.k3 x hx)
 have h2:=zB4 h.ndo (m:=S.map StL.id) fun x hx=>kind3_mem (h.k3 x (h.sub x hx))
 rw [List.length_map] at h1 h2
 exact ⟨h1,h2⟩
end
end
def covS (S:List StL) (common:List Txt) (x:Txt):Bool:=match endS S (S.length+1) x with
 | none=>false
 | some e=>if kindS S e=3 then (walkS S [] [e]).any (fun y=>inL common y) else true
def readyS (S:List StL) (wants common:List Txt):Bool:=wants.all (covS S common)
def manyN (r:Int):Nat:=if r<1 then 1 else if r<2 then 2 else if r<3 then 4 else if r<4 then 8 else 16
theorem ready_take {S:List StL} {wants common:List Txt} {k:Nat} {x:Txt} (h:wants[k]?=some x):readyS S (wants.take (k+1)) common=(readyS S (wants.take k) common&&covS S common x):=by
 unfold readyS
 rw [List.take_add_one,h,List.all_append]
 simp
theorem ready_stop {S:List StL} {wants common:List Txt} {k:Nat} {x:Txt} (h:wants[k]?=some x) (hc:covS S common x=false):readyS S wants common=false:=by
 unfold readyS
 rw [List.all_eq_false]
 exact ⟨x,List.mem_of_getElem? h,by simp [hc]⟩
theorem any_take {l:List Txt} {p:Txt→Bool} {k:Nat} {x:Txt} (h:l[k]?=some x):(l.take (k+1)).any p=((l.take k).any p||p x):=by
 rw [List.take_add_one,h,List.any_append]
 simp
section
attribute [local go_sem ↓] ldvI_eq
instance : Inhabited DiL:=⟨⟨⟨[],[]⟩,zeroO, .slice none 0 0, .slice none 0 0⟩⟩
def ndC (e:DiL):List Value:=(u8s e.st.id).toList++objC e.o e.ve e.vp
theorem ndC_len {w:World} {e:DiL} (h:DitOk w e):(ndC e).length=104:=by
 unfold ndC
 rw [List.length_append,zAO,h.id,zAy h.val.ok]
theorem ndC_one {w:World} {e:DiL} (h:DitOk w e) : ∀ u∈ndC e,u.oneCell'=true:=by
 obtain ⟨A1,A2,k1,k2,e1,e2⟩:=h.forms
 intro u hu
 unfold ndC at hu
 rw [e1,e2] at hu
 rcases List.mem_append.1 hu with hu | hu
 ·exact u8v_one e.st.id u (by simpa [u8s] using hu)
 ·exact Array.all_eq_true_iff_forall_mem.1 (zAv e.o A1 A2 e.o.ents.length k1 e.o.pars.length k2) u (by simpa using hu)
def zNd : Value := .agg ((u8s noId).toList++objC zeroO (.slice none 0 0) (.slice none 0 0)).toArray
theorem Tryz.ndTy : SliceTy Tryz.prog 119 126 zNd 104 216:=⟨Tryz.underlying119,info_parts (by kernel_rfl),by kernel_rfl,by omega⟩
theorem szNd : (Tryz.prog.info? 126).map (·.size)=some 104:=by kernel_rfl
section
variable {w w':World} {g o:Nat} {e:DiL}
theorem nd_id (h:w.rangeAt g o (ndC e)):w.rangeAt g o (u8s e.st.id).toList:=fun j u hu=>h j u (by
 unfold ndC
 rw [List.getElem?_append_left (List.getElem?_eq_some_iff.1 hu).1]
 exact hu)
theorem nd_obj (h:w.rangeAt g o (ndC e)) (hid:e.st.id.length=32):w.rangeAt g (o+32) (objC e.o e.ve e.vp):=fun j u hu=>by
 have:=h (32+j) u (by
  unfold ndC
  rw [List.getElem?_append_right (by rw [zAO,hid];omega),zAO,hid,Nat.add_sub_cancel_left]
  exact hu)
 rwa [←Nat.add_assoc] at this
theorem nd_time (h:w.rangeAt g o (ndC e)) (hid:e.st.id.length=32) (ht:e.o.tree.length=32):w.cell? ⟨g,o+32+36,none⟩=some (.int .u32 e.o.time):=nd_obj h hid 36 _ (objC_at ht _ _).2
theorem nd_pars (h:w.rangeAt g o (ndC e)) (hid:e.st.id.length=32) (ht:e.o.tree.length=32):w.cell? ⟨g,o+32+35,none⟩=some e.vp:=nd_obj h hid 35 _ (objC_at ht _ _).1
theorem DitOk.same {e:DiL} (h:DitOk w e) (h1 : ∀ k,e.ve.ownBlock=some k→w'.heap[k]?=w.heap[k]?) (h2 : ∀ k,e.vp.ownBlock=some k→w'.heap[k]?=w.heap[k]?):DitOk w' e:=⟨h.dec,h.id,h.ok,zBS h.oe h1,zBS h.op h2⟩
theorem DitOk.far {S:List (Option Nat)} {e:DiL} (h:DitOk w e) (hf:Far S w w') (h1 : ∀ k,e.ve.ownBlock=some k→some k ∉ S) (h2 : ∀ k,e.vp.ownBlock=some k→some k ∉ S):DitOk w' e:=⟨h.dec,h.id,h.ok,hf.own h.oe h1,hf.own h.op h2⟩
end
abbrev OwnNds (w:World) (B:Nat) (v:Value) (l:List DiL):Prop:=w.ownsRow B 126 104 v l.length (rowsOf ndC l)
structure QAt (w:World) (B:Nat) (v:Value) (Q:List DiL):Prop where
 own:OwnNds w B v Q
 each : ∀ e∈Q,DitOk w e
section
variable {w w':World} {B:Nat} {v:Value} {Q:List DiL}
theorem QAt.len (h:QAt w B v Q) : ∀ e∈Q,(ndC e).length=104:=fun e he=>ndC_len (h.each e he)
theorem QAt.at_ (h:QAt w B v Q):SliceAt w 104 ndC v Q:=SliceAt.of_own h.len h.own
theorem QAt.below (h:QAt w B v Q) (hb:Below w.heap.size w w'):QAt w' B v Q:=⟨zAd h.own hb,fun e he=>(h.each e he).below hb⟩
theorem QAt.apart (h:QAt w B v Q) {e:DiL} (he:DitOk w e):(∀ k,e.ve.ownBlock=some k→some k ∉ [v.ownBlock]) ∧ ∀ k,e.vp.ownBlock=some k→some k ∉ [v.ownBlock]:=
 ⟨fun k hk hm=>own_ne he.oe h.own (by decide) k hk (List.mem_singleton.1 hm).symm,fun k hk hm=>own_ne he.op h.own (by decide) k hk (List.mem_singleton.1 hm).symm⟩
end
def ltN (a b:DiL):Bool:=aheadL a.o.time b.o.time a.st.id b.st.id
theorem ltN_ord : Ord ltN:=ahead_ord (fun e:DiL=>e.o.time) (fun e=>e.st.id)
set_option maxRecDepth 100000 in
set_option maxHeartbeats 1000000 in
theorem zCh (A:Option Addr) (n c:Nat) (w:World):Calls Tryz.prog 62 #[.slice A n c] w fun e w'=>e = .returned (.int .i64 n)∧w'=w:=by
 go_enter Tryz.func62,Tryz.ntmps62
 go_wp2
 go_ret
 exact ⟨rfl,rfl⟩
set_option maxRecDepth 100000 in
set_option maxHeartbeats 4000000 in
theorem zCX {w:World} {B:Nat} {v:Value} {Q:List DiL} (h:QAt w B v Q) {i j:Nat} {x y:DiL} (hx:Q[i]?=some x) (hy:Q[j]?=some y) :
 Calls Tryz.prog 185 #[v, .int .i64 i, .int .i64 j] w fun e w'=>e = .returned (.bool (ltN x y))∧Below w.heap.size w w':=by
 have hxm:=h.each x (List.mem_of_getElem? hx)
 have hym:=h.each y (List.mem_of_getElem? hy)
 have hil:=(List.getElem?_eq_some_iff.1 hx).1
 have hjl:=(List.getElem?_eq_some_iff.1 hy).1
 obtain ⟨A,cap,rfl,hcap1,hcap2,hat⟩:=h.at_
 obtain ⟨g,o,rfl,hg,hc⟩:=hat (by omega)
 have hii:(i:Int)<(Q.length:Int):=by omega
 have hji:(j:Int)<(Q.length:Int):=by omega
 have rx:=fun W (hW:Below w.heap.size w W)=>zAc (hc i x hx) hg hW
 have ry:=fun W (hW:Below w.heap.size w W)=>zAc (hc j y hy) hg hW
 have tx:=fun W (hW:Below w.heap.size w W)=>nd_time (rx W hW) hxm.id hxm.ok.tree
 have ty:=fun W (hW:Below w.heap.size w W)=>nd_time (ry W hW) hym.id hym.ok.tree
 have lx:=fun W (hW:Below w.heap.size w W)=>zAb (nd_id (rx W hW)) hxm.id
 have ly:=fun W (hW:Below w.heap.size w W)=>zAb (nd_id (ry W hW)) hym.id
 have hls:=fun W=>less_calls x.st.id y.st.id hxm.id hym.id W
 obtain ⟨r,hr⟩ : ∃ r,ltN x y=r:=⟨_,rfl⟩
 rw [hr]
 unfold ltN aheadL at hr
 replace hr:=Lib.hid hr
 generalize x.o.time=X at *
 generalize y.o.time=Y at *
 generalize Op.bytesLess x.st.id y.st.id=lb at *
 clear h hxm hym hat hc rx ry hx hy
 go_enter Tryz.func185,Tryz.ntmps185
 go_upto_region 1 with (fail)
 refine zAe (C:=fun W=>Below w.heap.size w W) (by kernel_rfl) (by kernel_rfl) (Below.refl _ _).drew ?_
 repeat
  first
   | ((with_reducible refine zAm ?_ ?_)
      ·(go_simp;done)
      apply Exists.intro
      refine ⟨fun W hW=>?_,?_⟩
      ·first
        | (have q0:=tx W hW
           have q1:=ty W hW
           have q2:=lx W hW
           have q3:=ly W hW
           go_simp
           rfl)
      simp only [Act.put,zA,zB,zC])
   | ((with_reducible refine zAj ?_ ?_)
      ·(first | rfl | (go_simp;done))
      simp only [Act.put,zA,zB,zC])
 with_reducible refine wpQuiet_nil ?_
 intro w5 hW5
 by_cases hXY:X=Y
 ·subst hXY
  have hr2:Hid (lb=r):=Lib.hid (by have:=hr.out;rwa [if_pos rfl] at this)
  have hne:((X:Int) != (X:Int))=false:=by simp
  clear hr
  go_upto_region 3 with (fail)
  refine zAe (C:=fun W=>Below w.heap.size w W) (by kernel_rfl) (by kernel_rfl) hW5.drew ?_
  repeat
   first
    | ((with_reducible refine zAm ?_ ?_)
       ·(go_simp;done)
       apply Exists.intro
       refine ⟨fun W hW=>?_,?_⟩
       ·first
         | (have q2:=lx W hW
            have q3:=ly W hW
            have p1:=zAL hW (hls W)
            go_simp
            first
             | rfl
             | (with_reducible exact p1))
       simp only [Act.put,zA,zB,zC])
    | ((with_reducible refine zAj ?_ ?_)
       ·(first | rfl | (go_simp;done))
       simp only [Act.put,zA,zB,zC])
  with_reducible refine wpQuiet_nil ?_
  intro w6 hW6
  go_wp2
  go_ret
  obtain rfl:lb=r:=hr2.out
  exact ⟨rfl,hW6⟩
 ·have hr2:Hid (decide (Y<X)=r):=Lib.hid (by have:=hr.out;rwa [if_neg hXY] at this)
  have hne:((X:Int) != (Y:Int))=true:=by simp;omega
  clear hr
  go_upto_region 2 with (fail)
  refine zAe (C:=fun W=>Below w.heap.size w W) (by kernel_rfl) (by kernel_rfl) hW5.drew ?_
  repeat
   first
    | ((with_reducible refine zAm ?_ ?_)
       ·(go_simp;done)
       apply Exists.intro
       refine ⟨fun W hW=>?_,?_⟩
       ·first
         | (have q0:=tx W hW
            have q1:=ty W hW
            have q2:=lx W hW
            have q3:=ly W hW
            go_simp
            rfl)
       simp only [Act.put,zA,zB,zC])
    | ((with_reducible refine zAj ?_ ?_)
       ·(first | rfl | (go_simp;done))
       simp only [Act.put,zA,zB,zC])
  with_reducible refine wpQuiet_nil ?_
  intro w6 hW6
  go_wp2
  go_ret
  obtain rfl:decide (Y<X)=r:=hr2.out
  exact ⟨rfl,hW6⟩
end
section
def ldvN (p:Addr):Sem Value:=loadVar 126 p
theorem ldvN_eq (p:Addr):loadVar 126 p=ldvN p:=rfl
def stvN (p:Addr) (v:Value):Sem Unit:=storeVar 126 p v
theorem stvN_eq (p:Addr) (v:Value):storeVar 126 p v=stvN p v:=rfl
theorem zCA {w:World} {g o:Nat} {e:DiL} (h:w.rangeAt g o (ndC e)) (hl:(ndC e).length=104):(ldvN ⟨g,o,none⟩).run Tryz.prog w = .ok (.agg (ndC e).toArray) w:=run_loadVar_mid w g o 126 (ndC e) _ h Tryz.underlying126 rfl (by rw [hl];exact szNd)
theorem run_ldvN {w:World} {g:Nat} {cs:Array Value} (h:Blk w g 126 cs) (hl:cs.size=104):(ldvN ⟨g,0,none⟩).run Tryz.prog w = .ok (.agg cs) w:=run_loadVar_row w g _ _ _ _ _ h Tryz.underlying126 rfl (by rw [hl];exact szNd)
section
attribute [local go_sem ↓] ldvN_eq stvN_eq
set_option maxRecDepth 100000 in
set_option maxHeartbeats 4000000 in
theorem zB9 {w:World} {B:Nat} {v:Value} {Q:List DiL} (h:QAt w B v Q) {i j:Nat} (hi:i<Q.length) (hj:j<Q.length) :
 Calls Tryz.prog 186 #[v, .int .i64 i, .int .i64 j] w fun e w'=>e = .returned (.tuple #[])∧QAt w' B v (swapQ Q i j)∧Far [v.ownBlock] w w':=by
 have hlen:=h.len
 rcases Row.of_own hlen h.own with ⟨_,h0⟩ | ⟨g,cap,rfl,hBg,hrow⟩
 ·subst h0;simp at hi
 have hx:=atQ_get hi
 have hy:=atQ_get hj
 have hxm:=h.each _ (List.mem_of_getElem? hx)
 have hym:=h.each _ (List.mem_of_getElem? hy)
 obtain ⟨x,hxe⟩ : ∃ x,atQ Q i=x:=⟨_,rfl⟩
 obtain ⟨y,hye⟩ : ∃ y,atQ Q j=y:=⟨_,rfl⟩
 have hsw:swapQ Q i j=(Q.set i y).set j x:=by unfold swapQ;rw [hxe,hye]
 rw [hxe] at hx hxm
 rw [hye] at hy hym
 have hxl:=ndC_len hxm
 have hyl:=ndC_len hym
 have hd:=hrow.drew
 have lx:=zCA (hd.at_ i _ hx) hxl
 have ly:=zCA (hd.at_ j _ hy) hyl
 have hcap:=hrow.le
 have r1:=hd.set hlen hi hyl
 have hmem1 : ∀ e∈Q.set i y,DitOk w e:=fun e he=>by
  rcases List.mem_or_eq_of_mem_set he with h1 | h1
  ·exact h.each e h1
  ·rw [h1];exact hym
 have r2:=r1.set (fun e he=>ndC_len (hmem1 e he)) (i:=j) (by rw [List.length_set];exact hj) hxl
 have hmem2 : ∀ e∈(Q.set i y).set j x,DitOk w e:=fun e he=>by
  rcases List.mem_or_eq_of_mem_set he with h1 | h1
  ·exact hmem1 e h1
  ·rw [h1];exact hxm
 have hs1:=run_storeVar_mid (P:=Tryz.prog) w.drew g (i*104) 126 (ndC y).toArray (hd.there (by rw [List.size_toArray,hyl];omega)) (by rw [List.size_toArray,hyl];exact szNd) (all_oneCell_toArray (ndC_one hym))
 have hs2:=run_storeVar_mid (P:=Tryz.prog) (w.drew.setCells g (i*104) (ndC y)) g (j*104) 126 (ndC x).toArray (r1.there (by rw [List.size_toArray,hxl];omega)) (by rw [List.size_toArray,hxl];exact szNd) (all_oneCell_toArray (ndC_one hxm))
 rw [List.toList_toArray] at hs1 hs2
 have hf:Far [some g] w ((w.drew.setCells g (i*104) (ndC y)).setCells g (j*104) (ndC x)):=Far.cells (.inl (List.mem_singleton.2 rfl)) _ _ _ (Far.cells (.inl (List.mem_singleton.2 rfl)) _ _ _ (Far.refl _ w).drew)
 have hfin:QAt ((w.drew.setCells g (i*104) (ndC y)).setCells g (j*104) (ndC x)) B (.slice (some ⟨g,0,none⟩) Q.length cap) (swapQ Q i j):=by
  have ho:=r2.own (fun e he=>ndC_len (hmem2 e he)) hBg
  rw [List.length_set,List.length_set,←hsw] at ho
  refine ⟨?_,fun e he=>?_⟩
  ·unfold OwnNds
   rw [zA2]
   exact ho
  ·rw [hsw] at he
   obtain ⟨a1,a2⟩:=h.apart (hmem2 e he)
   exact (hmem2 e he).far hf a1 a2
 have hii:(i:Int)<(Q.length:Int):=by omega
 have hji:(j:Int)<(Q.length:Int):=by omega
 have hs1':(stvN ⟨g,i*104,none⟩ (.agg (ndC y).toArray)).run Tryz.prog w.drew = .ok () (w.drew.setCells g (i*104) (ndC y)):=hs1
 obtain ⟨W1,hW1⟩ : ∃ W1,w.drew.setCells g (i*104) (ndC y)=W1:=⟨_,rfl⟩
 rw [hW1] at hs1' hs2 hf hfin
 have hs2':(stvN ⟨g,j*104,none⟩ (.agg (ndC x).toArray)).run Tryz.prog W1 = .ok () (W1.setCells g (j*104) (ndC x)):=hs2
 obtain ⟨W2,hW2⟩ : ∃ W2,W1.setCells g (j*104) (ndC x)=W2:=⟨_,rfl⟩
 rw [hW2] at hs2' hf hfin
 obtain ⟨X,hX⟩ : ∃ X,(ndC x).toArray=X:=⟨_,rfl⟩
 obtain ⟨Y,hY⟩ : ∃ Y,(ndC y).toArray=Y:=⟨_,rfl⟩
 rw [hX] at lx hs2'
 rw [hY] at ly hs1'
 have Hf:=Lib.hid hf
 have Hfin:=Lib.hid hfin
 clear hs1 hs2 hW1 hW2 hX hY r1 r2 hmem1 hmem2 hrow hd hx hy hxm hym hxl hyl hxe hye hsw h hlen hf hfin
 go_enter Tryz.func186,Tryz.ntmps186
 go_wp2_with (fail)
 go_region
 all_goals
  go_wp2
  go_end0
  exact ⟨rfl,Hfin.out,Hf.out⟩
end
def appN (N:Nat) (ve:Value) (B:Nat) (e:TypeId) (size n:Nat) (Ψ:List Value→Prop) (v:Value) (F:Foot) (w:World):Prop:=appR B e size n Ψ v F w∧(v.ownBlock=ve.ownBlock ∨ ∀ k,v.ownBlock=some k→N≤k)
theorem appN_stab (N:Nat) (ve:Value) (B:Nat) (e:TypeId) (size n:Nat) (Ψ:List Value→Prop) (v:Value):Stab (appN N ve B e size n Ψ v):=fun F F' w w' hf ha ⟨h1,h2⟩=>⟨zDQ B e size n Ψ v F F' w w' hf ha h1,h2⟩
section
variable {P:Program} {ops:Array Oper} {w0:World} {rows:List (Option Nat)} {pres:Pres} {sps:List Sp} {E:Act→Facts→Prop} {i:Nat} {rest:List Oper} {s:Sp} {ss:List Sp} {a:Act} {D:Facts}
theorem lx_append1N {d:Option Tmp} {rt:TypeId} {pos:String} {af:Array Edge} {sl x:Operand} {t e:TypeId} {z:Value} {size bytes:Nat} (hT:SliceTy P t e z size bytes) (N:Nat) (hN:N≤w0.heap.size) (B:Nat) (ve:Value) (n:Nat) (xs:List Value) (Ψ:List Value→Prop) (h63:n+1≤9223372036854775807) (hby:(n+1)*bytes≤140737488355328)
 (hB:B≤w0.heap.size) (hp:(i,ve.ownBlock,fun w=>World.ownsRow w B e size ve n xs)∈pres) (hs:s = .wr fun _=>appN N ve B e size (n+1) Ψ)
 (h : ∃ v1 v2,a.eval sl=v1∧a.eval x=v2∧v1=ve∧(∀ w,Far rows w0 w→Have ops pres i D w → ∃ g cs,v2 = .slice (some ⟨g,0,none⟩) 1 1∧Blk w g e cs∧cs.size=size∧(∀ u∈cs.toList,u.oneCell'=true)∧Ψ (xs++cs.toList)) ∧ ∀ v,LxL P ops w0 rows pres sps E (i+1) rest ss (a.put d v) ((i,appN N ve B e size (n+1) Ψ v)::D)) :
 LxL P ops w0 rows pres sps E i ({ dst:=d,op := .call { callee := .builtin .append,args := #[sl,x],argTypes := #[t,t] },type:=rt,pos:=pos,after:=af,guard:=none }::rest) (s::ss) a D:=by
 obtain ⟨_,_,rfl,rfl,hv,hc,h⟩:=h
 refine lx_wr ve.ownBlock _ (fun _=>appN N ve B e size (n+1) Ψ) hs hp (by simp [Region.wanted]) (fun _=>appN_stab N ve B e size (n+1) Ψ) (fun w hw hh hown=>?_) h
 obtain ⟨g,cs,hx,hk,hcs,h1,hps⟩:=hc w hw hh
 obtain ⟨it,i1,i2,i3,i4⟩:=hT.hi
 have hbase:B≤w.heap.size:=Nat.le_trans hB hw.size
 obtain ⟨v',w',hrun,hown',hg,_,hat⟩:=run_append_own_at (P:=P) w B t rt e it z size bytes hT.ht i1 i2 i3 i4 hT.hzs hT.hsz ve n xs hown ⟨g,0,none⟩ 1 1 cs.toList (by simp [hcs]) (zB3 hk) h1 (by simp only [maxLen];omega) hby hbase
 refine zCa (v:=v') (w':=w') ?_ ⟨hg,fun F _ hF2 hF3=>⟨⟨_,hps,hown',fun k hk=>?_⟩,?_⟩⟩
 ·unfold execOp
  simp only [resolve,invoke,builtin,Sem.run_bind,Sem.run_pure,Result.andThen_ok,List.map_toArray,List.map_cons,List.map_nil,hv,hx,hrun]
 ·rcases hat with hat | hat
  ·rw [hat] at hk;exact hF2 k hk.symm
  ·rw [hat] at hk
   injection hk with hk
   subst hk
   exact hF3 _ (Nat.le_refl _) (World.ownsRow.lt hown' _ hat).2
 ·rcases hat with hat | hat
  ·exact .inl hat
  ·refine .inr fun k hk=>?_
   rw [hat] at hk
   injection hk with hk
   subst hk
   exact Nat.le_trans hN hw.size
end
structure WqAt (w:World) (B g:Nat) (vs vq vn:Value) (Q:List DiL):Prop where
 blk:Blk w g 122 #[vs,vq,vn]
 q:QAt w B vq Q
section
variable {w w':World} {B g:Nat} {vs vq vn:Value} {Q:List DiL}
theorem WqAt.c1 (h:WqAt w B g vs vq vn Q):w.cell? ⟨g,1,none⟩=some vq:=by rw [h.blk.cell];rfl
theorem WqAt.below (h:WqAt w B g vs vq vn Q) (hb:Below w.heap.size w w'):WqAt w' B g vs vq vn Q:=⟨h.blk.below hb h.blk.lt,h.q.below hb⟩
theorem run_assertN (v:Value) (W:World):(Instr.typeAssert (.iface 126 v) 20 126 false).run Tryz.prog W = .ok v W:=by kernel_rfl
theorem WqAt.apart (h:WqAt w B g vs vq vn Q) {e:DiL} (he:DitOk w e):(∀ k,e.ve.ownBlock=some k→some k ∉ [some g,vq.ownBlock]) ∧ ∀ k,e.vp.ownBlock=some k→some k ∉ [some g,vq.ownBlock]:=by
 obtain ⟨a1,a2⟩:=h.q.apart he
 refine ⟨fun k hk hm=>?_,fun k hk hm=>?_⟩
 ·rcases List.mem_cons.1 hm with h1 | h1
  ·exact zAu he.oe h.blk (by decide) (h1.symm.trans hk.symm)
  ·exact a1 k hk h1
 ·rcases List.mem_cons.1 hm with h1 | h1
  ·exact zAu he.op h.blk (by decide) (h1.symm.trans hk.symm)
  ·exact a2 k hk h1
end
set_option maxRecDepth 100000 in
set_option maxHeartbeats 4000000 in
theorem queuePush_calls {w:World} {B g:Nat} {vs vq vn:Value} {Q:List DiL} (h:WqAt w B g vs vq vn Q) (hB:B≤w.heap.size) (hbig:Q.length≤600000) {e0:DiL} (he:DitOk w e0) :
 Calls Tryz.prog 189 #[.pointer (some ⟨g,1,none⟩), .iface 126 (.agg (ndC e0).toArray)] w fun e w'=>e = .returned (.tuple #[]) ∧ ∃ vq',WqAt w' B g vs vq' vn (Q++[e0])∧Far [some g,vq.ownBlock] w w'∧Newer w vq vq':=by
 obtain ⟨A,cq,rfl⟩:=zAl h.q.own
 have hpre:=preOk2 (i:=7) (j:=9) h.q.own h.blk (by decide)
 have hl0:=ndC_len he
 have h1:=ndC_one he
 obtain ⟨XC,hXC⟩ : ∃ XC,(ndC e0).toArray=XC:=⟨_,rfl⟩
 have hxl:XC.size=104:=by rw [←hXC,List.size_toArray,hl0]
 have hxone : ∀ u∈XC.toList,u.oneCell'=true:=by rw [←hXC,List.toList_toArray];exact h1
 have hAk:Q.length+1≤9223372036854775807:=by omega
 have hAb:(Q.length+1)*216≤140737488355328:=by omega
 have hta:=run_assertN (.agg XC)
 have hlo:1<(#[vs, .slice A Q.length cq,vn]:Array Value).size:=by simp
 have H:=Lib.hid h
 have He:=Lib.hid he
 have HXC:=Lib.hid hXC
 have hBd:B≤w.drew.heap.size:=hB
 have hNd:w.heap.size≤w.drew.heap.size:=Nat.le_refl _
 rw [hXC]
 clear h he hXC h1 hl0
 go_enter Tryz.func189,Tryz.ntmps189
 go_wp2_with (fail)
 refine zBR 10 [(7,(Value.slice A Q.length cq).ownBlock,fun w=>World.ownsRow w B 126 104 (.slice A Q.length cq) Q.length (rowsOf ndC Q)),(9,some g,fun w=>Blk w g 122 #[vs, .slice A Q.length cq,vn])] hpre (by kernel_rfl) (by kernel_rfl) (by kernel_rfl) (by kernel_rfl) ?_
 simp only [exSp]
 iterate 10 apply Exists.intro
 repeat
  first
   | ((with_reducible apply lx_ex)
      ·(go_simp;done)
      apply Exists.intro
      apply And.intro
      ·apply Eq.refl
      apply And.intro
      ·intro W hF hD
       first
        | (have q2:W.cell? ⟨g,1,none⟩=some (.slice A Q.length cq):=by rw [(hD.was 1 rfl (by kernel_rfl)).cell];rfl
           have q3:=hta W
           go_simp
           rfl)
        | (have q3:=hta W
           go_simp
           rfl)
      simp only [Act.put,zA,zB,zC])
   | ((with_reducible apply lx_pass)
      ·(first | rfl | (go_simp;done))
      ·apply Eq.refl
      simp only [Act.put,zA,zB,zC])
   | (first | (with_reducible apply zBc) | (with_reducible apply zAK)
      ·apply Eq.refl
      apply Exists.intro
      apply And.intro
      ·(go_simp;rfl)
      simp only [Act.put,zA,zB,zC])
   | ((with_reducible apply zCW Tryz.ndTy (fun cs=>cs=XC) (by omega))
      ·apply Eq.refl
      apply Exists.intro
      apply And.intro
      ·(go_simp;rfl)
      refine ⟨fun W hF hD=>?_,?_⟩
      ·exact ⟨XC,rfl,hxl,rfl⟩
      intro v
      simp only [Act.put,zA,zB,zC])
   | ((with_reducible apply lx_append1N Tryz.ndTy w.heap.size hNd B (.slice A Q.length cq) Q.length (rowsOf ndC Q) (fun xs=>xs=rowsOf ndC Q++XC.toList) hAk hAb)
      ·exact hBd
      ·first | exact List.Mem.head _ | exact List.Mem.tail _ (List.Mem.head _) | exact List.Mem.tail _ (List.Mem.tail _ (List.Mem.head _)) | exact List.Mem.tail _ (List.Mem.tail _ (List.Mem.tail _ (List.Mem.head _)))
      ·apply Eq.refl
      apply Exists.intro
      apply Exists.intro
      apply And.intro
      ·(go_simp;rfl)
      apply And.intro
      ·(go_simp;rfl)
      refine ⟨rfl,fun W hF hD=>?_,?_⟩
      ·obtain ⟨F,g5,cs,rfl,_,hk5,rfl⟩:=hD.at 0 rfl (by kernel_rfl)
       exact ⟨g5,_,rfl,hk5,hxl,hxone,rfl⟩
      intro v
      simp only [Act.put,zA,zB,zC])
   | ((with_reducible apply lx_put g 1 #[vs, .slice A Q.length cq,vn] 122)
      ·exact (fun _=>by kernel_rfl)
      ·exact hlo
      ·first | exact List.Mem.head _ | exact List.Mem.tail _ (List.Mem.head _) | exact List.Mem.tail _ (List.Mem.tail _ (List.Mem.head _)) | exact List.Mem.tail _ (List.Mem.tail _ (List.Mem.tail _ (List.Mem.head _)))
      ·apply Eq.refl
      apply Exists.intro
      apply Exists.intro
      apply And.intro
      ·(go_simp;rfl)
      apply And.intro
      ·(go_simp;rfl)
      refine ⟨rfl,fun W hF hD=>?_,?_⟩
      ·obtain ⟨F,⟨xs,_,hv,_⟩,_⟩:=hD.at 0 rfl (by kernel_rfl)
       obtain ⟨A6,c6,rfl⟩:=zAl hv
       exact ⟨_,_,_,rfl⟩)
 refine lxP_nil ?_ fun w5 hF5 hD5=>?_
 ·exact List.nodup_nil
 have hf:Far [some g,(Value.slice A Q.length cq).ownBlock] w w5:=(hF5.mono fun k hk=>by
  simp only [rowsOfP,List.map_cons,List.map_nil,List.mem_cons,List.not_mem_nil,or_false] at hk ⊢
  exact hk.symm)
 obtain ⟨_,hg5,hb5⟩:=hD5 _ (.head _)
 obtain ⟨_,⟨xs,hxs,hv5,hk5⟩,hnw⟩:=hD5 _ (.tail _ (.head _))
 have hlen:(Q++[e0]).length=Q.length+1:=by rw [List.length_append];rfl
 have hrow:rowsOf ndC (Q++[e0])=rowsOf ndC Q++XC.toList:=by rw [zAo,zAp,←HXC.out,List.toList_toArray]
 have hq:QAt w5 B v (Q++[e0]):=by
  refine ⟨?_,fun e he=>?_⟩
  ·unfold OwnNds
   rw [hlen,hrow,←hxs]
   exact hv5
  ·have he:DitOk w e:=by
    rcases List.mem_append.1 he with h1 | h1
    ·exact H.out.q.each e h1
    ·rw [List.mem_singleton.1 h1];exact He.out
   obtain ⟨a1,a2⟩:=H.out.apart he
   exact he.far hf a1 a2
 have hfin:WqAt w5 B g vs v vn (Q++[e0]):=⟨hb5,hq⟩
 clear hD5 hF5 hb5 hq hv5 hpre
 go_wp2
 go_end0
 exact ⟨rfl,v,hfin,hf,hnw⟩
attribute [local go_sem ↓] ldvN_eq
set_option maxRecDepth 100000 in
set_option maxHeartbeats 4000000 in
theorem queuePop_calls {w:World} {B g:Nat} {vs vq vn:Value} {Q:List DiL} {e0:DiL} (h:WqAt w B g vs vq vn (Q++[e0])) :
 Calls Tryz.prog 188 #[.pointer (some ⟨g,1,none⟩)] w fun e w'=>e = .returned (.iface 126 (.agg (ndC e0).toArray)) ∧ ∃ vq',WqAt w' B g vs vq' vn Q∧vq'.ownBlock=vq.ownBlock∧Far [some g] w w':=by
 have hlen:=h.q.len
 rcases Row.of_own hlen h.q.own with ⟨_,h0⟩ | ⟨gr,cap,rfl,hBg,hrow⟩
 ·simp at h0
 have hle:(Q++[e0]).length=Q.length+1:=by rw [List.length_append];rfl
 rw [hle] at h ⊢
 have hx:(Q++[e0])[Q.length]?=some e0:=by simp
 have hel:=hlen e0 (by simp)
 have heone:=ndC_one (h.q.each e0 (by simp))
 have hri:=fun W (hW:Below w.heap.size w W)=>zCA (zAc (hrow.at_ Q.length e0 hx) hrow.lt hW) hel
 have hri0:=hri w (Below.refl _ _)
 have hcap:=hrow.le
 rw [hle] at hcap
 have htop:=hrow.top63
 obtain ⟨XC,hXC⟩ : ∃ XC,(ndC e0).toArray=XC:=⟨_,rfl⟩
 have hxl:XC.size=104:=by rw [←hXC,List.size_toArray,hel]
 have hxone:XC.all (·.oneCell')=true:=by rw [←hXC];exact all_oneCell_toArray heone
 rw [hXC] at hri hri0 ⊢
 have hszx:(Tryz.prog.info? 126).map (·.size)=some XC.size:=by rw [hxl];exact szNd
 have hq1:(Q.length:Int)<((Q.length+1:Nat):Int):=by omega
 have hq2:IntKind.i64.wrap (((Q.length+1:Nat):Int)-1)=(Q.length:Int):=by rw [IntWalk.i64_in _ (by omega)];omega
 have hc1 : ∀ W,Below w.heap.size w W→W.cell? ⟨g,1,none⟩=some (.slice (some ⟨gr,0,none⟩) (Q.length+1) cap):=fun W hW=>(h.below hW).c1
 have hc10:=hc1 w (Below.refl _ _)
 have hcut:=(hrow.cut Q.length).own (fun y hy=>hlen y (List.mem_of_mem_take hy)) hBg
 rw [List.take_left] at hcut
 have H:=Lib.hid h
 have hbk:=h.blk
 have hgl:=h.blk.lt
 have hgne:w.heap.size≠g:=by omega
 have hne:gr≠g:=fun e=>zAu h.q.own h.blk (by decide) (by rw [e];rfl)
 clear hrow hlen hx hel heone hXC h hle
 go_enter Tryz.func188,Tryz.ntmps188
 go_wp2_with (first
  | ((with_reducible refine lit_new 126 (.tmp 4) (.tmp 15) XC 104 szNd hxl hxone _ ?_ ?_ ?_ ?_)
     ·first | exact hxl | kernel_rfl
     ·rfl
     ·rfl
     intro W3 hb3 hbl3
     have d1:=hc1 W3 hbl3
     have fz:=(hbk.below hbl3 hgl).frozen 1
     have ld4:=run_ldvN (hb3.far (p:=⟨g,1,none⟩) hgne (.slice (some ⟨gr,0,none⟩) Q.length cap)) hxl))
 have hf:Far [some g] w (W3.setCell ⟨g,1,none⟩ (.slice (some ⟨gr,0,none⟩) Q.length cap)):=(Far.of_below hbl3).set_ (p:=⟨g,1,none⟩) (.inl (List.mem_singleton.2 rfl)) _
 have hfin:WqAt (W3.setCell ⟨g,1,none⟩ (.slice (some ⟨gr,0,none⟩) Q.length cap)) B g vs (.slice (some ⟨gr,0,none⟩) Q.length cap) vn Q:=by
  refine ⟨(hbk.below hbl3 hgl).set_ 1 _,⟨?_,fun e he=>?_⟩⟩
  ·have:=hf.own hcut (fun k hk hm=>by
    rw [List.mem_singleton] at hm
    injection hm with hm
    injection hk with hk
    exact hne (hk.trans hm))
   exact this
  ·have he':=H.out.q.each e (List.mem_append_left _ he)
   obtain ⟨a1,a2⟩:=H.out.apart he'
   exact he'.far hf (fun k hk hm=>a1 k hk (List.mem_cons.2 (.inl (List.mem_singleton.1 hm)))) (fun k hk hm=>a2 k hk (List.mem_cons.2 (.inl (List.mem_singleton.1 hm))))
 clear hc1 hri hri0 hcut hbk H d1 fz ld4
 go_ret
 exact ⟨rfl,_,hfin,rfl,hf⟩
end
end Go.Proofs.YtbcbmjdmlcldjaaGreatDoor
