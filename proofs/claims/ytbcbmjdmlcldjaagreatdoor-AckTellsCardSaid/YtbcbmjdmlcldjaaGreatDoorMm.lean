/- Texts of this claim, laid together: Wlk, AckD, AckK, OpenE, OpenId, OpenObj, Seed, Sid, Pick. -/
import Derived.Test.YtbcbmjdmlcldjaaGreatDoorMl
import Derived.Lib.LaidTab
namespace Go.Proofs.YtbcbmjdmlcldjaaGreatDoor
open Go.RowKit
section
attribute [local go_sem ↓] ldvI_eq ldvS_eq
section
variable {w:World} {vm:Value} {es:List DiL}
def ObjP (S:List StL) (n:Txt) (e:Ending) (w:World):Prop := ∃ X vp,e = .returned (.agg X)∧X.size=72∧X[36]?=some (.int .u32 (timeS S n))∧X[35]?=some vp∧Ids w vp (parS S n)
theorem zCH {w0:World} (h:DocSt w0 vm es) (hb:Below w0.heap.size w0 w) (n:Txt) (hn:n.length=32):Calls Tryz.prog 35 #[.agg #[vm], .agg (u8s n)] w fun e w'=>ObjP (es.map (·.st)) n e w0∧Below w.heap.size w w':=by
 refine (zCK h hb n hn).mono fun e w' ⟨q1,q2⟩=>⟨?_,q2⟩
 unfold ObjG at q1
 unfold ObjP
 cases hG:getS (es.map (·.st)) n with
 | none=>
   rw [hG] at q1
   have ht:timeS (es.map (·.st)) n=0:=by unfold timeS;rw [zCY hG]
   have hp:parS (es.map (·.st)) n=[]:=by unfold parS;rw [zCY hG]
   rw [ht,hp]
   exact ⟨zObj, .slice none 0 0,q1,zAF,by kernel_rfl,by kernel_rfl,SliceAt.nil⟩
 | some x=>
   rw [hG] at q1
   obtain ⟨o,A1,A2,k1,k2,hd,rfl,hv⟩:=q1
   have ho:=zCM hG hd
   have ht:timeS (es.map (·.st)) n=o.time:=by unfold timeS;rw [ho]
   have hp:parS (es.map (·.st)) n=o.pars:=by unfold parS;rw [ho]
   refine ⟨_, .slice A2 o.pars.length k2,rfl,by rw [List.size_toArray,zAy hv.ok],?_,?_,?_⟩
   ·rw [ht,List.getElem?_toArray];exact (objC_at hv.ok.tree _ _).2
   ·rw [List.getElem?_toArray];exact (objC_at hv.ok.tree _ _).1
   ·rw [hp];exact hv.pars
theorem zBI {X:Array Value} {v:Value} (h:X[36]?=some v) (W:World):(Instr.field 68 (.agg X) 5).run Tryz.prog W = .ok v W:=by
 unfold Instr.field
 simp [run_underlying Tryz.underlying68,part,asAgg,isAgg,h]
theorem run_field_pars {X:Array Value} {v:Value} (h:X[35]?=some v) (W:World):(Instr.field 68 (.agg X) 4).run Tryz.prog W = .ok v W:=by
 unfold Instr.field
 simp [run_underlying Tryz.underlying68,part,asAgg,isAgg,h]
set_option maxRecDepth 100000 in
set_option maxHeartbeats 4000000 in
theorem docAhead_calls (h:DocSt w vm es) (a b:Txt) (ha:a.length=32) (hb:b.length=32) :
 Calls Tryz.prog 34 #[.agg #[vm], .agg (u8s a), .agg (u8s b)] w fun e w'=>e = .returned (.bool (aheadS (es.map (·.st)) a b))∧Below w.heap.size w w':=by
 obtain ⟨W1,W2,hW1,hW2,b2,hl1,hl2,hf⟩:=boxSt (w:=w) vm a ha
 obtain ⟨W3,hW3⟩ : ∃ W3,W2.alloc (.cells (u8s b) 53)=W3:=⟨_,rfl⟩
 have n3:Blk W3 W2.heap.size 53 (u8s b):=by rw [←hW3];exact Blk.new _ _ _
 have bb3:Below W2.heap.size W2 W3:=by rw [←hW3];exact (Below.refl _ _).alloc (Nat.le_refl _) _
 have b3:=bthen b2 b2.size bb3
 have lS:=fun W (hW:Below W3.heap.size W3 W)=>zAC (hf W (bthen bb3 bb3.size hW)).2.1
 have lA:=fun W (hW:Below W3.heap.size W3 W)=>(hf W (bthen bb3 bb3.size hW)).2.2
 have lB:=fun W (hW:Below W3.heap.size W3 W)=>zAb (zAk (n3.below hW n3.lt)) hb
 have hoA:=fun W (hW:Below W3.heap.size W3 W)=>Lib.hid (zCH (h.below (bthen b3 b3.size hW)) (Below.refl _ _) a ha)
 have hoB:=fun W (hW:Below W3.heap.size W3 W)=>Lib.hid (zCH (h.below (bthen b3 b3.size hW)) (Below.refl _ _) b hb)
 have hls:=fun W=>Lib.hid (zCD a b ha hb W)
 obtain ⟨R,hR⟩ : ∃ R,aheadS (es.map (·.st)) a b=R:=⟨_,rfl⟩
 rw [hR]
 unfold aheadS aheadL at hR
 unfold ObjP at hoA hoB
 replace hR:=Lib.hid hR
 generalize timeS (es.map (·.st)) a=TA at *
 generalize timeS (es.map (·.st)) b=TB at *
 generalize Op.bytesLess a b=lb at *
 obtain ⟨NA,hNA⟩ : ∃ NA,u8s a=NA:=⟨_,rfl⟩
 obtain ⟨NB,hNB⟩ : ∃ NB,u8s b=NB:=⟨_,rfl⟩
 rw [hNA] at hW2 lA hoA hls ⊢
 rw [hNB] at hW3 lB hoB hls ⊢
 have lS3:=lS W3 (Below.refl _ _)
 have lA3:=lA W3 (Below.refl _ _)
 have hoA3:=hoA W3 (Below.refl _ _)
 clear h hf n3 hNA hNB
 by_cases hT:TA=TB
 ·subst hT
  have hr2:lb=R:=by have:=hR.out;rwa [if_pos rfl] at this
  have hne:((TA:Int) != (TA:Int))=false:=by simp
  clear hR
  go_enter Tryz.func34,Tryz.ntmps34
  go_wp2_with (first
   | ((with_reducible refine hoA3.out.mono ?_);rintro e w4 ⟨⟨X,vp,rfl,hX72,hXt,hXp,_⟩,hb4⟩
      have lS4:=lS w4 hb4
      have lB4:=lB w4 hb4
      have ft:=zBI hXt w4
      have hoB4:=hoB w4 hb4)
   | ((with_reducible refine hoB4.out.mono ?_);rintro e w5 ⟨⟨Y,vq,rfl,hY72,hYt,hYp,_⟩,hb5⟩
      have b45:=bthen hb4 hb4.size hb5
      have fu:=zBI hYt w5
      have lA5:=lA w5 b45
      have lB5:=lB w5 b45
      have hls5:=hls w5)
   | ((with_reducible refine hls5.out.mono ?_);rintro e w6 ⟨rfl,hb6⟩))
  go_ret
  exact ⟨by rw [←hr2];rfl,bthen b3 b3.size (bthen b45 b45.size hb6)⟩
 ·have hr2:decide (TB<TA)=R:=by have:=hR.out;rwa [if_neg hT] at this
  have hne:((TA:Int) != (TB:Int))=true:=by simp;omega
  clear hR
  go_enter Tryz.func34,Tryz.ntmps34
  go_wp2_with (first
   | ((with_reducible refine hoA3.out.mono ?_);rintro e w4 ⟨⟨X,vp,rfl,hX72,hXt,hXp,_⟩,hb4⟩
      have lS4:=lS w4 hb4
      have lB4:=lB w4 hb4
      have ft:=zBI hXt w4
      have hoB4:=hoB w4 hb4)
   | ((with_reducible refine hoB4.out.mono ?_);rintro e w5 ⟨⟨Y,vq,rfl,hY72,hYt,hYp,_⟩,hb5⟩
      have b45:=bthen hb4 hb4.size hb5
      have fu:=zBI hYt w5
      have lA5:=lA w5 b45
      have lB5:=lB w5 b45
      have hls5:=hls w5))
  go_ret
  exact ⟨by rw [←hr2];rfl,bthen b3 b3.size b45⟩
set_option maxRecDepth 100000 in
set_option maxHeartbeats 8000000 in
theorem docEnds_calls (h:DocSt w vm es) (ini:List Txt) (hiok : ∀ x∈ini,x.length=32) (hil:ini.length≤800000) (vf:Value) (hvf:Ids w vf ini) :
 Calls Tryz.prog 33 #[.agg #[vm],vf] w fun e w' => ∃ v,e = .returned v∧OwnIds w' w.heap.size v (endsL (es.map (·.st)) ini)∧(∀ x∈endsL (es.map (·.st)) ini,x.length=32)∧Below w.heap.size w w':=by
 obtain ⟨W1,hW1⟩ : ∃ W1,w.alloc (.cells #[vm] 29)=W1:=⟨_,rfl⟩
 have s1:Blk W1 w.heap.size 29 #[vm]:=by rw [←hW1];exact Blk.new _ _ _
 have b1:Below w.heap.size w W1:=by rw [←hW1];exact (Below.refl _ _).alloc (Nat.le_refl _) _
 have hsz1:=b1.size
 have l1:=fun W (hW:Below W1.heap.size W1 W)=>zAC (s1.below hW s1.lt)
 have hen:=fun W (hW:Below w.heap.size w W) (n:Txt) (hn:n.length=32)=>zEw (h.below hW) n hn
 have hki:=fun W (hW:Below w.heap.size w W) (n:Txt) (hn:n.length=32)=>Lib.hid (zAM (h.below hW) n hn)
 have hzi:=zeroIdV
 have hszI:(Tryz.prog.info? 53).map (·.size)=some (u8s noId).size:=by rw [zAh];exact sz32
 have hZ1:=u8s_one noId
 obtain ⟨S,hS⟩ : ∃ S,es.map (·.st)=S:=⟨_,rfl⟩
 have hel:es.length=S.length:=by rw [←hS,List.length_map]
 rw [hS] at hen hki ⊢
 rw [hel] at hen
 clear hel
 obtain ⟨R,hR⟩ : ∃ R,endsL S ini=R:=⟨_,rfl⟩
 rw [hR]
 replace hR:=Lib.hid hR
 obtain ⟨Af,cf,rfl,hf1,hf2,hatf⟩:=hvf
 obtain ⟨vms,hvms⟩ : ∃ vms:Array Value,vms = #[vm]:=⟨_,rfl⟩
 clear hS h s1 hvms
 go_enter Tryz.func33,Tryz.ntmps33
 go_wp2_with (fail)
 go_loopg [5,6] ini.length (fun f vo vi wr => ∃ (k:Nat) (acc:List Txt),vi = .int .i64 k∧k+f=ini.length∧OwnIds wr W1.heap.size vo acc∧(∀ x∈acc,x.length=32)∧Hid (acc=endsL S (ini.take k))∧acc.length≤k∧Below W1.heap.size W1 wr)
 case atStart=>exact ⟨0,[],rfl,by omega,World.ownsRow_nil _ _ _ _,fun x hx=>by simp at hx,Lib.hid rfl,by simp,Below.refl _ _⟩
 case round=>
  clear hW1
  obtain ⟨k,acc,rfl,hkf,hown,hok,hacc,hal,hbel⟩:=hrel
  have hbs:=hbel.size
  have hbr:=bthen b1 hsz1 hbel
  obtain ⟨Ao,co,rfl⟩:=zAl hown
  cases gk with
  | zero=>
    have hki' : ¬ (k:Int)<(ini.length:Int):=by omega
    have hke:ini.take k=ini:=List.take_of_length_le (by omega)
    have hRa:acc=R:=by rw [hacc.out,hke];exact hR.out
    have HRa:=Lib.hid hRa
    clear hatf hacc hR hRa hen hki hke
    go_wp2_with (fail)
    go_ret
    rw [←HRa.out]
    exact ⟨_,rfl,zAx hown hsz1,hok,hbr⟩
  | succ f=>
    have hki':(k:Int)<(ini.length:Int):=by omega
    obtain ⟨gf,of_,rfl,hgf,hcf⟩:=hatf (by omega)
    obtain ⟨x,hx⟩ : ∃ x,ini[k]?=some x:=⟨_,List.getElem?_eq_getElem (by omega)⟩
    have hxi:=hiok x (List.mem_of_getElem? hx)
    have hlx:=fun W (hW:Below wr.heap.size wr W)=>zAb (show World.rangeAt W gf (of_+k*32) (u8s x).toList from zAc (hcf k x hx) hgf (bthen hbr hbr.size hW)) hxi
    have lSr:=fun W (hW:Below wr.heap.size wr W)=>l1 W (bthen hbel hbs hW)
    have hmore:Hid (endsL S (ini.take (k+1))=offerE S acc x):=Lib.hid (by rw [endsL_more hx,←hacc.out])
    have hen2:=fun W (hW:Below wr.heap.size wr W)=>hen W (bthen hbr hbr.size hW) x hxi
    clear hx hcf hatf l1 hen hacc
    unfold offerE at hmore
    cases hE:endS S (S.length+1) x with
    | none=>
      rw [hE] at hmore hen2
      have hen3 : ∀ W,Below wr.heap.size wr W→Calls Tryz.prog 32 #[.agg #[vm], .agg (u8s x)] W fun e w'=>e = .returned (.tuple #[.agg (u8s noId), .bool false])∧Below W.heap.size W w':=hen2
      have hin:=fun W (hv:Ids W (.slice Ao acc.length co) acc)=>Lib.hid (zBC acc hok _ noId (by rfl) W hv)
      have hldz : ∀ W g,Blk W g 53 (u8s noId)→(ldvI ⟨g,0,none⟩).run Tryz.prog W = .ok (.agg (u8s noId)) W:=fun W g h=>zAb (zAk h) rfl
      generalize inL acc noId=bi at *
      clear hE hen2 hki
      generalize u8s noId=Z at *
      go_upto_region 5 with (fail)
      refine zAr 12 (by kernel_rfl) (by kernel_rfl) (by kernel_rfl) (by kernel_rfl) ?_
      simp only [exSp]
      iterate 12 apply Exists.intro
      repeat
       first
        | ((with_reducible apply lx0_ex)
           ·(go_simp;done)
           apply Exists.intro
           apply And.intro
           ·apply Eq.refl
           apply And.intro
           ·intro W hW hD
            have q0:=lSr W hW
            have q1:=hlx W hW
            have q2:=hen3 W hW
            go_simp
            first
             | rfl
             | (with_reducible exact q2)
           simp only [Act.put,zA,zB,zC])
        | ((with_reducible apply zAJ)
           ·(first | rfl | (go_simp;done))
           ·apply Eq.refl
           simp only [Act.put,zA,zB,zC])
        | ((with_reducible apply lx_al 53 Z hzi)
           ·apply Eq.refl
           intro v
           simp only [Act.put,zA,zB,zC])
        | ((with_reducible apply lx_st' 9 53 Z hszI (by kernel_rfl))
           ·exact rfl
           ·apply Eq.refl
           apply Exists.intro
           apply Exists.intro
           apply And.intro
           ·(go_simp;rfl)
           apply And.intro
           ·(go_simp;rfl)
           refine ⟨?_,fun W hW hD=>?_,?_⟩
           ·first | exact List.Mem.head _ | exact List.Mem.tail _ (List.Mem.head _) | exact List.Mem.tail _ (List.Mem.tail _ (List.Mem.head _)) | exact List.Mem.tail _ (List.Mem.tail _ (List.Mem.tail _ (List.Mem.head _)))
           ·exact ⟨Z,rfl,rfl,hZ1⟩)
      refine lx0_nil ?_ fun w5 hW5 hD5=>?_
      ·exact (by simp [stsOf])
      obtain ⟨_,g7,cs7,rfl,hcs7,hg7,_,hb7⟩:=hD5 _ (.head _)
      obtain rfl:Z=cs7:=by injection hcs7
      have hown5:=zAd hown hW5
      have lz5:=hldz w5 g7 hb7
      have hin5:=hin w5 (SliceAt.of_own (fun e h=>idC_len (hok e h)) hown5)
      have b5:=bthen hbel hbs hW5
      clear hD5 hcs7 hin hldz hen3 hlx
      go_wp2_with (first
       | ((with_reducible refine hin5.out.mono ?_);rintro e w6 ⟨rfl,hb6⟩))
      have hown6:=zAd hown5 hb6
      have b6:=bthen hbel hbs (bthen hW5 hW5.size hb6)
      go_roundg f
      case rel=>exact ⟨k+1,acc,by go_num,by omega,hown6,hok,Lib.hid hmore.out.symm,by omega,b6⟩
      case measure=>omega
    | some m=>
      rw [hE] at hmore hen2
      have hmi:=endS_ok _ _ _ hxi hE
      have hen3 : ∀ W,Below wr.heap.size wr W→Calls Tryz.prog 32 #[.agg #[vm], .agg (u8s x)] W fun e w'=>e = .returned (.tuple #[.agg (u8s m), .bool true])∧Below W.heap.size W w':=hen2
      have hin:=fun W (hv:Ids W (.slice Ao acc.length co) acc)=>Lib.hid (zBC acc hok _ m hmi W hv)
      have hldz : ∀ W g,Blk W g 53 (u8s m)→(ldvI ⟨g,0,none⟩).run Tryz.prog W = .ok (.agg (u8s m)) W:=fun W g h=>zAb (zAk h) hmi
      have hkm:=fun W (hW:Below wr.heap.size wr W)=>hki W (bthen hbr hbr.size hW) m hmi
      have hm32:(u8s m).size=32:=by rw [zAh,hmi]
      have hm132:(u8s m).size=1*32:=hm32
      have hm1:=u8s_one m
      have hm1l : ∀ u∈(u8s m).toList,u.oneCell'=true:=idC_one m
      have hmz:(u8s m).size=(u8s noId).size:=by rw [hm32,zAh];rfl
      have hAk:acc.length+1≤9223372036854775807:=by omega
      have hAb:(acc.length+1)*32≤140737488355328:=by omega
      have hlen2:Hid ((acc++[m]).length=acc.length+1):=Lib.hid (by rw [List.length_append];rfl)
      have hrow2:Hid (rowsOf idC (acc++[m])=rowsOf idC acc++(u8s m).toList):=Lib.hid (by rw [zAo,zAp];rfl)
      have hok2 : ∀ y∈acc++[m],y.length=32:=fun y hy=>(List.mem_append.1 hy).elim (hok y) fun e=>by rw [List.mem_singleton.1 e];exact hmi
      have hmo:Hid (endsL S (ini.take (k+1))=if (!inL acc m&&kindS S m==3)=true then acc++[m] else acc):=hmore
      generalize inL acc m=bi at *
      generalize kindS S m=K at *
      clear hE hen2 hki hmore
      generalize u8s noId=Z at *
      obtain ⟨M,hM⟩ : ∃ M,u8s m=M:=⟨_,rfl⟩
      rw [hM] at hen3 hin hldz hkm hm32 hm132 hm1 hm1l hmz hrow2
      clear hM
      go_upto_region 5 with (fail)
      refine zAr 12 (by kernel_rfl) (by kernel_rfl) (by kernel_rfl) (by kernel_rfl) ?_
      simp only [exSp]
      iterate 12 apply Exists.intro
      repeat
       first
        | ((with_reducible apply lx0_ex)
           ·(go_simp;done)
           apply Exists.intro
           apply And.intro
           ·apply Eq.refl
           apply And.intro
           ·intro W hW hD
            have q0:=lSr W hW
            have q1:=hlx W hW
            have q2:=hen3 W hW
            go_simp
            first
             | rfl
             | (with_reducible exact q2)
           simp only [Act.put,zA,zB,zC])
        | ((with_reducible apply zAJ)
           ·(first | rfl | (go_simp;done))
           ·apply Eq.refl
           simp only [Act.put,zA,zB,zC])
        | ((with_reducible apply lx_al 53 Z hzi)
           ·apply Eq.refl
           intro v
           simp only [Act.put,zA,zB,zC])
        | ((with_reducible apply lx_st' 9 53 Z hszI (by kernel_rfl))
           ·exact rfl
           ·apply Eq.refl
           apply Exists.intro
           apply Exists.intro
           apply And.intro
           ·(go_simp;rfl)
           apply And.intro
           ·(go_simp;rfl)
           refine ⟨?_,fun W hW hD=>?_,?_⟩
           ·first | exact List.Mem.head _ | exact List.Mem.tail _ (List.Mem.head _) | exact List.Mem.tail _ (List.Mem.tail _ (List.Mem.head _)) | exact List.Mem.tail _ (List.Mem.tail _ (List.Mem.tail _ (List.Mem.head _)))
           ·exact ⟨M,rfl,hmz,hm1⟩)
      refine lx0_nil ?_ fun w5 hW5 hD5=>?_
      ·exact (by simp [stsOf])
      obtain ⟨_,g7,cs7,rfl,hcs7,hg7,_,hb7⟩:=hD5 _ (.head _)
      obtain rfl:M=cs7:=by injection hcs7
      have hown5:=zAd hown hW5
      have lz5:=hldz w5 g7 hb7
      have hin5:=hin w5 (SliceAt.of_own (fun e h=>idC_len (hok e h)) hown5)
      clear hD5 hcs7 hin hen3 hlx
      cases bi with
      | true=>
        have hmo2:Hid (acc=endsL S (ini.take (k+1))):=Lib.hid (by rw [hmo.out];rfl)
        clear hmo hkm hldz
        go_wp2_with (first
         | ((with_reducible refine hin5.out.mono ?_);rintro e w6 ⟨rfl,hb6⟩))
        have hown6:=zAd hown5 hb6
        have b6:=bthen hbel hbs (bthen hW5 hW5.size hb6)
        go_roundg f
        case rel=>exact ⟨k+1,acc,by go_num,by omega,hown6,hok,hmo2,by omega,b6⟩
        case measure=>omega
      | false=>
        by_cases hK:K=3
        ·have hKb:(K==3)=true:=by simp [hK]
         have hmo2:Hid (acc++[m]=endsL S (ini.take (k+1))):=Lib.hid (by rw [hmo.out,hKb];rfl)
         clear hmo hK
         go_wp2_with (first
          | ((with_reducible refine hin5.out.mono ?_);rintro e w6 ⟨rfl,hb6⟩
             have b56:=bthen hW5 hW5.size hb6
             have lS6:=lSr w6 b56
             have lz6:=hldz w6 g7 (hb7.below hb6 hb7.lt)
             have hk6:=hkm w6 b56)
          | ((with_reducible refine hk6.out.mono ?_);rintro e w7 ⟨rfl,hb7'⟩
             have b57:=bthen b56 b56.size hb7'
             have lz7:=hldz w7 g7 ((hb7.below hb6 hb7.lt).below hb7' (hb7.below hb6 hb7.lt).lt)
             have hown7:=zAd (zAd hown5 hb6) hb7'
             have hsz7:W1.heap.size≤w7.heap.size:=Nat.le_trans hbs b57.size)
          | ((with_reducible refine zAq (.tmp 40) Tryz.idsTy M hm32 (by omega) ?_ ?_);rfl)
          | ((with_reducible refine zAn (.tmp 39) (.tmp 41) 1 _ Tryz.idsTy hown7 M hm132 hm1l hAk hAb hsz7 ?_ ?_ ?_);rfl;rfl
             intro v8 w8 ho8 hb8 hg8 hn8
             clear hg8 hn8))
         have ho9:OwnIds w8 W1.heap.size v8 (acc++[m]):=by unfold OwnIds;rw [hlen2.out,hrow2.out];exact ho8
         have b8:=(bthen hbel hbs b57).trans hb8
         clear ho8 hown7 hown5 hown hk6 hin5 lS6 lz6 lz7
         go_roundg f
         case rel=>exact ⟨k+1,acc++[m],by go_num,by omega,ho9,hok2,hmo2,by rw [hlen2.out];omega,b8⟩
         case measure=>omega
        ·have hKb:(K==3)=false:=by simp [hK]
         have hmo2:Hid (acc=endsL S (ini.take (k+1))):=Lib.hid (by rw [hmo.out,hKb];rfl)
         clear hmo hK
         go_wp2_with (first
          | ((with_reducible refine hin5.out.mono ?_);rintro e w6 ⟨rfl,hb6⟩
             have b56:=bthen hW5 hW5.size hb6
             have lS6:=lSr w6 b56
             have lz6:=hldz w6 g7 (hb7.below hb6 hb7.lt)
             have hk6:=hkm w6 b56)
          | ((with_reducible refine hk6.out.mono ?_);rintro e w7 ⟨rfl,hb7'⟩
             have b57:=bthen b56 b56.size hb7'))
         have hown7:=zAd (zAd hown5 hb6) hb7'
         have b7:=bthen hbel hbs b57
         go_roundg f
         case rel=>exact ⟨k+1,acc,by go_num,by omega,hown7,hok,hmo2,by omega,b7⟩
         case measure=>omega
def bixI (b:Option Nat):Int:=match b with
 | none => -1
 | some p=>p
def BestIs (S:List StL) (seen out:List Txt) (k:Nat) (b:Option Nat):Prop:=match b with
 | none=>(leftW (seen.take k) out).foldl (pickB S) none=none
 | some p=>p<k ∧ ∃ y,seen[p]?=some y∧(leftW (seen.take k) out).foldl (pickB S) none=some y
theorem left_take {seen out:List Txt} {k:Nat} {x:Txt} (h:seen[k]?=some x):leftW (seen.take (k+1)) out=leftW (seen.take k) out++if inL out x=true then [] else [x]:=by
 unfold leftW
 rw [List.take_add_one,h,List.filter_append]
 congr 1
 cases hi:inL out x<;>simp [hi]
theorem best_skip {S:List StL} {seen out:List Txt} {k:Nat} {x:Txt} {b:Option Nat} (hx:seen[k]?=some x) (h:BestIs S seen out k b) (hi:inL out x=true):BestIs S seen out (k+1) b:=by
 have e:=left_take (out:=out) hx
 rw [hi,if_pos rfl,List.append_nil] at e
 unfold BestIs at h ⊢
 cases b with
 | none=>rw [e];exact h
 | some p=>rw [e];exact ⟨by have:=h.1;omega,h.2⟩
theorem best_first {S:List StL} {seen out:List Txt} {k:Nat} {x:Txt} (hx:seen[k]?=some x) (h:BestIs S seen out k none) (hi:inL out x=false):BestIs S seen out (k+1) (some k):=by
 have e:=left_take (out:=out) hx
 rw [hi,if_neg (by decide)] at e
 refine ⟨by omega,x,hx,?_⟩
 rw [e,List.foldl_append,show (leftW (seen.take k) out).foldl (pickB S) none=none from h]
 rfl
theorem best_next {S:List StL} {seen out:List Txt} {k p:Nat} {x y:Txt} (hx:seen[k]?=some x) (h:BestIs S seen out k (some p)) (hy:seen[p]?=some y) (hi:inL out x=false):BestIs S seen out (k+1) (some (if aheadS S x y=true then k else p)):=by
 have e:=left_take (out:=out) hx
 rw [hi,if_neg (by decide)] at e
 obtain ⟨h1,y',h2,h3⟩:=h
 rw [hy] at h2
 injection h2 with h2
 subst h2
 have hf:(leftW (seen.take (k+1)) out).foldl (pickB S) none=if aheadS S x y=true then some x else some y:=by
  rw [e,List.foldl_append,h3]
  rfl
 split
 ·rename_i ha
  rw [if_pos ha] at hf
  exact ⟨by omega,x,hx,hf⟩
 ·rename_i ha
  rw [if_neg ha] at hf
  exact ⟨by omega,y,hy,hf⟩
set_option maxRecDepth 100000 in
set_option maxHeartbeats 16000000 in
theorem docWalk_calls (h:DocSt w vm es) (ini cut:List Txt) (hiok : ∀ x∈ini,x.length=32) (hcok : ∀ x∈cut,x.length=32) (hil:ini.length≤800000) (vf vc:Value) (hvf:Ids w vf ini) (hvc:Ids w vc cut) :
 Calls Tryz.prog 16 #[.agg #[vm],vf,vc] w fun e w' => ∃ v,e = .returned v∧OwnIds w' w.heap.size v (walkS (es.map (·.st)) cut ini)∧Below w.heap.size w w':=by
 obtain ⟨W1,hW1⟩ : ∃ W1,w.alloc (.cells #[vm] 29)=W1:=⟨_,rfl⟩
 have s1:Blk W1 w.heap.size 29 #[vm]:=by rw [←hW1];exact Blk.new _ _ _
 have b1:Below w.heap.size w W1:=by rw [←hW1];exact (Below.refl _ _).alloc (Nat.le_refl _) _
 have hsz1:=b1.size
 have lS:=fun W (hW:Below W1.heap.size W1 W)=>zAC (s1.below hW s1.lt)
 have lS1:=lS W1 (Below.refl _ _)
 have hen:=Lib.hid (docEnds_calls (h.below b1) ini hiok hil vf (hvf.below b1))
 have hki:=fun W (hW:Below w.heap.size w W) (n:Txt) (hn:n.length=32)=>Lib.hid (zAM (h.below hW) n hn)
 have hah:=fun W (hW:Below w.heap.size w W) (a b:Txt) (ha:a.length=32) (hb:b.length=32)=>docAhead_calls (h.below hW) a b ha hb
 have hob:=fun W (hW:Below w.heap.size w W) (n:Txt) (hn:n.length=32)=>Lib.hid (zCH h hW n hn)
 have hin:=fun (l:List Txt) (hl : ∀ x∈l,x.length=32) (v:Value) (W:World) (hv:Ids W v l) (x:Txt) (hx:x.length=32)=>Lib.hid (zBC l hl v x hx W hv)
 have hfew:=h.few
 obtain ⟨S,hS⟩ : ∃ S,es.map (·.st)=S:=⟨_,rfl⟩
 have hel:es.length=S.length:=by rw [←hS,List.length_map]
 rw [hS] at hen hki hah hob ⊢
 rw [hel] at hfew
 obtain ⟨R,hR⟩ : ∃ R,walkS S cut ini=R:=⟨_,rfl⟩
 rw [hR]
 have hR0:Hid (walkW S cut (S.length+1) (endsL S ini) []=R):=Lib.hid hR
 have hwi:WalkI S (endsL S ini) [] := .start ini
 generalize endsL S ini=seen0 at *
 obtain ⟨Ac,cc,rfl,_⟩:=id hvc
 obtain ⟨vms,hvms⟩ : ∃ vms:Array Value,vms = #[vm]:=⟨_,rfl⟩
 clear hS h s1 hvms hvf hel hR hiok hil
 go_enter Tryz.func16,Tryz.ntmps16
 go_wp2_with (first
  | ((with_reducible refine hen.out.mono ?_);rintro e w2 ⟨v0,rfl,ho0,hok0,hb2⟩))
 clear hen lS1
 go_loopg [7,8] (S.length+1) (fun f vS vo wr => ∃ (seen out:List Txt),OwnIds wr W1.heap.size vS seen∧OwnIds wr W1.heap.size vo out∧Ap vS vo∧(∀ x∈seen,x.length=32)∧(∀ x∈out,x.length=32)∧WalkI S seen out∧f+out.length=S.length+1∧Hid (walkW S cut f seen out=R)∧Below W1.heap.size W1 wr)
 case atStart=>exact ⟨seen0,[],ho0,World.ownsRow_nil _ _ _ _, .nil_r _ _ _,hok0,fun x hx=>by simp at hx,hwi,rfl,hR0,hb2⟩
 case round=>
  clear ho0 hok0 hwi hR0 hb2 hW1
  obtain ⟨seen,out,hos,hoo,hap,hsok,hook,hwi,hfl,hR,hbel⟩:=hrel
  have hbs:=hbel.size
  have hbr:=bthen b1 hsz1 hbel
  have hlen:=hwi.len
  obtain ⟨As,cs,rfl⟩:=zAl hos
  obtain ⟨Ao,co,rfl⟩:=zAl hoo
  obtain ⟨f,rfl⟩ : ∃ f,gk=f+1:=⟨gk-1,by omega⟩
  rename World=>wo
  go_wp2_with (fail)
  go_loopg [9,10] seen.length (fun f2 vb vi wr => ∃ (k:Nat) (b:Option Nat),vi = .int .i64 k∧k+f2=seen.length∧vb = .int .i64 (bixI b)∧Hid (BestIs S seen out k b)∧(∀ p,b=some p→p<k)∧Below wo.heap.size wo wr)
  case atStart=>exact ⟨0,none,rfl,by omega,rfl,Lib.hid rfl,(fun p hp=>by cases hp),Below.refl _ _⟩
  case round=>
   obtain ⟨k,b,rfl,hkf,rfl,hb,hbk,hbe⟩:=hrel
   have hbw:=bthen hbr hbr.size hbe
   have hb1:=bthen hbel hbs hbe
   cases gk with
   | succ f2=>
     have hki':(k:Int)<(seen.length:Int):=by omega
     obtain ⟨x,hx⟩ : ∃ x,seen[k]?=some x:=⟨_,List.getElem?_eq_getElem (by omega)⟩
     have hxi:=hsok x (List.mem_of_getElem? hx)
     have hos1:=zAd hos hbe
     have hoo1:=zAd hoo hbe
     have hsI:=SliceAt.of_own (fun e h=>idC_len (hsok e h)) hos1
     have hlx : ∀ W,Below wr.heap.size wr W → ∀ (p:Nat) (y:Txt),seen[p]?=some y → ∃ g o,As=some ⟨g,o,none⟩∧(ldvI ⟨g,o+p*32,none⟩).run Tryz.prog W = .ok (.agg (u8s y)) W:=fun W hW p y hy=>by
      obtain ⟨A',c',he,_,_,hat⟩:=hsI.below hW
      injection he with he1 _ _
      have hp:=(List.getElem?_eq_some_iff.1 hy).1
      obtain ⟨g,o,e1,_,hc⟩:=hat (by omega)
      exact ⟨g,o,he1.trans e1,zAb (show World.rangeAt W g (o+p*32) (u8s y).toList from hc p y hy) (hsok y (List.mem_of_getElem? hy))⟩
     obtain ⟨gs,os_,rfl,lx0⟩:=hlx wr (Below.refl _ _) k x hx
     have hlx2 : ∀ W,Below wr.heap.size wr W → ∀ (p:Nat) (y:Txt),seen[p]?=some y→(ldvI ⟨gs,os_+p*32,none⟩).run Tryz.prog W = .ok (.agg (u8s y)) W:=fun W hW p y hy=>by
      obtain ⟨g,o,e,h⟩:=hlx W hW p y hy
      injection e with e
      injection e with e1 e2
      subst e1 e2
      exact h
     have hin1:=hin out hook _ wr (SliceAt.of_own (fun e h=>idC_len (hook e h)) hoo1) x hxi
     obtain ⟨tb,htb⟩ : ∃ tb,inL out x=tb:=⟨_,rfl⟩
     rw [htb] at hin1
     clear hlx hsI hos hoo hos1 hoo1 hin hob hki
     cases tb with
     | true=>
       have hb2:=Lib.hid (best_skip hx hb.out htb)
       clear hb htb hx hah hlx2
       go_wp2_with (first
        | ((with_reducible refine hin1.out.mono ?_);rintro e w3 ⟨rfl,hb3⟩))
       have b3:=bthen hbe hbe.size hb3
       go_roundg f2
       case rel=>exact ⟨k+1,b,by go_num,by omega,rfl,hb2,fun p hp=>Nat.lt_succ_of_lt (hbk p hp),b3⟩
       case measure=>omega
     | false=>
       cases b with
       | none=>
         have hb2:=Lib.hid (best_first hx hb.out htb)
         clear hb htb hx hah hlx2
         simp only [bixI]
         go_wp2_with (first
          | ((with_reducible refine hin1.out.mono ?_);rintro e w3 ⟨rfl,hb3⟩))
         have b3:=bthen hbe hbe.size hb3
         go_roundg f2
         case rel=>exact ⟨k+1,some k,by go_num,by omega,rfl,hb2,(fun p hp=>by injection hp with hp;omega),b3⟩
         case measure=>omega
       | some p=>
         obtain ⟨_,y,hy,_⟩:=id hb.out
         have hpk:=hbk p rfl
         have hyi:=hsok y (List.mem_of_getElem? hy)
         have hb2:=Lib.hid (best_next hx hb.out hy htb)
         have hp0 : ¬ (p:Int)<0:=by omega
         have hpi:(p:Int)<(seen.length:Int):=by omega
         have lx:=fun W (hW:Below wr.heap.size wr W)=>hlx2 W hW k x hx
         have ly:=fun W (hW:Below wr.heap.size wr W)=>hlx2 W hW p y hy
         have lSr:=fun W (hW:Below wr.heap.size wr W)=>lS W (bthen hb1 hb1.size hW)
         have hah1:=fun W (hW:Below wr.heap.size wr W)=>hah W (bthen hbw hbw.size hW) x y hxi hyi
         generalize aheadS S x y=ab at *
         clear hb htb hx hy hah hlx2 hbk
         simp only [bixI]
         go_upto_region 11 with (first
          | ((with_reducible refine hin1.out.mono ?_);rintro e w3 ⟨rfl,hb3⟩))
         refine zAe (C:=fun W=>Below wr.heap.size wr W) (by kernel_rfl) (by kernel_rfl) hb3.drew ?_
         repeat
          first
           | ((with_reducible refine zAm ?_ ?_)
              ·(go_simp;done)
              apply Exists.intro
              refine ⟨fun W hW=>?_,?_⟩
              ·first
                | (have q0:=lSr W hW
                   have q1:=lx W hW
                   have q2:=ly W hW
                   have p1:=zAL hW (hah1 W hW)
                   go_simp
                   first
                    | rfl
                    | (with_reducible exact p1))
              simp only [Act.put,zA,zB,zC])
           | ((with_reducible refine zAj ?_ ?_)
              ·(first | rfl | (go_simp;done))
              simp only [Act.put,zA,zB,zC])
         with_reducible refine wpQuiet_nil ?_
         intro w5 hW5
         have b5:=bthen hbe hbe.size hW5
         clear lx ly lSr hah1 hin1 lx0
         cases ab with
         | true=>
           rw [if_pos rfl] at hb2
           go_wp2_with (fail)
           go_roundg f2
           case rel=>exact ⟨k+1,some k,by go_num,by omega,rfl,hb2,(fun p hp=>by injection hp with hp;omega),b5⟩
           case measure=>omega
         | false=>
           rw [if_neg (by decide)] at hb2
           go_wp2_with (fail)
           go_roundg f2
           case rel=>exact ⟨k+1,some p,by go_num,by omega,rfl,hb2,(fun q hq=>by injection hq with hq;omega),b5⟩
           case measure=>omega
   | zero=>
     have hki' : ¬ (k:Int)<(seen.length:Int):=by omega
     have hke:seen.take k=seen:=List.take_of_length_le (by omega)
     have hbo:=hb.out
     unfold BestIs at hbo
     rw [hke] at hbo
     clear hke hb
     cases b with
     | none=>
       have hRo:out=R:=by rw [←hR.out];exact (walk_stop hbo).symm
       have HRo:=Lib.hid hRo
       have hoo1:=zAd hoo hbe
       clear hRo hR hbo hin hob hki hah
       simp only [bixI]
       go_wp2_with (fail)
       go_ret
       refine ⟨_,rfl,?_,hbw⟩
       rw [←HRo.out]
       exact zAx hoo1 hsz1
     | some p=>
       obtain ⟨_,y,hy,hbest⟩:=hbo
       have hstep:Hid (walkW S cut f (if inL cut y=true then seen else offerL S seen (parS S y)) (out++[y])=R):=Lib.hid (by rw [←walkW_go hbest];exact hR.out)
       have hyl:=(best_some hbest).1
       have hpl:=(List.getElem?_eq_some_iff.1 hy).1
       have hyi:=hsok y (List.mem_of_getElem? hy)
       have hp0 : ¬ (p:Int)<0:=by omega
       have hpi:(p:Int)<(seen.length:Int):=by omega
       have hos1:=zAd hos hbe
       have hoo1:=zAd hoo hbe
       have hwi2:=fun (c:Bool)=>(hwi.step (cut:=if c=true then [y] else []) hyl)
       obtain ⟨A',c',he,_,_,hat⟩:=SliceAt.of_own (fun e h=>idC_len (hsok e h)) hos1
       injection he with he1 _ he3
       subst he3
       obtain ⟨gs,os_,e1,_,hcs⟩:=hat (by omega)
       obtain rfl:As=some ⟨gs,os_,none⟩:=he1.trans e1
       have lx0:(ldvI ⟨gs,os_+p*32,none⟩).run Tryz.prog wr = .ok (.agg (u8s y)) wr:=zAb (show World.rangeAt wr gs (os_+p*32) (u8s y).toList from hcs p y hy) hyi
       have hobw:=fun W (hW:Below w.heap.size w W)=>hob W hW y hyi
       obtain ⟨PS,hPS⟩ : ∃ PS,parS S y=PS:=⟨_,rfl⟩
       have hpok : ∀ x∈PS,x.length=32:=fun x hx=>by
        rw [←hPS] at hx
        unfold parS at hx
        cases ho:objS S y with
        | none=>rw [ho] at hx;simp at hx
        | some o=>rw [ho] at hx;exact (zCo ho).1.pars x hx
       unfold ObjP at hobw
       rw [hPS] at hobw hstep
       have hlaw:=fun l=>zBE (S:=S) l hwi.nd hwi.k3
       have hstepI:=fun (c:Bool)=>(WalkI.step (cut:=if c=true then [y] else []) hwi hyl)
       have hincut:=fun W (hW:Below w.heap.size w W)=>hin cut hcok _ W (hvc.below hW) y hyi
       have hy32:(u8s y).size=32:=by rw [zAh,hyi]
       have hy132:(u8s y).size=1*32:=hy32
       have hy1:=u8s_one y
       have hy1l : ∀ u∈(u8s y).toList,u.oneCell'=true:=idC_one y
       have hldy : ∀ W g,Blk W g 53 (u8s y)→(ldvI ⟨g,0,none⟩).run Tryz.prog W = .ok (.agg (u8s y)) W:=fun W g h=>zAb (zAk h) hyi
       have hAk:out.length+1≤9223372036854775807:=by omega
       have hAb:(out.length+1)*32≤140737488355328:=by omega
       have hlen2:Hid ((out++[y]).length=out.length+1):=Lib.hid (by rw [List.length_append];rfl)
       have hrow2:Hid (rowsOf idC (out++[y])=rowsOf idC out++(u8s y).toList):=Lib.hid (by rw [zAo,zAp];rfl)
       have hook2 : ∀ z∈out++[y],z.length=32:=fun z hz=>(List.mem_append.1 hz).elim (hook z) fun e=>by rw [List.mem_singleton.1 e];exact hyi
       have hoAp:=hap
       have hos1lt : ∀ k,(Value.slice (some ⟨gs,os_,none⟩) seen.length cs).ownBlock=some k→k<wr.heap.size:=fun k hk=>(World.ownsRow.lt hos1 k hk).2
       have hoo1lt : ∀ k,(Value.slice Ao out.length co).ownBlock=some k→k<wr.heap.size:=fun k hk=>(World.ownsRow.lt hoo1 k hk).2
       simp only [bixI]
       clear hcs hat he1 e1 hy hbest hR hah hos hoo hob hwi2 hbk
       go_wp2_with (first
        | ((with_reducible refine lit_new 53 (.tmp 12) (.tmp 53) (u8s y) 32 sz32 hy32 hy1 _ ?_ ?_ ?_ ?_)
           ·first | rfl | kernel_rfl
           ·rfl
           ·rfl
           intro W2 hb2 hbl2
           have ly2:=hldy W2 _ hb2
           have hoo2:=zAd hoo1 hbl2
           have hos2:=zAd hos1 hbl2
           have hsz2:=Nat.le_trans hb1.size hbl2.size)
        | ((with_reducible refine zAq (.tmp 55) Tryz.idsTy (u8s y) hy32 (by omega) ?_ ?_);rfl)
        | ((with_reducible refine zAn (.tmp 54) (.tmp 56) 1 _ Tryz.idsTy hoo2 (u8s y) hy132 hy1l hAk hAb hsz2 ?_ ?_ ?_);rfl;rfl
           intro v3 w3 ho3 hb3 hg3 hn3
           have b13:=(bthen hb1 hb1.size hbl2).trans hb3
           have b03:=bthen b1 hsz1 b13
           have hbk3:=(Far.of_grown hg3).blk hb2 (fun hm=>Nat.lt_irrefl _ (hoo1lt _ (List.mem_singleton.1 hm).symm))
           have ly3:=hldy w3 _ hbk3
           have hin3:=hincut w3 b03)
        | ((with_reducible refine hin3.out.mono ?_);rintro e w4 ⟨rfl,hb4⟩
           have b04:=bthen b03 b03.size hb4
           have b14:=bthen b13 b13.size hb4
           have lS4:=lS w4 b14
           have ly4:=hldy w4 _ (hbk3.below hb4 hbk3.lt)
           have hob4:=hobw w4 b04)
        | ((with_reducible refine hob4.out.mono ?_);rintro e w5 ⟨⟨X,vp,rfl,hX72,hXt,hXp,hvp⟩,hb5⟩
           have fp:=run_field_pars hXp w5))
       have b35:=bthen hb4 hb4.size hb5
       have b05:=bthen b04 b04.size hb5
       have b15:=bthen b14 b14.size hb5
       have hov3:OwnIds w3 W1.heap.size v3 (out++[y]):=by unfold OwnIds;rw [hlen2.out,hrow2.out];exact ho3
       have hov5:=zAd hov3 b35
       have hos3:=(Far.of_grown hg3).own hos2 (fun k hk hm=>hoAp k hk (List.mem_singleton.1 hm).symm)
       have hos5:=zAd hos3 b35
       have hap5:Ap (.slice (some ⟨gs,os_,none⟩) seen.length cs) v3:=(hoAp.symm.newer hn3 fun k hk=>(World.ownsRow.lt hos2 k hk).2).symm
       obtain ⟨Avp,cvp,rfl,hvp1,hvp2,hatv⟩:=id hvp
       have hsl : ∀ l,(offerL S seen l).length≤S.length:=fun l=>by
        obtain ⟨a1,a2,_⟩:=hlaw l
        exact (⟨a1,a2,fun x hx=>by simp at hx,List.nodup_nil⟩:WalkI S (offerL S seen l) []).len.1
       have hson : ∀ k, ∀ x∈offerL S seen (PS.take k),x.length=32:=fun k x hx=>((hlaw (PS.take k)).2.2.2 x hx).elim (hsok x) fun h=>hpok x (List.mem_of_mem_take h)
       have hwiT:inL cut y=true→WalkI S seen (out++[y]):=fun _=>by
        have:=hstepI true
        rwa [if_pos (by simp [inL])] at this
       have hwiF:WalkI S (offerL S seen PS) (out++[y]):=by
        have:=hstepI false
        rwa [if_neg (by simp [inL]),hPS] at this
       obtain ⟨ON,hON⟩ : ∃ ON,out++[y]=ON:=⟨_,rfl⟩
       rw [hON] at hov5 hstep hlen2 hook2 hwiT hwiF
       obtain ⟨bE,hbE⟩ : ∃ bE,inL cut y=bE:=⟨_,rfl⟩
       rw [hbE] at hstep hwiT ⊢
       clear hbE hON hov3 ho3 hg3 hn3 hos3 hos2 hoo2 hoo1 hos1 hob4 hobw hin3 hincut ly4 ly3 ly2 lS4 lx0 hb2 hbl2 hb3 hb4 hb5 hbk3 b13 b03 b14 b04 b35 fp hXt hXp hX72 hoAp hstepI hldy hPS hlaw
       cases bE with
       | true=>
         rw [if_pos rfl] at hstep
         replace hwiT:=hwiT rfl
         clear hwiF hson hsl hatv hin hki
         go_loopg [7,15] 0 (fun f3 vS vi wr=>vS = .slice (some ⟨gs,os_,none⟩) seen.length cs∧vi = .int .i64 0∧Below w5.heap.size w5 wr)
         case atStart=>exact ⟨rfl,rfl,Below.refl _ _⟩
         case round=>
          obtain ⟨rfl,rfl,hb6⟩:=hrel
          have b6:=bthen b15 b15.size hb6
          have hov6:=zAd hov5 hb6
          have hos6:=zAd hos5 hb6
          go_wp2_with (fail)
          all_goals
           go_roundg f
           case rel=>exact ⟨seen,ON,hos6,hov6,hap5,hsok,hook2,hwiT,by rw [hlen2.out];omega,hstep,b6⟩
           case measure=>omega
       | false=>
         rw [if_neg (by decide)] at hstep
         clear hwiT
         go_loopg [7,15] PS.length (fun f3 vS vi wr => ∃ (k:Nat) (sn:List Txt),vi = .int .i64 k∧k+f3=PS.length∧OwnIds wr W1.heap.size vS sn∧OwnIds wr W1.heap.size v3 ON∧Ap vS v3∧Hid (sn=offerL S seen (PS.take k))∧Below W1.heap.size W1 wr)
         case atStart=>exact ⟨0,seen,rfl,by omega,hos5,hov5,hap5,Lib.hid rfl,b15⟩
         case round=>
          clear hos5 hov5 hap5 b15 b05
          obtain ⟨k,sn,rfl,hkf3,hos,hov,hap,hsn,hbel⟩:=hrel
          have hbs:=hbel.size
          have hbr:=bthen b1 hsz1 hbel
          have hsnl:sn.length≤S.length:=by rw [hsn.out];exact hsl _
          have hsnk : ∀ x∈sn,x.length=32:=by rw [hsn.out];exact hson k
          obtain ⟨A8,c8,rfl⟩:=zAl hos
          cases gk with
          | zero=>
            have hki2 : ¬ (k:Int)<(PS.length:Int):=by omega
            have hke:PS.take k=PS:=List.take_of_length_le (by omega)
            have hsnk2:=hsnk
            have hsn2:sn=offerL S seen PS:=by rw [hsn.out,hke]
            have Hsn:=Lib.hid hsn2
            clear hatv hke hsn hsn2 hin hki
            go_wp2_with (fail)
            go_roundg f
            case rel=>exact ⟨sn,ON,hos,hov,hap,hsnk2,hook2,by rw [Hsn.out];exact hwiF,by rw [hlen2.out];omega,by rw [Hsn.out];exact hstep,hbel⟩
            case measure=>omega
          | succ f3=>
            have hki2:(k:Int)<(PS.length:Int):=by omega
            obtain ⟨gp,op_,rfl,hgp,hcp⟩:=hatv (by omega)
            obtain ⟨x,hx⟩ : ∃ x,PS[k]?=some x:=⟨_,List.getElem?_eq_getElem (by omega)⟩
            have hxi:=hpok x (List.mem_of_getElem? hx)
            have hlx:=fun W (hW:Below wr.heap.size wr W)=>zAb (show World.rangeAt W gp (op_+k*32) (u8s x).toList from zAc (hcp k x hx) hgp (bthen hbr hbr.size hW)) hxi
            have hlx0:=hlx wr (Below.refl _ _)
            have hin8:=hin sn hsnk _ wr (SliceAt.of_own (fun e h=>idC_len (hsnk e h)) hos) x hxi
            have hkx:=fun W (hW:Below wr.heap.size wr W)=>(hki W (bthen hbr hbr.size hW) x hxi).out
            have lSr:=fun W (hW:Below wr.heap.size wr W)=>lS W (bthen hbel hbs hW)
            have hmore:Hid (offerL S seen (PS.take (k+1))=if (!inL sn x&&kindS S x==3)=true then sn++[x] else sn):=Lib.hid (by rw [zCI hx,←hsn.out];rfl)
            generalize inL sn x=bi at *
            generalize kindS S x=K at *
            clear hx hcp hatv hki hin hsl hson hsnk
            cases bi with
            | true=>
              have hmo:Hid (sn=offerL S seen (PS.take (k+1))):=Lib.hid (by rw [hmore.out];rfl)
              clear hmore hkx
              go_upto_region 23 with (first
               | ((with_reducible refine hin8.out.mono ?_);rintro e w6 ⟨rfl,hb6⟩))
              refine zAe (C:=fun W=>Below w6.heap.size w6 W) (by kernel_rfl) (by kernel_rfl) (Below.refl _ _).drew ?_
              repeat
               first
                | ((with_reducible refine zAm ?_ ?_)
                   ·(go_simp;done)
                   apply Exists.intro
                   refine ⟨fun W hW=>?_,?_⟩
                   ·first
                     | (go_simp
                        rfl)
                   simp only [Act.put,zA,zB,zC])
                | ((with_reducible refine zAj ?_ ?_)
                   ·(first | rfl | (go_simp;done))
                   simp only [Act.put,zA,zB,zC])
              with_reducible refine wpQuiet_nil ?_
              intro w7 hW7
              have b7:=bthen hbel hbs (bthen hb6 hb6.size hW7)
              have hos7:=zAd hos (bthen hb6 hb6.size hW7)
              have hov7:=zAd hov (bthen hb6 hb6.size hW7)
              clear lSr hlx hlx0 hin8
              go_wp2_with (fail)
              go_roundg f3
              case rel=>exact ⟨k+1,sn,by go_num,by omega,hos7,hov7,hap,hmo,b7⟩
              case measure=>omega
            | false=>
              go_upto_region 23 with (first
               | ((with_reducible refine hin8.out.mono ?_);rintro e w6 ⟨rfl,hb6⟩))
              refine zAe (C:=fun W=>Below w6.heap.size w6 W) (by kernel_rfl) (by kernel_rfl) (Below.refl _ _).drew ?_
              repeat
               first
                | ((with_reducible refine zAm ?_ ?_)
                   ·(go_simp;done)
                   apply Exists.intro
                   refine ⟨fun W hW=>?_,?_⟩
                   ·first
                     | (have q0:=lSr W (bthen hb6 hb6.size hW)
                        have q1:=hlx W (bthen hb6 hb6.size hW)
                        have p1:=zAL hW (hkx W (bthen hb6 hb6.size hW))
                        go_simp
                        first
                         | rfl
                         | (with_reducible exact p1))
                   simp only [Act.put,zA,zB,zC])
                | ((with_reducible refine zAj ?_ ?_)
                   ·(first | rfl | (go_simp;done))
                   simp only [Act.put,zA,zB,zC])
              with_reducible refine wpQuiet_nil ?_
              intro w7 hW7
              have b67:=bthen hb6 hb6.size hW7
              have b7:=bthen hbel hbs b67
              have hos7:=zAd hos b67
              have hov7:=zAd hov b67
              have lx7:=hlx w7 b67
              clear lSr hlx hlx0 hin8 hkx
              obtain ⟨kb,hkb⟩ : ∃ kb,(K==3)=kb:=⟨_,rfl⟩
              rw [hkb] at hmore ⊢
              clear hkb
              cases kb with
              | false=>
                have hmo:Hid (sn=offerL S seen (PS.take (k+1))):=Lib.hid (by rw [hmore.out];rfl)
                clear hmore
                go_wp2_with (fail)
                go_roundg f3
                case rel=>exact ⟨k+1,sn,by go_num,by omega,hos7,hov7,hap,hmo,b7⟩
                case measure=>omega
              | true=>
                have hmo:Hid (sn++[x]=offerL S seen (PS.take (k+1))):=Lib.hid (by rw [hmore.out];rfl)
                have hx32:(u8s x).size=32:=by rw [zAh,hxi]
                have hx132:(u8s x).size=1*32:=hx32
                have hx1 : ∀ u∈(u8s x).toList,u.oneCell'=true:=idC_one x
                have hBk:sn.length+1≤9223372036854775807:=by omega
                have hBb:(sn.length+1)*32≤140737488355328:=by omega
                have hlen3:Hid ((sn++[x]).length=sn.length+1):=Lib.hid (by rw [List.length_append];rfl)
                have hrow3:Hid (rowsOf idC (sn++[x])=rowsOf idC sn++(u8s x).toList):=Lib.hid (by rw [zAo,zAp];rfl)
                have hsz7:W1.heap.size≤w7.heap.size:=Nat.le_trans hbs b67.size
                clear hmore
                go_wp2_with (first
                 | ((with_reducible refine zAq (.tmp 96) Tryz.idsTy (u8s x) hx32 (by omega) ?_ ?_);rfl)
                 | ((with_reducible refine zAn (.tmp 92) (.tmp 97) 1 _ Tryz.idsTy hos7 (u8s x) hx132 hx1 hBk hBb hsz7 ?_ ?_ ?_);rfl;rfl
                    intro v9 w9 ho9 hb9 hg9 hn9))
                have hos9:OwnIds w9 W1.heap.size v9 (sn++[x]):=by unfold OwnIds;rw [hlen3.out,hrow3.out];exact ho9
                have hov9:=(Far.of_grown hg9).own hov7 (fun k hk hm=>hap k (List.mem_singleton.1 hm).symm hk)
                have hap9:Ap v9 v3:=hap.newer hn9 fun k hk=>(World.ownsRow.lt hov7 k hk).2
                have b9:=b7.trans hb9
                clear ho9 hg9 hn9 hos7 hov7 hos hov lx7
                go_roundg f3
                case rel=>exact ⟨k+1,sn++[x],by go_num,by omega,hos9,hov9,hap9,hmo,b9⟩
                case measure=>omega
end
end
section
attribute [local go_sem ↓] ldvI_eq ldvS_eq
theorem end_isA (S:List StL) (f:Nat) (n:Txt) (hn:n.length=32) : ∃ m bo,m.length=32∧endV (endS S f n) = .tuple #[.agg (u8s m), .bool bo]∧endS S f n=if bo=true then some m else none:=by
 cases h:endS S f n with
 | none=>exact ⟨noId,false,zAi,rfl,rfl⟩
 | some m=>exact ⟨m,true,endS_ok f n m hn h,rfl,rfl⟩
section
variable {w:World} {vm:Value} {es:List DiL}
set_option maxRecDepth 100000 in
set_option maxHeartbeats 4000000 in
theorem refAcks_calls (h:DocSt w vm es) (haves:List Txt) (hok : ∀ x∈haves,x.length=32) (vi:Value) (hvi:Ids w vi haves) :
 Calls Tryz.prog 10 #[.agg #[vm],vi] w fun e w' => ∃ v,e = .returned v∧OwnIds w' w.heap.size v (offerL (es.map (·.st)) [] haves)∧Below w.heap.size w w':=by
 obtain ⟨W1,hW1⟩ : ∃ W1,w.alloc (.cells #[vm] 29)=W1:=⟨_,rfl⟩
 have s1:Blk W1 w.heap.size 29 #[vm]:=by rw [←hW1];exact Blk.new _ _ _
 have b1:Below w.heap.size w W1:=by rw [←hW1];exact (Below.refl _ _).alloc (Nat.le_refl _) _
 have hsz1:=b1.size
 have l1:=fun W (hW:Below W1.heap.size W1 W)=>zAC (s1.below hW s1.lt)
 have hfin:haves.take haves.length=haves:=List.take_length
 have hkd:=fun W (hW:Below w.heap.size w W) x (hx:x.length=32)=>zAM (h.below hW) x hx
 have hSl:es.length≤500000:=h.few
 obtain ⟨S,hS⟩ : ∃ S,es.map (·.st)=S:=⟨_,rfl⟩
 have hel:es.length=S.length:=by rw [←hS,List.length_map]
 rw [hel] at hSl
 simp only [hS] at hkd ⊢
 have hlen:=fun k=>offer_len S (haves.take k)
 have hall : ∀ k, ∀ x∈offerL S [] (haves.take k),x.length=32:=fun k x hx=>by
  rcases (zBE (S:=S) (haves.take k) (seen:=[]) List.nodup_nil (fun x hx=>by cases hx)).2.2.2 x hx with h | h
  ·cases h
  ·exact hok x (List.mem_of_mem_take h)
 obtain ⟨Ai,ci,rfl,hi1,hi2,hat⟩:=hvi
 clear h s1 hS hel
 go_enter Tryz.func10,Tryz.ntmps10
 go_wp2_with (fail)
 go_loopg [5,6] haves.length (fun f v5 v6 wr => ∃ (vo:Value) (k:Nat) (acc:List Txt),vo=v5∧v6 = .int .i64 k∧k+f=haves.length∧acc=offerL S [] (haves.take k)∧OwnIds wr W1.heap.size vo acc∧Below W1.heap.size W1 wr)
 case atStart=>exact ⟨_,0,[],rfl,rfl,by omega,rfl,World.ownsRow_nil _ _ _ _,Below.refl _ _⟩
 case round=>
  obtain ⟨vo,k,acc,rfl,rfl,hkf,hacc,hown,hbel⟩:=hrel
  have hbs:=hbel.size
  have hbr:=bthen b1 hsz1 hbel
  obtain ⟨Ao,co,rfl⟩:=zAl hown
  cases gk with
  | zero=>
    have hki : ¬ (k:Int)<(haves.length:Int):=by omega
    obtain rfl:k=haves.length:=by omega
    rw [hfin] at hacc
    have HA:=Lib.hid hacc
    clear hat hacc hkd hall hlen
    go_wp2_with (fail)
    go_ret
    rw [←HA.out]
    exact ⟨_,rfl,zAx hown hsz1,hbr⟩
  | succ f=>
    have hki:(k:Int)<(haves.length:Int):=by omega
    obtain ⟨ga,oa,rfl,hga,hca⟩:=hat (by omega)
    obtain ⟨x,hx⟩ : ∃ x,haves[k]?=some x:=⟨_,List.getElem?_eq_getElem (by omega)⟩
    have hxi:=hok x (List.mem_of_getElem? hx)
    have hlx : ∀ W,Below wr.heap.size wr W→(ldvI ⟨ga,oa+k*32,none⟩).run Tryz.prog W = .ok (.agg (u8s x)) W:=fun W hW=>zAb (show World.rangeAt W ga (oa+k*32) (u8s x).toList from zAc (hca k x hx) hga (bthen hbr hbr.size hW)) hxi
    have hlx0:=hlx wr (Below.refl _ _)
    have hmo:Hid (offerL S [] (haves.take (k+1))=offerS S acc x):=Lib.hid (by rw [zCI hx,←hacc])
    have hak : ∀ x∈acc,x.length=32:=by rw [hacc];exact hall k
    have hal:acc.length≤500000:=by rw [hacc];exact Nat.le_trans (hlen k) hSl
    have hk2:=fun W (hW:Below wr.heap.size wr W)=>hkd W (bthen hbr hbr.size hW) x hxi
    have hco:=Lib.hid (zBC acc hak _ x hxi wr (SliceAt.of_own (idsK hak) hown))
    have lSr:=fun W (hW:Below wr.heap.size wr W)=>l1 W (bthen hbel hbs hW)
    have hx32:(u8s x).size=32:=by rw [zAh,hxi]
    have hx132:(u8s x).size=1*32:=hx32
    have hx1' : ∀ u∈(u8s x).toList,u.oneCell'=true:=idC_one x
    have hAk:acc.length+1≤9223372036854775807:=by omega
    have hAb:(acc.length+1)*32≤140737488355328:=by omega
    unfold offerS at hmo
    obtain ⟨XC,hXC⟩ : ∃ XC,u8s x=XC:=⟨_,rfl⟩
    obtain ⟨K,hK⟩ : ∃ K,kindS S x=K:=⟨_,rfl⟩
    obtain ⟨bi,hbi⟩ : ∃ bi,inL acc x=bi:=⟨_,rfl⟩
    rw [hK,hbi] at hmo
    simp only [hK,hXC] at hk2
    rw [hbi,hXC] at hco
    simp only [hXC] at hlx
    rw [hXC] at hlx0 hx32 hx132 hx1'
    replace hXC:=Lib.hid hXC
    clear hca hat hx hkd hall hlen hacc hK hbi hfin
    go_upto_region 6 with (first
     | ((with_reducible refine hco.out.mono ?_);rintro e w3 ⟨rfl,hb3⟩))
    have hown3:=zAd hown hb3
    have hlx3:=fun W (hW:Below w3.heap.size w3 W)=>hlx W (bthen hb3 hb3.size hW)
    have lS3:=fun W (hW:Below w3.heap.size w3 W)=>lSr W (bthen hb3 hb3.size hW)
    have hk3:=fun W (hW:Below w3.heap.size w3 W)=>hk2 W (bthen hb3 hb3.size hW)
    clear hco hown hlx lSr hk2
    by_cases hK3:K=3
    ·subst hK3
     cases bi with
     | true=>
       have hmo2:Hid (acc=offerL S [] (haves.take (k+1))):=Lib.hid (by rw [hmo.out];rfl)
       clear hmo
       refine zAe (C:=fun W=>Below w3.heap.size w3 W) (by kernel_rfl) (by kernel_rfl) (Below.refl _ _).drew ?_
       repeat
        first
         | ((with_reducible refine zAm ?_ ?_)
            ·(go_simp;done)
            apply Exists.intro
            refine ⟨fun W hW=>?_,?_⟩
            ·first
              | (have q0:=lS3 W hW
                 have q1:=hlx3 W hW
                 have q2:=zAL hW (hk3 W hW)
                 go_simp
                 first
                  | rfl
                  | (with_reducible exact q2))
            simp only [Act.put,zA,zB,zC])
         | ((with_reducible refine zAj ?_ ?_)
            ·(first | rfl | (go_simp;done))
            simp only [Act.put,zA,zB,zC])
       with_reducible refine wpQuiet_nil ?_
       intro w5 hW5
       have o5:=zAd hown3 hW5
       have bb5:=bthen hbel hbs (bthen hb3 hb3.size hW5)
       clear hown3 hlx3 lS3 hk3
       go_wp2_with (fail)
       go_roundg f
       case rel=>exact ⟨_,k+1,acc,rfl,by go_num,by omega,hmo2.out,o5,bb5⟩
       case measure=>omega
     | false=>
       have hmo2:Hid (acc++[x]=offerL S [] (haves.take (k+1))):=Lib.hid (by rw [hmo.out];rfl)
       clear hmo
       refine zAe (C:=fun W=>Below w3.heap.size w3 W) (by kernel_rfl) (by kernel_rfl) (Below.refl _ _).drew ?_
       repeat
        first
         | ((with_reducible refine zAm ?_ ?_)
            ·(go_simp;done)
            apply Exists.intro
            refine ⟨fun W hW=>?_,?_⟩
            ·first
              | (have q0:=lS3 W hW
                 have q1:=hlx3 W hW
                 have q2:=zAL hW (hk3 W hW)
                 go_simp
                 first
                  | rfl
                  | (with_reducible exact q2))
            simp only [Act.put,zA,zB,zC])
         | ((with_reducible refine zAj ?_ ?_)
            ·(first | rfl | (go_simp;done))
            simp only [Act.put,zA,zB,zC])
       with_reducible refine wpQuiet_nil ?_
       intro w5 hW5
       have o5:=zAd hown3 hW5
       have b5:=bthen hb3 hb3.size hW5
       have hlx5:=hlx3 w5 hW5
       have z5:=Nat.le_trans hbs b5.size
       clear hown3 hlx3 lS3 hk3
       go_wp2_with (first
        | ((with_reducible refine zAq (.tmp 35) Tryz.idsTy XC hx32 (by omega) ?_ ?_);rfl)
        | ((with_reducible refine zAn (.tmp 31) (.tmp 36) 1 _ Tryz.idsTy o5 XC hx132 hx1' hAk hAb z5 ?_ ?_ ?_);rfl;rfl
           intro v6 w6 ho6 hb6 _ _))
       have o6:OwnIds w6 W1.heap.size v6 (acc++[x]):=own_snocA (by rw [hXC.out];exact ho6)
       have bb6:=(bthen hbel hbs b5).trans hb6
       clear o5 ho6
       go_roundg f
       case rel=>exact ⟨_,k+1,_,rfl,by go_num,by omega,hmo2.out,o6,bb6⟩
       case measure=>omega
    ·have hKb:(K==3)=false:=by simp [hK3]
     have hmo2:Hid (acc=offerL S [] (haves.take (k+1))):=Lib.hid (by rw [hmo.out,hKb,Bool.and_false];rfl)
     clear hmo
     refine zAe (C:=fun W=>Below w3.heap.size w3 W) (by kernel_rfl) (by kernel_rfl) (Below.refl _ _).drew ?_
     repeat
      first
       | ((with_reducible refine zAm ?_ ?_)
          ·(go_simp;done)
          apply Exists.intro
          refine ⟨fun W hW=>?_,?_⟩
          ·first
            | (have q0:=lS3 W hW
               have q1:=hlx3 W hW
               have q2:=zAL hW (hk3 W hW)
               go_simp
               first
                | rfl
                | (with_reducible exact q2))
          simp only [Act.put,zA,zB,zC])
       | ((with_reducible refine zAj ?_ ?_)
          ·(first | rfl | (go_simp;done))
          simp only [Act.put,zA,zB,zC])
     with_reducible refine wpQuiet_nil ?_
     intro w5 hW5
     have o5:=zAd hown3 hW5
     have bb5:=bthen hbel hbs (bthen hb3 hb3.size hW5)
     clear hown3 hlx3 lS3 hk3
     go_wp2_with (fail)
     go_roundg f
     case rel=>exact ⟨_,k+1,acc,rfl,by go_num,by omega,hmo2.out,o5,bb5⟩
     case measure=>omega
set_option maxRecDepth 100000 in
set_option maxHeartbeats 8000000 in
theorem zDr (h:DocSt w vm es) (wants common:List Txt) (hok : ∀ x∈wants,x.length=32) (hcok : ∀ x∈common,x.length=32) (vi vc:Value) (hvi:Ids w vi wants) (hvc:Ids w vc common) :
 Calls Tryz.prog 12 #[.agg #[vm],vi,vc] w fun e w'=>e = .returned (.bool (readyS (es.map (·.st)) wants common))∧Below w.heap.size w w':=by
 obtain ⟨W1,hW1⟩ : ∃ W1,w.alloc (.cells #[vm] 29)=W1:=⟨_,rfl⟩
 have s1:Blk W1 w.heap.size 29 #[vm]:=by rw [←hW1];exact Blk.new _ _ _
 have b1:Below w.heap.size w W1:=by rw [←hW1];exact (Below.refl _ _).alloc (Nat.le_refl _) _
 have hsz1:=b1.size
 have l1:=fun W (hW:Below W1.heap.size W1 W)=>zAC (s1.below hW s1.lt)
 have hfin:readyS (es.map (·.st)) (wants.take wants.length) common=readyS (es.map (·.st)) wants common:=by rw [List.take_length]
 have hkd:=fun W (hW:Below w.heap.size w W) x (hx:x.length=32)=>Lib.hid (zAM (h.below hW) x hx)
 have hen:=fun W (hW:Below w.heap.size w W) (n:Txt) (hn:n.length=32)=>zEw (h.below hW) n hn
 have hwk:=fun W (hW:Below w.heap.size w W) y (hy:y.length=32) g (hg:Blk W g 53 (u8s y))=>Lib.hid (docWalk_calls (h.below hW) [y] [] (fun z hz=>by rw [List.mem_singleton.1 hz];exact hy) (fun z hz=>absurd hz List.not_mem_nil) (by show 1≤800000;omega) _ _ (id_one hg) SliceAt.nil)
 have hwok : ∀ y, ∀ z∈walkS (es.map (·.st)) [] [y],z.length=32:=fun y z hz=>walkS_okA h.ok hz
 have hin:=fun W (hW:Below w.heap.size w W) (x:Txt) (hx:x.length=32)=>Lib.hid (zBC common hcok vc x hx W (hvc.below hW))
 have hel:es.length=(es.map (·.st)).length:=by rw [List.length_map]
 rw [hel] at hen
 obtain ⟨S,hS⟩ : ∃ S,es.map (·.st)=S:=⟨_,rfl⟩
 rw [hS] at hfin ⊢
 simp only [hS] at hkd hen hwk hwok
 have hstop:=fun {k:Nat} {x:Txt} (h:wants[k]?=some x) (hc:covS S common x=false)=>ready_stop h hc
 have hmore:=fun {k:Nat} {x:Txt} (h:wants[k]?=some x)=>ready_take (S:=S) (common:=common) h
 have hzi:=zeroIdV
 have hszI:(Tryz.prog.info? 53).map (·.size)=some (u8s noId).size:=by rw [zAh];exact sz32
 obtain ⟨R,hR⟩ : ∃ R,readyS S wants common=R:=⟨_,rfl⟩
 simp only [hR] at hstop
 rw [hR] at hfin ⊢
 obtain ⟨Ai,ci,rfl,hi1,hi2,hat⟩:=hvi
 obtain ⟨Ac,cc,rfl,_⟩:=hvc
 clear h s1 hS hel hR
 go_enter Tryz.func12,Tryz.ntmps12
 go_wp2_with (fail)
 go_loopg [7] wants.length (fun f v7 wr => ∃ (k:Nat),v7 = .int .i64 k∧k+f=wants.length∧readyS S (wants.take k) common=true∧Below W1.heap.size W1 wr)
 case atStart=>exact ⟨0,rfl,by omega,rfl,Below.refl _ _⟩
 case round=>
  obtain ⟨k,rfl,hkf,hrd,hbel⟩:=hrel
  have hbs:=hbel.size
  have hbr:=bthen b1 hsz1 hbel
  cases gk with
  | zero=>
    have hki : ¬ (k:Int)<(wants.length:Int):=by omega
    obtain rfl:k=wants.length:=by omega
    have HR:Hid (true=R):=Lib.hid (by rw [←hfin,hrd])
    clear hat hkd hen hwk hwok hin hstop hmore hfin hrd
    go_wp2_with (fail)
    go_ret
    exact ⟨by rw [←HR.out];rfl,hbr⟩
  | succ f=>
    have hki:(k:Int)<(wants.length:Int):=by omega
    obtain ⟨ga,oa,rfl,hga,hca⟩:=hat (by omega)
    obtain ⟨x,hx⟩ : ∃ x,wants[k]?=some x:=⟨_,List.getElem?_eq_getElem (by omega)⟩
    have hxi:=hok x (List.mem_of_getElem? hx)
    have hlx : ∀ W,Below wr.heap.size wr W→(ldvI ⟨ga,oa+k*32,none⟩).run Tryz.prog W = .ok (.agg (u8s x)) W:=fun W hW=>zAb (show World.rangeAt W ga (oa+k*32) (u8s x).toList from zAc (hca k x hx) hga (bthen hbr hbr.size hW)) hxi
    have hex:=fun W (hW:Below wr.heap.size wr W)=>hen W (bthen hbr hbr.size hW) x hxi
    have lSr:=fun W (hW:Below wr.heap.size wr W)=>l1 W (bthen hbel hbs hW)
    have hst:=hstop hx
    have hmo:=hmore hx
    rw [hrd,Bool.true_and] at hmo
    obtain ⟨m,bo,hmi,hEv,hEs⟩:=end_isA S (S.length+1) x hxi
    have hcd:covS S common x=(match (if bo=true then some m else none:Option Txt) with
     | none=>false
     | some e=>if kindS S e=3 then (walkS S [] [e]).any (fun y=>inL common y) else true):=by unfold covS;rw [hEs];cases bo<;>rfl
    simp only [hEv] at hex
    have hm32:(u8s m).size=32:=by rw [zAh,hmi]
    have hm1:=u8s_one m
    have hmz:(u8s m).size=(u8s noId).size:=by rw [hm32,zAh];rfl
    have hlm : ∀ W g,Blk W g 53 (u8s m)→(ldvI ⟨g,0,none⟩).run Tryz.prog W = .ok (.agg (u8s m)) W:=fun W g h=>zAb (zAk h) hmi
    have hkm:=fun W (hW:Below wr.heap.size wr W)=>hkd W (bthen hbr hbr.size hW) m hmi
    have hwm:=fun W (hW:Below wr.heap.size wr W) g hg=>hwk W (bthen hbr hbr.size hW) m hmi g hg
    have hwkok:=hwok m
    have hinr:=fun W (hW:Below wr.heap.size wr W) y hy=>hin W (bthen hbr hbr.size hW) y hy
    obtain ⟨XC,hXC⟩ : ∃ XC,u8s x=XC:=⟨_,rfl⟩
    obtain ⟨MC,hMC⟩ : ∃ MC,u8s m=MC:=⟨_,rfl⟩
    simp only [hXC,hMC] at hex
    simp only [hXC] at hlx
    simp only [hMC] at hlm hkm hwm
    rw [hMC] at hm32 hm1 hmz
    generalize u8s noId=Z at *
    clear hca hat hx hkd hen hwk hwok hin hstop hmore hEv hEs hXC hMC hfin hrd
    go_upto_region 4 with (fail)
    refine zAr 12 (by kernel_rfl) (by kernel_rfl) (by kernel_rfl) (by kernel_rfl) ?_
    simp only [exSp]
    iterate 12 apply Exists.intro
    repeat
     first
      | ((with_reducible apply lx0_ex)
         ·(go_simp;done)
         apply Exists.intro
         apply And.intro
         ·apply Eq.refl
         apply And.intro
         ·intro W hW hD
          have q0:=lSr W hW
          have q1:=hlx W hW
          have q2:=hex W hW
          go_simp
          first
           | rfl
           | (with_reducible exact q2)
         simp only [Act.put,zA,zB,zC])
      | ((with_reducible apply zAJ)
         ·(first | rfl | (go_simp;done))
         ·apply Eq.refl
         simp only [Act.put,zA,zB,zC])
      | ((with_reducible apply lx_al 53 Z hzi)
         ·apply Eq.refl
         intro v
         simp only [Act.put,zA,zB,zC])
      | ((with_reducible apply lx_st' 9 53 Z hszI (by kernel_rfl))
         ·exact rfl
         ·apply Eq.refl
         apply Exists.intro
         apply Exists.intro
         apply And.intro
         ·(go_simp;rfl)
         apply And.intro
         ·(go_simp;rfl)
         refine ⟨?_,fun W hW hD=>?_,?_⟩
         ·first | exact List.Mem.head _ | exact List.Mem.tail _ (List.Mem.head _) | exact List.Mem.tail _ (List.Mem.tail _ (List.Mem.head _)) | exact List.Mem.tail _ (List.Mem.tail _ (List.Mem.tail _ (List.Mem.head _)))
         ·exact ⟨MC,rfl,hmz,hm1⟩)
    refine lx0_nil ?_ fun w5 hW5 hD5=>?_
    ·exact (by simp [stsOf])
    obtain ⟨_,g5,cs5,rfl,hcs5,hg5,_,hb5⟩:=hD5 _ (.head _)
    obtain rfl:MC=cs5:=by injection hcs5
    have l5:=hlm w5 g5 hb5
    have lS5:=lSr w5 hW5
    have b5:=bthen hbel hbs hW5
    have k5:=hkm w5 hW5
    clear hD5 hcs5 hex hlx
    cases bo with
    | false=>
      have HR:Hid (false=R):=Lib.hid (hst hcd).symm
      clear hst hmo hcd hkm hwm hinr
      go_wp2_with (fail)
      go_ret
      exact ⟨by rw [←HR.out];rfl,bthen b1 hsz1 b5⟩
    | true=>
      simp only [if_true] at hcd
      by_cases hK:kindS S m=3
      ·rw [if_pos hK] at hcd
       rw [hK] at k5
       obtain ⟨WK,hWK⟩ : ∃ WK,walkS S [] [m]=WK:=⟨_,rfl⟩
       rw [hWK] at hcd hwkok
       simp only [hWK] at hwm
       have hfinW:(WK.take WK.length).any (fun y=>inL common y)=WK.any (fun y=>inL common y):=by rw [List.take_length]
       rw [←hcd] at hfinW
       generalize covS S common x=C at *
       clear hK hWK hcd hkm
       go_upto_region 10 with (first
        | ((with_reducible refine k5.out.mono ?_);rintro e w6 ⟨rfl,hb6⟩
           have hn6:=hb5.below hb6 hb5.lt
           have l6:=hlm w6 g5 hn6
           have b56:=bthen hW5 hW5.size hb6
           have lS6:=lSr w6 b56)
        | ((with_reducible refine zAq (.tmp 36) Tryz.idsTy MC hm32 (by omega) ?_ ?_);rfl
           obtain ⟨w7,hw7⟩ : ∃ w7,w6.alloc (.cells MC 53)=w7:=⟨_,rfl⟩
           have n7:Blk w7 w6.heap.size 53 MC:=by rw [←hw7];exact Blk.new _ _ _
           have bb7:Below w6.heap.size w6 w7:=by rw [←hw7];exact (Below.refl _ _).alloc (Nat.le_refl _) _
           have b57:=bthen b56 b56.size bb7
           rw [hw7]
           clear hw7
           have k7:=hwm w7 b57 _ n7)
        | ((with_reducible refine k7.out.mono ?_);rintro e w8 ⟨v8,rfl,ho8,hb8⟩
           obtain ⟨A8,c8,rfl⟩:=zAl ho8))
       have b58:=bthen b57 b57.size hb8
       have b8:=bthen hbel hbs b58
       obtain ⟨A9,c9,he,_,_,hatW⟩:=SliceAt.of_own (idsK hwkok) ho8
       injection he with e1 _ e3
       subst e1
       subst e3
       clear k5 k7 hwm l5 l6 lS5 lS6 hn6 n7 ho8 hlm hb5
       rename World=>wa
       have hz8:=hb8.size
       go_wp2_with (fail)
       go_loopg [10,12,13] WK.length (fun f3 v10 v12 v13 wr => ∃ (j:Nat) (b:Bool),v10 = .bool b∧v12 = .int .i64 j∧j+f3=WK.length∧b=(WK.take j).any (fun y=>inL common y)∧Below wa.heap.size wa wr)
       case atStart=>exact ⟨0,false,rfl,rfl,by omega,rfl,Below.refl _ _⟩
       case round=>
        obtain ⟨j,b,rfl,rfl,hjf,hb,hbel2⟩:=hrel
        have hbs2:=hbel2.size
        cases gk with
        | zero=>
          have hki2 : ¬ (j:Int)<(WK.length:Int):=by omega
          obtain rfl:j=WK.length:=by omega
          rw [hfinW] at hb
          subst hb
          have bb:=bthen b8 b8.size hbel2
          clear hatW hinr hwkok hfinW
          cases b with
          | true=>
            clear hst
            go_wp2_with (fail)
            go_roundg f
            case rel=>exact ⟨k+1,by go_num,by omega,hmo,bb⟩
            case measure=>omega
          | false=>
            have HR:Hid (false=R):=Lib.hid (hst rfl).symm
            clear hst hmo
            go_wp2_with (fail)
            go_ret
            exact ⟨by rw [←HR.out];rfl,bthen b1 hsz1 bb⟩
        | succ f3=>
          have hki2:(j:Int)<(WK.length:Int):=by omega
          obtain ⟨gw,ow,rfl,hgw,hcw⟩:=hatW (by omega)
          obtain ⟨y,hy⟩ : ∃ y,WK[j]?=some y:=⟨_,List.getElem?_eq_getElem (by omega)⟩
          have hyi:=hwkok y (List.mem_of_getElem? hy)
          have hly:(ldvI ⟨gw,ow+j*32,none⟩).run Tryz.prog wr = .ok (.agg (u8s y)) wr:=zAb (show World.rangeAt wr gw (ow+j*32) (u8s y).toList from zAc (hcw j y hy) hgw hbel2) hyi
          have hny:=hinr wr (bthen b58 b58.size hbel2) y hyi
          have hb2:Hid ((b||inL common y)=(WK.take (j+1)).any (fun y=>inL common y)):=Lib.hid (by rw [any_take hy,←hb])
          generalize inL common y=by_ at *
          clear hcw hatW hy hb hinr hwkok hfinW hst hmo
          cases b with
          | true=>
            go_wp2_with (first
             | ((with_reducible refine hny.out.mono ?_);rintro e w9 ⟨rfl,hb9⟩))
            have b9:=bthen hbel2 hbs2 hb9
            go_roundg f3
            case rel=>exact ⟨j+1,_,rfl,by go_num,by omega,hb2.out,b9⟩
            case measure=>omega
          | false=>
            go_wp2_with (first
             | ((with_reducible refine hny.out.mono ?_);rintro e w9 ⟨rfl,hb9⟩))
            have b9:=bthen hbel2 hbs2 hb9
            go_roundg f3
            case rel=>exact ⟨j+1,_,rfl,by go_num,by omega,hb2.out,b9⟩
            case measure=>omega
      ·rw [if_neg hK] at hcd
       rw [hcd] at hmo
       obtain ⟨K,hKe⟩ : ∃ K,kindS S m=K:=⟨_,rfl⟩
       rw [hKe] at hK k5
       have hKn:(K != 3)=true:=by simp [hK]
       clear hcd hst hKe hwm hinr hkm
       go_wp2_with (first
        | ((with_reducible refine k5.out.mono ?_);rintro e w6 ⟨rfl,hb6⟩))
       have b6:=bthen b5 b5.size hb6
       go_roundg f
       case rel=>exact ⟨k+1,by go_num,by omega,hmo,b6⟩
       case measure=>omega
end
theorem zDj (r:Int) (hr:r<1) (w:World):Calls Tryz.prog 14 #[.int .i64 r] w fun e w'=>e = .returned (.int .i64 1)∧w'=w:=by
 go_enter Tryz.func14,Tryz.ntmps14
 go_wp2_with (fail)
 go_ret
 exact ⟨rfl,rfl⟩
theorem zDi (w:World):Calls Tryz.prog 14 #[.int .i64 1] w fun e w'=>e = .returned (.int .i64 2)∧w'=w:=by
 have hp:Hid (Calls Tryz.prog 14 #[.int .i64 0] w fun e w'=>e = .returned (.int .i64 1)∧w'=w):=Lib.hid (zDj 0 (by decide) w)
 go_enter Tryz.func14,Tryz.ntmps14
 go_wp2_with (first
  | ((with_reducible refine hp.out.mono ?_);rintro e w1 ⟨rfl,rfl⟩))
 go_ret
 exact ⟨rfl,rfl⟩
theorem zDm (w:World):Calls Tryz.prog 14 #[.int .i64 2] w fun e w'=>e = .returned (.int .i64 4)∧w'=w:=by
 have hp:Hid (Calls Tryz.prog 14 #[.int .i64 1] w fun e w'=>e = .returned (.int .i64 2)∧w'=w):=Lib.hid (zDi w)
 go_enter Tryz.func14,Tryz.ntmps14
 go_wp2_with (first
  | ((with_reducible refine hp.out.mono ?_);rintro e w1 ⟨rfl,rfl⟩))
 go_ret
 exact ⟨rfl,rfl⟩
theorem refMany4_calls (w:World):Calls Tryz.prog 14 #[.int .i64 3] w fun e w'=>e = .returned (.int .i64 8)∧w'=w:=by
 have hp:Hid (Calls Tryz.prog 14 #[.int .i64 2] w fun e w'=>e = .returned (.int .i64 4)∧w'=w):=Lib.hid (zDm w)
 go_enter Tryz.func14,Tryz.ntmps14
 go_wp2_with (first
  | ((with_reducible refine hp.out.mono ?_);rintro e w1 ⟨rfl,rfl⟩))
 go_ret
 exact ⟨rfl,rfl⟩
theorem refMany5_calls (r:Int) (hr:4≤r) (w:World):Calls Tryz.prog 14 #[.int .i64 r] w fun e w'=>e = .returned (.int .i64 16)∧w'=w:=by
 have h1 : ¬ r<1:=by omega
 have h3:(3:Int)<r:=by omega
 go_enter Tryz.func14,Tryz.ntmps14
 go_wp2_with (fail)
 go_ret
 exact ⟨rfl,rfl⟩
theorem refMany_calls (r:Int) (w:World):Calls Tryz.prog 14 #[.int .i64 r] w fun e w'=>e = .returned (.int .i64 (manyN r))∧w'=w:=by
 rcases many_cases r with ⟨h,e⟩ | ⟨h,e⟩ | ⟨h,e⟩ | ⟨h,e⟩ | ⟨h,e⟩
 ·rw [e];exact zDj r h w
 ·rw [e,h];exact zDi w
 ·rw [e,h];exact zDm w
 ·rw [e,h];exact refMany4_calls w
 ·rw [e];exact refMany5_calls r h w
end
def id1 : Txt:=1::List.replicate 31 0
theorem ready_one : readyS [] [id1] []=false:=by decide +kernel
set_option maxRecDepth 100000 in
set_option maxHeartbeats 4000000 in
theorem knows19_calls (w:World):Calls Tryz.prog 6 #[] w fun e w'=>e = .returned (.bool true)∧Below w.heap.size w w':=by
 have k1:=fun W=>Lib.hid (zEC W)
 have kr:=fun {W:World} {p:Nat} (h:StoAt W p p (.slice none 0 0) [])=>Lib.hid (zBJ h (vi := .slice none 0 0) (wants:=[]) SliceAt.nil (fun x hx=>absurd hx List.not_mem_nil) (vc := .slice none 0 0) (common:=[]) SliceAt.nil (fun x hx=>absurd hx List.not_mem_nil))
 have kr2:=fun {W:World} {p g:Nat} (h:StoAt W p p (.slice none 0 0) []) (hg:Blk W g 53 (u8s id1))=>Lib.hid (zBJ h (wants:=[id1]) (id_one hg) (fun x hx=>by rw [List.mem_singleton.1 hx];rfl) (vc := .slice none 0 0) (common:=[]) SliceAt.nil (fun x hx=>absurd hx List.not_mem_nil))
 rw [show readyS [] [] []=true from rfl] at kr
 simp only [ready_one] at kr2
 have hm2:=fun W=>Lib.hid (zBV 2 W)
 have hm9:=fun W=>Lib.hid (zBV 9 W)
 have hmm:=fun W=>Lib.hid (zBV (-1) W)
 simp only [show ((manyN 2:Nat):Int)=4 from by decide] at hm2
 simp only [show ((manyN 9:Nat):Int)=16 from by decide] at hm9
 simp only [show ((manyN (-1):Nat):Int)=1 from by decide] at hmm
 have k1w:=k1 w
 go_enter Tryz.func6,Tryz.ntmps6
 go_wp2_with (first
  | ((with_reducible refine k1w.out.mono ?_);rintro e w1 ⟨rfl,hS1,b1⟩
     have r1:=kr hS1)
  | ((with_reducible refine r1.out.mono ?_);rintro e w2 ⟨rfl,hb2⟩
     have b2:=bthen b1 b1.size hb2
     have k12:=k1 w2)
  | ((with_reducible refine k12.out.mono ?_);rintro e w3 ⟨rfl,hS3,hb3⟩
     have b3:=bthen b2 b2.size hb3
     have bb4:Below w3.heap.size w3 (w3.alloc (.cells #[.int .u8 1, .int .u8 0, .int .u8 0, .int .u8 0, .int .u8 0, .int .u8 0, .int .u8 0, .int .u8 0, .int .u8 0, .int .u8 0, .int .u8 0, .int .u8 0, .int .u8 0, .int .u8 0, .int .u8 0, .int .u8 0, .int .u8 0, .int .u8 0, .int .u8 0, .int .u8 0, .int .u8 0, .int .u8 0, .int .u8 0, .int .u8 0, .int .u8 0, .int .u8 0, .int .u8 0, .int .u8 0, .int .u8 0, .int .u8 0, .int .u8 0, .int .u8 0] 53)):=(Below.refl _ _).alloc (Nat.le_refl _) _
     have n4:Blk (w3.alloc (.cells #[.int .u8 1, .int .u8 0, .int .u8 0, .int .u8 0, .int .u8 0, .int .u8 0, .int .u8 0, .int .u8 0, .int .u8 0, .int .u8 0, .int .u8 0, .int .u8 0, .int .u8 0, .int .u8 0, .int .u8 0, .int .u8 0, .int .u8 0, .int .u8 0, .int .u8 0, .int .u8 0, .int .u8 0, .int .u8 0, .int .u8 0, .int .u8 0, .int .u8 0, .int .u8 0, .int .u8 0, .int .u8 0, .int .u8 0, .int .u8 0, .int .u8 0, .int .u8 0] 53)) w3.heap.size 53 (u8s id1):=Blk.new _ _ _
     have b4:=bthen b3 b3.size bb4
     have r4:=kr2 (hS3.below bb4) n4
     clear bb4 n4)
  | ((with_reducible refine r4.out.mono ?_);rintro e w5 ⟨rfl,hb5⟩
     have b5:=bthen b4 b4.size hb5
     have m5:=hm2 w5)
  | ((with_reducible refine m5.out.mono ?_);rintro e w6 ⟨rfl,hw6⟩;obtain rfl:=hw6.symm
     have m6:=hm9 w5)
  | ((with_reducible refine m6.out.mono ?_);rintro e w7 ⟨rfl,hw7⟩;obtain rfl:=hw7.symm
     have m7:=hmm w5)
  | ((with_reducible refine m7.out.mono ?_);rintro e w8 ⟨rfl,hw8⟩;obtain rfl:=hw8.symm))
 go_ret
 exact ⟨rfl,b5⟩
end Go.Proofs.YtbcbmjdmlcldjaaGreatDoor
namespace Go.Proofs.YtbcbmjdmlcldjaaGreatDoor
open Go.ChangeShapes Go.WideShapes Go.ChangeAt Go.RowKit
section
variable {H:Type} {enc:TypeId×Value→H} {P:Program} {w:World} {base:Nat} {sp:Nat→Bool} {held:Bool}
open Go.Deep in
theorem zBr {α:Type} (en:α→List Value) (k:Nat) (hk0:0<k) (Ok:α→Prop) {t e:TypeId} {fuel:Nat} {v:Value} {x:DataW H×List MemPlace} (ht:P.underlying t=some (.slice e)) (hk:P.cellsOf e=k)
 (hen : ∀ y,Ok y→(en y).length=k) (key : ∀ fuel cs x,DataW.trod enc P w base sp held fuel e cs=some x→cs.length=k → ∃ y:α,cs=en y∧Ok y) (h:DataW.trod enc P w base sp held fuel t [v]=some x) :
 ∃ l:List α,SliceAt w k en v l ∧ ∀ y∈l,Ok y:=by
 rcases open_slice ht h with ⟨h0,_⟩ | ⟨a,len,cap,m,n,D,Pl,hcs,hb,hl,hm,hmm,hx,hi⟩
 ·injection h0 with h0
  subst h0
  exact ⟨[],SliceAt.nil,fun y hy=>by simp at hy⟩
 ·injection hcs with hcs
  subst hcs
  have hlm:len≤m:=by rw [hmm];split<;>omega
  have per : ∀ i,i<len → ∃ y:α,(∀ j u,(en y)[j]?=some u→w.cell? ((a.add (i*k)).add j)=some u)∧Ok y:=by
   intro i hil
   obtain ⟨cs',hc,ht'⟩:=hi i (by omega)
   rw [hk] at hc
   obtain ⟨_,hcl,hat⟩:=World.cells?_some hc
   obtain ⟨y,rfl,hok⟩:=key _ _ _ ht' hcl
   refine ⟨y,fun j u hu=>?_,hok⟩
   have hj:=(List.getElem?_eq_some_iff.1 hu).1
   rw [hat j (by omega)]
   exact hu
  obtain ⟨l,hll,hp⟩:=list_of len _ per
  subst hll
  have hcm:cap≤9223372036854775807:=by unfold maxLen at hm;omega
  refine ⟨l,⟨some a,cap,rfl,hl,hcm,fun h0=>?_⟩,fun y hy=>?_⟩
  ·have hy0:=(hp 0 h0).1
   have hlen0:=hen _ (hp 0 h0).2
   have hc0:=hy0 0 _ (List.getElem?_eq_getElem (by omega))
   simp only [Nat.zero_mul] at hc0
   have e00:(a.add 0).add 0=a:=by simp [Addr.add]
   rw [e00] at hc0
   obtain ⟨ha,hlt⟩:=addr_form hc0
   refine ⟨a.block,a.off,by rw [←ha],hlt,fun i y hy j u hu=>?_⟩
   obtain ⟨hi',he⟩:=List.getElem?_eq_some_iff.1 hy
   have hc:=(hp i hi').1 j u (by rw [he];exact hu)
   rw [ha] at hc
   simp only [addr_add] at hc
   exact hc
  ·obtain ⟨i,hi',rfl⟩:=List.getElem_of_mem hy
   exact (hp i hi').2
end
end Go.Proofs.YtbcbmjdmlcldjaaGreatDoor
namespace Go.Proofs.YtbcbmjdmlcldjaaGreatDoor
open Go.ChangeShapes Go.WideShapes Go.ChangeAt Go.RowKit
theorem trod_bytes {H:Type} {enc:TypeId×Value→H} {P:Program} {w:World} {base:Nat} {sp:Nat→Bool} {held:Bool} {fuel:Nat} {t e:TypeId} {n:Nat} {cs:List Value} {x:DataW H×List MemPlace}
 (ht:P.underlying t=some (.array n e)) (he:P.underlying e=some (.int .u8)) (hce:P.cellsOf e=1) (hct:P.cellsOf t=n)
 (h:DataW.trod enc P w base sp held fuel t cs=some x) : ∃ l:List UInt8,l.length=n∧cs=l.map u8v:=by
 cases fuel with
 | zero=>simp [DataW.trod] at h
 | succ fuel=>
   simp only [DataW.trod,ht,hce,hct,Nat.mul_one] at h
   split at h
   ·rename_i hl
    obtain ⟨xs,hm,_⟩:=Option.map_eq_some_iff.1 h
    have key : ∀ i,i<n → ∃ c:UInt8,cs[i]?=some (u8v c):=by
     intro i hi
     obtain ⟨b,_,hf⟩:=Lib.mapM_at hm i i (by simp [hi])
     obtain ⟨z,hc,_,hw⟩:=DataW.trod_int he hf
     have h1:cs[i]?=some (.int .u8 z):=by
      have:=congrArg (·[0]?) hc
      simpa [List.getElem?_take,List.getElem?_drop] using this
     have hb:=bounds_u8 hw
     refine ⟨UInt8.ofNat z.toNat,?_⟩
     rw [h1,u8v,zCj _ (by omega),Int.toNat_of_nonneg hb.1]
    obtain ⟨l,hll,hp⟩:=list_of n (fun i c=>cs[i]?=some (u8v c)) key
    refine ⟨l,hll,List.ext_getElem? fun i=>?_⟩
    rcases Nat.lt_or_ge i n with hi | hi
    ·rw [hp i (by omega),List.getElem?_map,List.getElem?_eq_getElem (show i<l.length by omega)]
     rfl
    ·rw [List.getElem?_eq_none (by omega),List.getElem?_eq_none (by simp;omega)]
   ·cases h
end Go.Proofs.YtbcbmjdmlcldjaaGreatDoor
namespace Go.Proofs.YtbcbmjdmlcldjaaGreatDoor
open Go.ChangeShapes Go.WideShapes Go.ChangeAt Go.RowKit
section
variable {H:Type} {enc:TypeId×Value→H} {w:World} {base:Nat} {sp:Nat→Bool} {held:Bool}
theorem chain {cs a:List Value} {n k m:Nat} (h:(cs.drop n).take k=a) (hm:n+k=m):cs.drop n=a++cs.drop m:=by
 rw [←h,←hm,←List.drop_drop]
 exact (List.take_append_drop k _).symm
theorem zA0 {fuel:Nat} {t:TypeId} {cs:List Value} {x:DataW H×List MemPlace} (hc:cs.length=1) (h:DataW.trod enc Tryz.prog w base sp held fuel t cs=some x) : ∃ v,cs=[v]∧DataW.trod enc Tryz.prog w base sp held fuel t [v]=some x:=by
 match cs,hc with
 | [v],_=>exact ⟨v,rfl,h⟩
end
end Go.Proofs.YtbcbmjdmlcldjaaGreatDoor
namespace Go.Proofs.YtbcbmjdmlcldjaaGreatDoor
open Go.ChangeShapes Go.WideShapes Go.ChangeAt Go.RowKit
structure SdL where
 kind:UInt8
 refs:Txt
 time:Nat
 text:Txt
 vr:Value
def sdC (e:SdL):List Value:=[u8v e.kind,e.vr, .int .u16 e.time, .string (B e.text)]
def byC (c:UInt8):List Value:=[u8v c]
structure SdOk (w:World) (e:SdL):Prop where
 refs:SliceAt w 1 byC e.vr e.refs
 time:e.time<65536
 text:e.text.length≤9223372036854775807
theorem SdOk.below {w w':World} {e:SdL} (h:SdOk w e) (hb:Below w.heap.size w w'):SdOk w' e:=⟨h.refs.below hb,h.time,h.text⟩
structure Seeds (w:World) (v:Value) (l:List SdL):Prop where
 at_:SliceAt w 4 sdC v l
 each : ∀ e∈l,SdOk w e
theorem Seeds.below {w w':World} {v:Value} {l:List SdL} (h:Seeds w v l) (hb:Below w.heap.size w w'):Seeds w' v l:=⟨h.at_.below hb,fun e he=>(h.each e he).below hb⟩
section
variable {H:Type} {enc:TypeId×Value→H} {w:World} {base:Nat} {sp:Nat→Bool} {held:Bool}
theorem zCm (fuel:Nat) (cs:List Value) (x:DataW H×List MemPlace) (h:DataW.trod enc Tryz.prog w base sp held fuel 5 cs=some x) (hl:cs.length=1) : ∃ c:UInt8,cs=byC c∧True:=by
 obtain ⟨n,e,_,w0⟩:=DataW.trod_int Tryz.underlying5 h
 have hb:=bounds_u8 w0
 obtain ⟨k,rfl⟩:=Int.eq_ofNat_of_zero_le hb.1
 refine ⟨UInt8.ofNat k,?_,trivial⟩
 rw [e]
 unfold byC
 rw [u8v_ofNat k (by omega)]
set_option maxRecDepth 200000 in
theorem elem_seed (fuel:Nat) (cs:List Value) (x:DataW H×List MemPlace) (h:DataW.trod enc Tryz.prog w base sp held fuel 90 cs=some x) (hl:cs.length=4) : ∃ r:SdL,cs=sdC r∧SdOk w r:=by
 obtain ⟨ys,n',hn',hy,hlen,hyl,hf⟩:=DataW.trod_struct Tryz.underlying90 h
 have hyl:ys.length=4:=hyl
 have h0:=hf 0 _ rfl
 have h1:=hf 1 _ rfl
 have h2:=hf 2 _ rfl
 have h3:=hf 3 _ rfl
 rw [List.getElem?_eq_getElem (show 0<ys.length by omega)] at h0
 rw [List.getElem?_eq_getElem (show 1<ys.length by omega)] at h1
 rw [List.getElem?_eq_getElem (show 2<ys.length by omega)] at h2
 rw [List.getElem?_eq_getElem (show 3<ys.length by omega)] at h3
 have cU:Tryz.prog.cellsOf 5=1:=by kernel_rfl
 have cB:Tryz.prog.cellsOf 23=1:=by kernel_rfl
 have cT:Tryz.prog.cellsOf 88=1:=by kernel_rfl
 have cS:Tryz.prog.cellsOf 9=1:=by kernel_rfl
 obtain ⟨n0,e0,_,w0⟩:=DataW.trod_int Tryz.underlying5 h0
 obtain ⟨n2,e2,_,w2⟩:=DataW.trod_int Tryz.underlying88 h2
 obtain ⟨s3,e3,_,w3⟩:=DataW.trod_string Tryz.underlying9 h3
 obtain ⟨v1,e1,t1⟩:=zA0 (by
  show ((cs.drop 1).take (Tryz.prog.cellsOf 23)).length=1
  rw [cB,List.length_take,List.length_drop];omega) h1
 obtain ⟨lr,hlr,_⟩:=zBr byC 1 (by omega) (fun _=>True) Tryz.underlying23 cU (fun y _=>rfl) zCm t1
 obtain ⟨a3,rfl⟩:=B_mk s3
 have b0:=bounds_u8 w0
 have b2:=bounds_u16 w2
 obtain ⟨k0,rfl⟩:=Int.eq_ofNat_of_zero_le b0.1
 obtain ⟨k2,rfl⟩:=Int.eq_ofNat_of_zero_le b2.1
 have e0':(cs.drop 0).take 1=[u8v (UInt8.ofNat k0)]:=by rw [u8v_ofNat k0 (by omega),←cU];exact e0
 have e1':(cs.drop 1).take 1=[v1]:=by rw [←cB];exact e1
 have e2':(cs.drop 2).take 1=[.int .u16 k2]:=by rw [←cT];exact e2
 have e3':(cs.drop 3).take 1=[.string (B a3)]:=by rw [←cS];exact e3
 refine ⟨⟨UInt8.ofNat k0,lr,k2,a3,v1⟩,?_,⟨hlr,by show k2<_;omega,by unfold maxLen at w3;rw [size_B] at w3;exact w3⟩⟩
 have:=chain e0' (m:=1) rfl
 rw [List.drop_zero,chain e1' (m:=2) rfl,chain e2' (m:=3) rfl,chain e3' (m:=4) rfl,List.drop_of_length_le (by omega)] at this
 rw [this]
 rfl
end
section
variable {w:World} {g o:Nat} {e:SdL}
theorem sd_refs (h:w.rangeAt g o (sdC e)):w.cell? ⟨g,o+1,none⟩=some e.vr:=h 1 _ rfl
theorem sd_text (h:w.rangeAt g o (sdC e)):w.cell? ⟨g,o+3,none⟩=some (.string (B e.text)):=h 3 _ rfl
end
theorem szSeed : (Tryz.prog.info? 90).map (·.size)=some 4:=by kernel_rfl
def FewB (l:List SdL) (most:Nat) (e:Ending):Prop := ∃ b,e = .returned (.bool b)∧(b=true→l.length≤most ∧ ∀ x∈l,x.refs.length≤10∧x.text.length≤300)
set_option maxRecDepth 100000 in
set_option maxHeartbeats 4000000 in
theorem few_calls11 (l:List SdL) (most:Nat) (hm:most≤1000) (va:Value) (w:World) (h:Seeds w va l):Calls Tryz.prog 23 #[va, .int .i64 most] w fun e w'=>FewB l most e∧Below w.heap.size w w':=by
 have hla:=h.at_.len
 have heach:=h.each
 obtain ⟨A,capa,rfl,ha1,ha2,hata⟩:=h.at_
 clear h
 go_enter Tryz.func23,Tryz.ntmps23
 go_wp2
 go_loopw [5] (fun i wr => ∃ k:Nat,i = .int .i64 k∧k≤l.length∧k≤most∧(∀ j x,j<k→l[j]?=some x→x.refs.length≤10∧x.text.length≤300)∧Below w.heap.size w wr) (fun i _=>l.length-(intOf i).toNat)
 case atStart=>exact ⟨0,rfl,by omega,by omega,fun j x hj=>by omega,Below.refl _ _⟩
 case round=>
  obtain ⟨k,rfl,hk,hkm,hall,hbel⟩:=hrel
  by_cases hlt:k<l.length
  ·have hki:(k:Int)<(l.length:Int):=by omega
   by_cases h20:k<most
   ·have hk2:(k:Int)<(most:Int):=by omega
    obtain ⟨ga,oa,rfl,hga,hca⟩:=hata (by omega)
    obtain ⟨x,hx⟩ : ∃ x,l[k]?=some x:=⟨_,List.getElem?_eq_getElem hlt⟩
    obtain ⟨A2,cap2,hvr,_⟩:=(heach x (List.mem_of_getElem? hx)).refs
    have q1:=sd_refs (zAc (hca k x hx) hga hbel)
    rw [hvr] at q1
    have q3:=sd_text (zAc (hca k x hx) hga hbel)
    by_cases hd:x.refs.length≤10
    ·have d1 : ¬ (10:Int)<(x.refs.length:Int):=by omega
     by_cases hd2:x.text.length≤300
     ·have d2 : ¬ (300:Int)<(x.text.length:Int):=by omega
      have hall2 : ∀ j y,j<k+1→l[j]?=some y→y.refs.length≤10∧y.text.length≤300:=fun j y hj hy=>by
       by_cases e:j=k
       ·rw [e,hx] at hy
        injection hy with hy
        rw [←hy];exact ⟨hd,hd2⟩
       ·exact hall j y (by omega) hy
      clear hx hata hca hd hd2 hall heach hvr
      go_wp2
      all_goals try (exfalso;omega)
      go_roundw
      case rel=>exact ⟨k+1,by go_num,by omega,by omega,hall2,hbel⟩
      case measure=>simp [intOf];omega
     ·have d2:(300:Int)<(x.text.length:Int):=by omega
      clear hx hata hca hd hd2 hall heach hvr
      go_wp2
      all_goals try (exfalso;omega)
      go_ret
      exact ⟨⟨false,rfl,fun h=>by cases h⟩,hbel⟩
    ·have d1:(10:Int)<(x.refs.length:Int):=by omega
     clear hx hata hca hd hall heach hvr
     go_wp2
     all_goals try (exfalso;omega)
     go_ret
     exact ⟨⟨false,rfl,fun h=>by cases h⟩,hbel⟩
   ·have hk2 : ¬ (k:Int)<(most:Int):=by omega
    have hno : ¬ (l.length:Int)≤(most:Int):=by omega
    clear hata hall heach
    go_wp2
    all_goals try (exfalso;omega)
    go_ret
    exact ⟨⟨_,rfl,fun h=>by simp at h⟩,hbel⟩
  ·have hki : ¬ (k:Int)<(l.length:Int):=by omega
   have h20:(l.length:Int)≤(most:Int):=by omega
   have hall2:=Lib.hid hall
   clear hata hall heach
   go_wp2
   all_goals try (exfalso;omega)
   go_ret
   refine ⟨⟨_,rfl,fun _=>⟨by omega,fun x hx=>?_⟩⟩,hbel⟩
   obtain ⟨j,hj,rfl⟩:=List.getElem_of_mem hx
   exact hall2.out j _ (by omega) (List.getElem?_eq_getElem hj)
set_option maxRecDepth 100000 in
theorem name_calls11 (k:Nat) (hk:k≤1000) (w:World):Calls Tryz.prog 73 #[.int .i64 k] w fun e w'=>(∃ c:UInt8,e = .returned (.string (B [c])))∧Below w.heap.size w w':=by
 have h1:IntKind.i64.wrap ((97:Int)+(k:Int)%20)=97+(k:Int)%20:=IntWalk.i64_in _ (by omega)
 have hs:=Tryz.str_of_one w ((97:Int)+(k:Int)%20)
 go_enter Tryz.func73,Tryz.ntmps73
 go_wp2
 go_ret
 exact ⟨⟨_,rfl⟩,(Below.refl _ _).alloc (Nat.le_refl _) _⟩
end Go.Proofs.YtbcbmjdmlcldjaaGreatDoor
namespace Go.Proofs.YtbcbmjdmlcldjaaGreatDoor
open Go.ChangeShapes Go.WideShapes Go.ChangeAt Go.RowKit
structure SideL where
 seeds:List SdL
 srv:Txt
 cli:Txt
 cut:Txt
 wants:Txt
 common:Txt
structure SideOk (w:World) (vs v1 v2 v3 v4 v5:Value) (x:SideL):Prop where
 seeds:Seeds w vs x.seeds
 srv:SliceAt w 1 byC v1 x.srv
 cli:SliceAt w 1 byC v2 x.cli
 cut:SliceAt w 1 byC v3 x.cut
 wants:SliceAt w 1 byC v4 x.wants
 common:SliceAt w 1 byC v5 x.common
theorem SideOk.below {w w':World} {vs v1 v2 v3 v4 v5:Value} {x:SideL} (h:SideOk w vs v1 v2 v3 v4 v5 x) (hb:Below w.heap.size w w'):SideOk w' vs v1 v2 v3 v4 v5 x:=⟨h.seeds.below hb,h.srv.below hb,h.cli.below hb,h.cut.below hb,h.wants.below hb,h.common.below hb⟩
section
variable {H:Type} {enc:TypeId×Value→H} {w:World} {base:Nat} {sp:Nat→Bool} {held:Bool}
set_option maxRecDepth 200000 in
theorem open_side {base0:Nat} {v:Value} {d:DataW H} {p:List MemPlace} (hv:Value.okWide Tryz.prog w .any base0 25 v) (h0:DataW.Trod enc Tryz.prog w base sp held 25 v d p) : ∃ (vs v1 v2 v3 v4 v5:Value) (n:Int) (x:SideL),v = .agg #[vs,v1,v2,v3,v4,v5, .int .i64 n]∧SideOk w vs v1 v2 v3 v4 v5 x:=by
 simp only [Value.okWide,Tryz.underlying25] at hv
 obtain ⟨cs0,rfl,hsz,hvv⟩:=hv
 obtain ⟨fuel,hf0⟩:=h0
 have h7:Tryz.prog.cellsOf 25=7:=by kernel_rfl
 have hl:cs0.toList.length=7:=by rw [Array.length_toList,hsz,h7]
 have hf1:DataW.trod enc Tryz.prog w base sp held fuel 25 cs0.toList=some (d,p):=hf0
 obtain ⟨cs,hcs⟩ : ∃ cs,cs0.toList=cs:=⟨_,rfl⟩
 rw [hcs] at hl hf1
 obtain ⟨ys,n',hn',hy,hlen,hyl,hf⟩:=DataW.trod_struct Tryz.underlying25 hf1
 have hyl:ys.length=7:=hyl
 have h0:=hf 0 _ rfl
 rw [List.getElem?_eq_getElem (show 0<ys.length by omega)] at h0
 have h1:=hf 1 _ rfl
 rw [List.getElem?_eq_getElem (show 1<ys.length by omega)] at h1
 have h2:=hf 2 _ rfl
 rw [List.getElem?_eq_getElem (show 2<ys.length by omega)] at h2
 have h3:=hf 3 _ rfl
 rw [List.getElem?_eq_getElem (show 3<ys.length by omega)] at h3
 have h4:=hf 4 _ rfl
 rw [List.getElem?_eq_getElem (show 4<ys.length by omega)] at h4
 have h5:=hf 5 _ rfl
 rw [List.getElem?_eq_getElem (show 5<ys.length by omega)] at h5
 have h6:=hf 6 _ rfl
 rw [List.getElem?_eq_getElem (show 6<ys.length by omega)] at h6
 have cI:Tryz.prog.cellsOf 3=1:=by kernel_rfl
 have cU:Tryz.prog.cellsOf 5=1:=by kernel_rfl
 have cB:Tryz.prog.cellsOf 23=1:=by kernel_rfl
 have cS:Tryz.prog.cellsOf 22=1:=by kernel_rfl
 obtain ⟨v0,e0,t0⟩:=zA0 (by
  show ((cs.drop 0).take (Tryz.prog.cellsOf 22)).length=1
  rw [cS,List.length_take,List.length_drop];omega) h0
 obtain ⟨v1,e1,t1⟩:=zA0 (by
  show ((cs.drop 1).take (Tryz.prog.cellsOf 23)).length=1
  rw [cB,List.length_take,List.length_drop];omega) h1
 obtain ⟨v2,e2,t2⟩:=zA0 (by
  show ((cs.drop 2).take (Tryz.prog.cellsOf 23)).length=1
  rw [cB,List.length_take,List.length_drop];omega) h2
 obtain ⟨v3,e3,t3⟩:=zA0 (by
  show ((cs.drop 3).take (Tryz.prog.cellsOf 23)).length=1
  rw [cB,List.length_take,List.length_drop];omega) h3
 obtain ⟨v4,e4,t4⟩:=zA0 (by
  show ((cs.drop 4).take (Tryz.prog.cellsOf 23)).length=1
  rw [cB,List.length_take,List.length_drop];omega) h4
 obtain ⟨v5,e5,t5⟩:=zA0 (by
  show ((cs.drop 5).take (Tryz.prog.cellsOf 23)).length=1
  rw [cB,List.length_take,List.length_drop];omega) h5
 obtain ⟨n6,e6,_,_⟩:=DataW.trod_int Tryz.underlying3 h6
 obtain ⟨l0,hl0,ho0⟩:=zBr sdC 4 (by omega) (SdOk w) Tryz.underlying22 (by kernel_rfl) (fun y _=>rfl) elem_seed t0
 obtain ⟨l1,hl1,_⟩:=zBr byC 1 (by omega) (fun _=>True) Tryz.underlying23 cU (fun y _=>rfl) zCm t1
 obtain ⟨l2,hl2,_⟩:=zBr byC 1 (by omega) (fun _=>True) Tryz.underlying23 cU (fun y _=>rfl) zCm t2
 obtain ⟨l3,hl3,_⟩:=zBr byC 1 (by omega) (fun _=>True) Tryz.underlying23 cU (fun y _=>rfl) zCm t3
 obtain ⟨l4,hl4,_⟩:=zBr byC 1 (by omega) (fun _=>True) Tryz.underlying23 cU (fun y _=>rfl) zCm t4
 obtain ⟨l5,hl5,_⟩:=zBr byC 1 (by omega) (fun _=>True) Tryz.underlying23 cU (fun y _=>rfl) zCm t5
 have e0':(cs.drop 0).take 1=[v0]:=by rw [←cS];exact e0
 have e1':(cs.drop 1).take 1=[v1]:=by rw [←cB];exact e1
 have e2':(cs.drop 2).take 1=[v2]:=by rw [←cB];exact e2
 have e3':(cs.drop 3).take 1=[v3]:=by rw [←cB];exact e3
 have e4':(cs.drop 4).take 1=[v4]:=by rw [←cB];exact e4
 have e5':(cs.drop 5).take 1=[v5]:=by rw [←cB];exact e5
 have e6':(cs.drop 6).take 1=[.int .i64 n6]:=by rw [←cI];exact e6
 have hcsE:cs=[v0,v1,v2,v3,v4,v5, .int .i64 n6]:=by
  have:=chain e0' (m:=1) rfl
  rw [List.drop_zero,chain e1' (m:=2) rfl,chain e2' (m:=3) rfl,chain e3' (m:=4) rfl,chain e4' (m:=5) rfl,chain e5' (m:=6) rfl,chain e6' (m:=7) rfl,List.drop_of_length_le (by omega)] at this
  exact this
 refine ⟨v0,v1,v2,v3,v4,v5,n6,⟨l0,l1,l2,l3,l4,l5⟩,?_,⟨⟨hl0,ho0⟩,hl1,hl2,hl3,hl4,hl5⟩⟩
 congr 1
 apply Array.ext'
 rw [hcs,hcsE]
end
end Go.Proofs.YtbcbmjdmlcldjaaGreatDoor
namespace Go.Proofs.YtbcbmjdmlcldjaaGreatDoor
open Go.RowKit
section
attribute [local go_sem ↓] ldvI_eq ldvS_eq stvI_eq
def PickR (e:Ending):Prop := ∃ x b,e = .returned (.tuple #[.agg (u8s x), .bool b])∧x.length=32
set_option maxRecDepth 100000 in
set_option maxHeartbeats 8000000 in
theorem zDe {w:World} {vm:Value} {es:List DiL} (h:DocSt w vm es) (ids:List Txt) (hok : ∀ x∈ids,x.length=32) (hil:ids.length≤1000) (vi:Value) (hi:Ids w vi ids) (n:Nat) (hn:n≤100000) (kind:Int) :
 Calls Tryz.prog 72 #[.agg #[vm],vi, .int .i64 n, .int .i64 kind] w fun e w'=>PickR e∧Below w.heap.size w w':=by
 have hzI:=zeroIdV
 have hrb:=fun W=>run_build (P:=Tryz.prog) W _ _ _ zBP
 have hZ32:(u8s noId).size=32:=by rw [zAh,zAi]
 have hZone:=u8s_one noId
 obtain ⟨W1,hW1⟩ : ∃ W1,w.alloc (.cells #[vm] 29)=W1:=⟨_,rfl⟩
 have s1:Blk W1 w.heap.size 29 #[vm]:=by rw [←hW1];exact Blk.new _ _ _
 have b1:Below w.heap.size w W1:=by rw [←hW1];exact (Below.refl _ _).alloc (Nat.le_refl _) _
 obtain ⟨W2,hW2⟩ : ∃ W2,W1.alloc (.cells (u8s noId) 53)=W2:=⟨_,rfl⟩
 have z2:Blk W2 W1.heap.size 53 (u8s noId):=by rw [←hW2];exact Blk.new _ _ _
 have bb2:Below W1.heap.size W1 W2:=by rw [←hW2];exact (Below.refl _ _).alloc (Nat.le_refl _) _
 have s2:=s1.below bb2 s1.lt
 have b2:=bthen b1 b1.size bb2
 have hsz:(Tryz.prog.info? 53).map (·.size)=some (u8s noId).size:=by rw [hZ32];exact sz32
 have hle:=b1.size
 have hle2:=b2.size
 have hkc:=fun (x:Txt) (hx:x.length=32) W (hW:Below W2.heap.size W2 W)=>zAM (h.below (bthen b2 b2.size hW)) x hx
 have l2:=fun W (hW:Below W2.heap.size W2 W)=>zAC (s2.below hW s2.lt)
 obtain ⟨A,cap,rfl,hcap1,hcap2,hat⟩:=hi
 clear h
 obtain ⟨Z,hZ⟩ : ∃ Z,u8s noId=Z:=⟨_,rfl⟩
 rw [hZ] at z2 hW2 hsz hZ32 hZone hrb hzI
 have hZ:=Lib.hid hZ
 go_enter Tryz.func72,Tryz.ntmps72
 go_wp2
 go_loopw [10,11] (fun vo vi wr => ∃ (k:Nat) (acc:List Txt),vi = .int .i64 k∧k≤ids.length∧acc.length≤k∧Hid (∀ x∈acc,x.length=32)∧OwnIds wr W2.heap.size vo acc∧Below W2.heap.size W2 wr) (fun _ vi _=>ids.length-(intOf vi).toNat)
 case atStart=>exact ⟨0,[],rfl,by omega,by simp,Lib.hid (fun x hx=>by simp at hx),World.ownsRow_nil _ _ _ _,Below.refl _ _⟩
 case round=>
  obtain ⟨k,acc,rfl,hk,hal,hall,hown,hbel⟩:=hrel
  by_cases hlt:k<ids.length
  ·have hki:(k:Int)<(ids.length:Int):=by omega
   obtain ⟨ga,oa,rfl,hga,hca⟩:=hat (by omega)
   obtain ⟨x,hx⟩ : ∃ x,ids[k]?=some x:=⟨_,List.getElem?_eq_getElem hlt⟩
   have hxi:=hok x (List.mem_of_getElem? hx)
   have hlx : ∀ W,Below W2.heap.size W2 W→(ldvI ⟨ga,oa+k*32,none⟩).run Tryz.prog W = .ok (.agg (u8s x)) W:=fun W hW=>by
    have hr:=zAc (hca k x hx) hga (bthen b2 b2.size hW)
    exact zAb (show World.rangeAt W ga (oa+k*32) (u8s x).toList from hr) hxi
   have hkx:=hkc x hxi
   obtain ⟨K,hK⟩ : ∃ K,kindS (es.map (·.st)) x=K:=⟨_,rfl⟩
   simp only [hK] at hkx
   have hkl:acc.length+1≤9223372036854775807:=by omega
   have hm2:(acc.length+1)*32≤140737488355328:=by omega
   have hid32:(idC x).toArray.size=32:=by rw [List.size_toArray,idC_len hxi]
   have hidl:(idC x).toArray.size=1*32:=hid32
   have hid1 : ∀ u∈(idC x).toArray.toList,u.oneCell'=true:=by rw [List.toList_toArray];exact idC_one x
   have hXC:(idC x).toArray=u8s x:=by simp [idC]
   rw [hXC] at hid32 hidl hid1
   have hall2:Hid (∀ y∈acc++[x],y.length=32):=Lib.hid fun y hy=>by
    rcases List.mem_append.1 hy with hy | hy
    ·exact hall.out y hy
    ·rw [List.mem_singleton.1 hy];exact hxi
   have hXC:=Lib.hid hXC
   have hrow:Hid (rowsOf idC (acc++[x])=rowsOf idC acc++(u8s x).toList):=Lib.hid (by rw [zAo,zAp];rfl)
   generalize u8s x=XC at *
   clear hx hca hat hok hK hkc
   go_wp2
   refine zAr 7 (by kernel_rfl) (by kernel_rfl) (by kernel_rfl) (by kernel_rfl) ?_
   simp only [exSp]
   iterate 7 apply Exists.intro
   repeat
    first
     | ((with_reducible apply lx0_ex)
        ·(go_simp;done)
        apply Exists.intro
        apply And.intro
        ·apply Eq.refl
        apply And.intro
        ·intro W hW hD
         have hW2:=hbel.trans (hW.mono hbel.size)
         have q0:=l2 W hW2
         have q1:=hlx W hW2
         have q2:=hkx W hW2
         go_simp
         first
          | rfl
          | (with_reducible exact q2)
        simp only [Act.put,zA,zB,zC])
     | ((with_reducible apply zAJ)
        ·(first | rfl | (go_simp;done))
        ·apply Eq.refl
        simp only [Act.put,zA,zB,zC])
   refine lx0_nil ?_ fun w5 hW5 hD5=>?_
   ·exact List.nodup_nil
   have b5:=hbel.trans (hW5.mono hbel.size)
   have own5:=zAd hown hW5
   have sz5:=b5.size
   have lx5:=hlx _ b5
   clear hD5 hkx hlx l2
   have kk:=Lib.hid hki
   cases e1:(K==kind)<;>cases e2:(kind==(0:Int))<;>cases e3:(kind==(9:Int))<;>cases e4:decide (K<3)
   all_goals
    go_wp2_with (first
     | ((with_reducible refine zAq (.tmp 44) Tryz.idsTy XC hid32 (by omega) ?_ ?_);rfl)
     | (at_builtin
        (with_reducible refine zAn (.tmp 40) (.tmp 45) 1 _ Tryz.idsTy own5 XC hidl hid1 hkl hm2 sz5 ?_ ?_ ?_);rfl;rfl
        intro v6 w6 hv6 hb6 hg6 hn6
        have b6:=b5.trans hb6
        clear hg6 hn6))
    go_roundw
    case rel=>first
     | exact ⟨k+1,acc,by go_num,by omega,by omega,hall,own5,b5⟩
     | exact ⟨k+1,acc++[x],by go_num,by omega,by simp;omega,hall2,by unfold OwnIds;rw [List.length_append,hrow.out];exact hv6,b6⟩
    case measure=>simp [intOf];omega
  ·have hki : ¬ (k:Int)<(ids.length:Int):=by omega
   have hz3:=z2.below hbel z2.lt
   have b3:=bthen b2 b2.size hbel
   clear hat hok hkc l2
   cases acc with
   | nil=>
     obtain ⟨A3,c3,rfl⟩:=zAl hown
     have hl0:(([]:List Txt).length:Int)=0:=rfl
     go_wp2_with (first
      | (refine wpList_store_row rfl 53 (.tmp 8) (.tmp 50) rfl W1.heap.size Z rfl rfl _ _ hz3 hsz rfl hZone ?_))
     refine bodyPost_ret (zAg rfl _ _ W1.heap.size _ _ _ _ rfl (setRow_heap _ _ _ _ _ _ hz3) Tryz.underlying53 rfl hsz) rfl ⟨⟨noId,_,by rw [hZ.out];rfl,zAi⟩,zAa b3 hle _⟩
   | cons y ys=>
     obtain ⟨m,hm⟩ : ∃ m:Nat,((y::ys).length:Int)-1-(n:Int)%((y::ys).length:Int)=(m:Int):=by
      refine Int.eq_ofNat_of_zero_le ?_
      have:=Int.emod_lt_of_pos (n:Int) (show (0:Int)<((y::ys).length:Int) by simp only [List.length_cons];omega)
      omega
     have hmn:=Int.emod_nonneg (n:Int) (show ((y::ys).length:Int)≠0 by simp only [List.length_cons];omega)
     have hml:m<(y::ys).length:=by omega
     have hL0:0<(y::ys).length:=by simp
     have hLi:(0:Int)<((y::ys).length:Int):=by omega
     have hLn : ¬ ((y::ys).length:Int)=0:=by omega
     have hLb:(((y::ys).length:Int)==0)=false:=by simpa using hLn
     obtain ⟨x,hx⟩ : ∃ x,(y::ys)[m]?=some x:=⟨_,List.getElem?_eq_getElem hml⟩
     have hxi:=hall.out x (List.mem_of_getElem? hx)
     have hsl:=SliceAt.of_own (fun e h=>idC_len (hall.out e h)) hown
     obtain ⟨A3,c3,rfl,hc31,hc32,hat3⟩:=hsl
     obtain ⟨g3,o3,rfl,hg3,hc3⟩:=hat3 hL0
     have hlx:(ldvI ⟨g3,o3+m*32,none⟩).run Tryz.prog wr = .ok (.agg (u8s x)) wr:=zAb (show World.rangeAt wr g3 (o3+m*32) (u8s x).toList from hc3 m x hx) hxi
     have hx32:(u8s x).size=32:=by rw [zAh,hxi]
     have hxs:(Tryz.prog.info? 53).map (·.size)=some (u8s x).size:=by rw [hx32];exact sz32
     have hxo:=u8s_one x
     have hzx:Z.size=(u8s x).size:=by rw [hZ32,hx32]
     have hmi:(m:Int)<((y::ys).length:Int):=by omega
     have hLm:((y::ys).length:Int)≤1000:=by omega
     generalize (y::ys).length=LN at *
     have hw1:IntKind.i64.wrap ((LN:Int)-1)=(LN:Int)-1:=IntWalk.i64_in _ (by omega)
     have hw2:IntKind.i64.wrap ((n:Int)%(LN:Int))=(n:Int)%(LN:Int):=IntWalk.i64_in _ (by have:=Int.emod_lt_of_pos (n:Int) hLi;omega)
     have hw3:IntKind.i64.wrap ((m:Int))=(m:Int):=IntWalk.i64_in _ (by omega)
     clear hx hc3 hat3 hown hall hal
     go_wp2_with (first
      | (refine wpList_store_row rfl 53 (.tmp 8) (.tmp 61) rfl W1.heap.size (u8s x) rfl rfl _ _ hz3 hxs hzx hxo ?_))
     refine bodyPost_ret (zAg rfl _ _ W1.heap.size _ _ _ _ rfl (setRow_heap _ _ _ _ _ _ hz3) Tryz.underlying53 rfl hxs) rfl ⟨⟨x,_,rfl,hxi⟩,zAa b3 hle _⟩
end
end Go.Proofs.YtbcbmjdmlcldjaaGreatDoor
