/- Texts of this claim, laid together: StoI, StL, StM, RsS, OpenRi, Tab. -/
import Derived.Test.YtodebknbchaccaaGreatDoorMl
import Derived.Test.YtodebknbchaccaaGreatDoorCards
import Derived.WalkKit
import Derived.ProofKit
import Derived.OpenShut
import Derived.Deep.DeepHandedRow
import Derived.Lib.LaidTab
namespace Go.Proofs.YtodebknbchaccaaGreatDoor
open Go.RowKit
section
attribute [local go_sem ↓] ldvI_eq ldvO_eq
def PutAt (w:World) (base p:Nat) (vl:Value) (s':List StL) (w':World):Prop := ∃ vl',StoAt w' base p vl' s'∧Far [some p,vl.ownBlock] w w'∧Newer w vl vl'
set_option maxRecDepth 100000 in
set_option maxHeartbeats 8000000 in
theorem stoPut_calls {w:World} {base p:Nat} {vl:Value} {s:List StL} (hB:base≤w.heap.size) (h:StoAt w base p vl s) (t:Txt) (ht:t.length≤1000000) (hK:TabK w) (hf:s.length<500000) :
 Calls Tryz.prog 38 #[.pointer (some ⟨p,0,none⟩), .string (B t)] w fun e w'=>e = .returned (.tuple #[.agg (u8s (putI t)), .int .i64 (putC t)])∧PutAt w base p vl (putS s t) w':=by
 have hzI:=zeroIdV
 have hrb:=fun W=>run_build (P:=Tryz.prog) W _ _ _ zCc
 have hZ32:(u8s noId).size=32:=by rw [zAh,zAc]
 have hZone:=u8s_one noId
 obtain ⟨W0,hW0⟩ : ∃ W0,w.alloc (.cells (u8s noId) 28)=W0:=⟨_,rfl⟩
 have z0:Blk W0 w.heap.size 28 (u8s noId):=by rw [←hW0];exact Blk.new _ _ _
 have b0:Below w.heap.size w W0:=by rw [←hW0];exact (Below.refl _ _).alloc (Nat.le_refl _) _
 have hsz : ∀ cs:Array Value,cs.size=32→(Tryz.prog.info? 28).map (·.size)=some cs.size:=fun cs h=>by rw [h];exact sz32
 have hde:=Lib.hid (zDS t (by omega) W0)
 have hzo:=zeroObj
 have hz72:=zAu
 have hplw:=h.lt
 have hD:=Lib.hid h
 have hn0:(List.replicate 32 (0:UInt8))=noId:=rfl
 cases hd:decO t with
 | none=>
   have hpi:putI t=noId:=by unfold putI;rw [hd];exact hn0
   have hpc:putC t=2:=by unfold putC;rw [hd]
   have hps:putS s t=s:=by unfold putS;rw [hd]
   rw [hpi,hpc,hps]
   rw [hd] at hde
   have hde:Hid (Calls Tryz.prog 70 #[.string (B t)] W0 fun e w'=>e = .returned (.tuple #[.agg zObj, .int .i64 2])∧Below W0.heap.size W0 w'):=hde
   have hzone:zObj.all (·.oneCell')=true:=zAz zeroO none none 0 0 0 0
   generalize u8s noId=Z at *
   generalize zObj=ZO at *
   clear hd hpi hpc hps hn0
   go_enter Tryz.func38,Tryz.ntmps38
   go_wp2_with (first
    | ((with_reducible refine hde.out.mono ?_);rintro e w1 ⟨rfl,bb1⟩
       have b1:=bthen b0 b0.size bb1
       have z1:=z0.below bb1 z0.lt)
    | ((with_reducible refine lit_new 74 (.tmp 6) (.tmp 17) ZO 72 szObj hz72 hzone _ ?_ ?_ ?_ ?_)
       ·first | exact hz72 | rfl
       ·rfl
       ·rfl
       intro W2 hb2 hbl2
       have b2:=bthen b1 b1.size hbl2
       have z2:=z1.below hbl2 z1.lt)
    | (refine wpList_store_row rfl 28 (.tmp 4) (.tmp 21) rfl w.heap.size Z rfl rfl _ _ z2 (hsz Z hZ32) rfl hZone ?_))
   refine bodyPost_ret (zAe rfl _ _ w.heap.size _ _ _ _ rfl (setRow_heap _ _ _ _ _ _ z2) Tryz.underlying28 rfl (hsz Z hZ32)) rfl ⟨rfl,?_⟩
   have hb:=zAa b2 (Nat.le_refl _) Z
   exact ⟨vl,hD.out.below hb,Far.of_below hb,Newer.refl _ _⟩
 | some o=>
   have hpi:putI t=shaOf t:=by unfold putI;rw [hd]
   have hpc:putC t=0:=by unfold putC;rw [hd]
   have hps:putS s t=if hasK StL.id s (shaOf t) then s else insK StL.id s ⟨shaOf t,t⟩:=by unfold putS;rw [hd]
   have hokP:=h.ok.put t hf
   rw [hpi,hpc]
   rw [hps] at hokP ⊢
   rw [hd] at hde
   have hde:Hid (Calls Tryz.prog 70 #[.string (B t)] W0 fun e w'=>(∃ A1 A2 k1 k2,e = .returned (.tuple #[.agg (objC o (.slice A1 o.ents.length k1) (.slice A2 o.pars.length k2)).toArray, .int .i64 0])∧ObjV w' (.slice A1 o.ents.length k1) (.slice A2 o.pars.length k2) o)∧Below W0.heap.size W0 w'):=Lib.hid (hde.out.mono fun e w' ⟨⟨A1,A2,k1,k2,h1,h2,_⟩,hb⟩=>⟨⟨A1,A2,k1,k2,h1,h2⟩,hb⟩)
   have hid:=fun W (hb:Below w.heap.size w W)=>objId_calls t (by omega) W (hK.below hb)
   have hn32:=zAQ t
   have hxok:StitOk ⟨shaOf t,t⟩:=⟨hn32,by show t.length≤_;omega⟩
   obtain ⟨n,hn⟩ : ∃ n,shaOf t=n:=⟨_,rfl⟩
   rw [hn] at hid hn32 hxok hokP ⊢
   have hN32:(u8s n).size=32:=by rw [zAh,hn32]
   have hNone:=u8s_one n
   have hsI:(Tryz.prog.info? 28).map (·.size)=some (u8s n).toList.length:=by rw [zAW,hn32];exact sz32
   have hldn : ∀ W g,Blk W g 28 (u8s n)→(ldvI ⟨g,0,none⟩).run Tryz.prog W = .ok (.agg (u8s n)) W:=fun W g hb=>by
    have:=run_loadVar_mid (P:=Tryz.prog) W g 0 28 (u8s n).toList _ (zAj hb) Tryz.underlying28 rfl hsI
    rwa [Array.toArray_toList] at this
   have hpl:=fun W (hb:Below w.heap.size w W)=>zCS (hD.out.below hb) n hn32
   have hPle:posK StL.id s n≤s.length:=posK_le
   have hZ32':(u8s noId).size=(u8s n).size:=by rw [hZ32,hN32]
   clear hd hpi hpc hps hn0 hn
   cases hh:hasK StL.id s n with
   | true=>
     rw [hh] at hpl hokP
     simp only [if_true] at hokP ⊢
     generalize posK StL.id s n=P at *
     go_enter Tryz.func38,Tryz.ntmps38
     go_wp2_with (first
      | ((with_reducible refine hde.out.mono ?_);rintro e w1 ⟨⟨A1,A2,k1,k2,rfl,hv1⟩,bb1⟩
         have b1:=bthen b0 b0.size bb1
         have z1:=z0.below bb1 z0.lt
         have hc72:(objC o (.slice A1 o.ents.length k1) (.slice A2 o.pars.length k2)).toArray.size=72:=by rw [List.size_toArray,zAC hv1.ok]
         have hcone:=zAz o A1 A2 o.ents.length k1 o.pars.length k2)
      | ((with_reducible refine lit_new 74 (.tmp 6) (.tmp 17) (objC o (.slice A1 o.ents.length k1) (.slice A2 o.pars.length k2)).toArray 72 szObj hc72 hcone _ ?_ ?_ ?_ ?_)
         ·first | exact hz72 | rfl
         ·rfl
         ·rfl
         intro W2 hb2 hbl2
         have b2:=bthen b1 b1.size hbl2
         have z2:=z1.below hbl2 z1.lt)
      | ((with_reducible refine (hid _ b2).mono ?_);rintro e w3 ⟨rfl,bb3⟩
         have b3:=bthen b2 b2.size bb3
         have z3:=z2.below bb3 z2.lt)
      | ((with_reducible refine lit_new 28 (.tmp 8) (.tmp 23) (u8s n) 32 sz32 hN32 hNone _ ?_ ?_ ?_ ?_)
         ·first | exact hZ32 | rfl
         ·rfl
         ·rfl
         intro W4 hb4 hbl4
         have b4:=bthen b3 b3.size hbl4
         have z4:=z3.below hbl4 z3.lt
         have ld4:=hldn _ _ hb4)
      | ((with_reducible refine (hpl _ b4).mono ?_);rintro e w5 ⟨rfl,bb5⟩
         have b5:=bthen b4 b4.size bb5
         have z5:=z4.below bb5 z4.lt
         have ld5:=hldn _ _ (hb4.below bb5 hb4.lt))
      | (refine wpList_store_row rfl 28 (.tmp 4) (.tmp 45) rfl w.heap.size (u8s n) rfl rfl _ _ z5 (hsz _ hN32) hZ32' hNone ?_))
     refine bodyPost_ret (zAe rfl _ _ w.heap.size _ _ _ _ rfl (setRow_heap _ _ _ _ _ _ z5) Tryz.underlying28 rfl (hsz _ hN32)) rfl ⟨rfl,?_⟩
     have hb:=zAa b5 (Nat.le_refl _) (u8s n)
     exact ⟨vl,hD.out.below hb,Far.of_below hb,Newer.refl _ _⟩
   | false=>
     rw [hh] at hpl hokP
     simp only [Bool.false_eq_true,if_false] at hokP ⊢
     unfold insK at hokP ⊢
     simp only at hokP ⊢
     generalize posK StL.id s n=P at *
     obtain ⟨s',hs'⟩ : ∃ s',s.take P++[(⟨n,t⟩:StL)]++s.drop P=s':=⟨_,rfl⟩
     rw [hs'] at hokP ⊢
     have HS:=Lib.hid hs'
     clear hs'
     go_enter Tryz.func38,Tryz.ntmps38
     go_upto_region 9 with (first
      | ((with_reducible refine hde.out.mono ?_);rintro e w1 ⟨⟨A1,A2,k1,k2,rfl,hv1⟩,bb1⟩
         have b1:=bthen b0 b0.size bb1
         have z1:=z0.below bb1 z0.lt
         have hc72:(objC o (.slice A1 o.ents.length k1) (.slice A2 o.pars.length k2)).toArray.size=72:=by rw [List.size_toArray,zAC hv1.ok]
         have hcone:=zAz o A1 A2 o.ents.length k1 o.pars.length k2)
      | ((with_reducible refine lit_new 74 (.tmp 6) (.tmp 17) (objC o (.slice A1 o.ents.length k1) (.slice A2 o.pars.length k2)).toArray 72 szObj hc72 hcone _ ?_ ?_ ?_ ?_)
         ·first | exact hz72 | rfl
         ·rfl
         ·rfl
         intro W2 hb2 hbl2
         have b2:=bthen b1 b1.size hbl2
         have z2:=z1.below hbl2 z1.lt)
      | ((with_reducible refine (hid _ b2).mono ?_);rintro e w3 ⟨rfl,bb3⟩
         have b3:=bthen b2 b2.size bb3
         have z3:=z2.below bb3 z2.lt)
      | ((with_reducible refine lit_new 28 (.tmp 8) (.tmp 23) (u8s n) 32 sz32 hN32 hNone _ ?_ ?_ ?_ ?_)
         ·first | exact hZ32 | rfl
         ·rfl
         ·rfl
         intro W4 hb4 hbl4
         have b4:=bthen b3 b3.size hbl4
         have z4:=z3.below hbl4 z3.lt
         have hgI:w.heap.size≤w3.heap.size:=b3.size
         have ld4:=hldn _ _ hb4)
      | ((with_reducible refine (hpl _ b4).mono ?_);rintro e w0 ⟨rfl,bb5⟩
         have b5:=bthen b4 b4.size bb5
         have z5:=z4.below bb5 z4.lt
         have hI5:=hb4.below bb5 hb4.lt))
     have hgI0:=z3.lt
     obtain ⟨gI,hgIe⟩ : ∃ gI,w3.heap.size=gI:=⟨_,rfl⟩
     rw [hgIe] at hI5 hgI0 ⊢
     have hD0:=hD.out.below b5
     have hplw2:p<w.heap.size:=hplw
     have hlv0 : ∀ q,vl.ownBlock=some q→q<w.heap.size:=fun q hq=>(World.ownsRow.lt hD.out.own q hq).2
     have hok:=hD.out.ok
     have hB:base≤w0.heap.size:=Nat.le_trans hB b5.size
     replace hD:=Lib.hid hD0
     have hlv : ∀ q,vl.ownBlock=some q→q<w0.heap.size:=fun q hq=>(World.ownsRow.lt hD.out.own q hq).2
     have hPl:=hPle
     have ldn:=fun W (hW:Below w0.heap.size w0 W)=>hldn W gI (hI5.below hW hI5.lt)
     clear hde hid hpl b0 b1 b2 b3 b4 z0 z1 z2 z3 z4 ld4 bb1 bb3 bb5 hv1 hc72 hcone hb2 hbl2 hb4 hbl4 hW0 hD0 hgIe hplw hPle hh hK
     obtain ⟨V,hV⟩ : ∃ V:Nat→Value,V=fun i=>[(.pointer (some ⟨p,0,none⟩)),(.pointer (some ⟨p,0,none⟩)),(.pointer (some ⟨p,0,none⟩)),(.pointer (some ⟨p,0,none⟩)),vl,(.int .i64 P),(.agg (u8s n)),(.string (B t)),(.agg (stitC ⟨n,t⟩).toArray),undef,undef,(.pointer (some ⟨p,0,none⟩)),(.pointer (some ⟨p,0,none⟩)),undef].getD i undef:=⟨_,rfl⟩
     have v0:V 0=(.pointer (some ⟨p,0,none⟩)):=by rw [hV];rfl
     have v1:V 1=(.pointer (some ⟨p,0,none⟩)):=by rw [hV];rfl
     have v2:V 2=(.pointer (some ⟨p,0,none⟩)):=by rw [hV];rfl
     have v3:V 3=(.pointer (some ⟨p,0,none⟩)):=by rw [hV];rfl
     have v4:V 4=vl:=by rw [hV];rfl
     have v5:V 5=(.int .i64 P):=by rw [hV];rfl
     have v6:V 6=(.agg (u8s n)):=by rw [hV];rfl
     have v7:V 7=(.string (B t)):=by rw [hV];rfl
     have v8:V 8=(.agg (stitC ⟨n,t⟩).toArray):=by rw [hV];rfl
     have v11:V 11=(.pointer (some ⟨p,0,none⟩)):=by rw [hV];rfl
     have v12:V 12=(.pointer (some ⟨p,0,none⟩)):=by rw [hV];rfl
     have v13:V 13=undef:=by rw [hV];rfl
     clear hV
     refine zA3 (C:=StPutC w0 base p vl s') (R:=StPutR V w0 base vl ⟨n,t⟩ s') (by kernel_rfl) (by kernel_rfl) (by kernel_rfl) ?_ (StPutC.start w0).drew ?_ ?_
     ·exact zA7 (n:=46) (by kernel_rfl)
     ·intro i o listed a w1 ho hi hL
      have hin:=(zAq hi).1
      have hsz:listed.size=14:=hL.size
      match i,ho with
      | 0,ho=>
        obtain rfl:=(Option.some.inj ho).symm
        have e0:a.tmps[0]?.getD undef=(.pointer (some ⟨p,0,none⟩)):=(zAd a 0).trans (hL.get_old hi (by kernel_rfl))
        have hc:=hL.cls
        refine step_wp rfl rfl ?_
        clear ho hL
        refine wp_val (v:=(.pointer (some ⟨p,0,none⟩))) ?_ ⟨_,rfl,StPutR.mk (by decide) v0.symm,hc.same (by rw [hsz];decide) (by decide),fun _ _ _ h=>h⟩
        clear hi hin hsz v0 v1 v2 v3 v4 v5 v6 v7 v8 v11 v12 v13  hc
        unfold execOp
        go_simp
      | 1,ho=>
        obtain rfl:=(Option.some.inj ho).symm
        have e0:a.tmps[0]?.getD undef=(.pointer (some ⟨p,0,none⟩)):=(zAd a 0).trans (hL.get_old hi (by kernel_rfl))
        have hc:=hL.cls
        refine step_wp rfl rfl ?_
        clear ho hL
        refine wp_val (v:=(.pointer (some ⟨p,0,none⟩))) ?_ ⟨_,rfl,StPutR.mk (by decide) v1.symm,hc.same (by rw [hsz];decide) (by decide),fun _ _ _ h=>h⟩
        clear hi hin hsz v0 v1 v2 v3 v4 v5 v6 v7 v8 v11 v12 v13  hc
        unfold execOp
        go_simp
      | 2,ho=>
        obtain rfl:=(Option.some.inj ho).symm
        have e0:a.tmps[33]?.getD undef=(.pointer (some ⟨p,0,none⟩)):=(zAd a 33).trans ((StPutR.at_ (hi:=by decide) (hL.get_new (j:=1) hi (by kernel_rfl))).trans v1)
        have hc:=hL.cls
        refine step_wp rfl rfl ?_
        clear ho hL
        refine wp_val (v:=(.pointer (some ⟨p,0,none⟩))) ?_ ⟨_,rfl,StPutR.mk (by decide) v2.symm,hc.same (by rw [hsz];decide) (by decide),fun _ _ _ h=>h⟩
        clear hi hin hsz v0 v1 v2 v3 v4 v5 v6 v7 v8 v11 v12 v13  hc
        unfold execOp
        go_simp
      | 3,ho=>
        obtain rfl:=(Option.some.inj ho).symm
        have e0:a.tmps[34]?.getD undef=(.pointer (some ⟨p,0,none⟩)):=(zAd a 34).trans ((StPutR.at_ (hi:=by decide) (hL.get_new (j:=2) hi (by kernel_rfl))).trans v2)
        have hc:=hL.cls
        refine step_wp rfl rfl ?_
        clear ho hL
        refine wp_val (v:=(.pointer (some ⟨p,0,none⟩))) ?_ ⟨_,rfl,StPutR.mk (by decide) v3.symm,hc.same (by rw [hsz];decide) (by decide),fun _ _ _ h=>h⟩
        clear hi hin hsz v0 v1 v2 v3 v4 v5 v6 v7 v8 v11 v12 v13  hc
        unfold execOp
        go_simp
      | 4,ho=>
        obtain rfl:=(Option.some.inj ho).symm
        have e0:a.tmps[35]?.getD undef=(.pointer (some ⟨p,0,none⟩)):=(zAd a 35).trans ((StPutR.at_ (hi:=by decide) (hL.get_new (j:=3) hi (by kernel_rfl))).trans v3)
        have hc:=hL.cls
        refine step_wp rfl rfl ?_
        have hL4:=hL.later (j:=10) hi (by kernel_rfl)
        clear ho hL
        refine wp_val (v:=vl) ?_ ⟨_,rfl,StPutR.mk (by decide) v4.symm,hc.same (by rw [hsz];decide) (by decide),fun _ _ _ h=>h⟩
        have hb0:=hc.a_ (hL4)
        have q:=(hD.out.below hb0).c0
        clear hi hin hsz v0 v1 v2 v3 v4 v5 v6 v7 v8 v11 v12 v13  hc
        unfold execOp
        go_simp
      | 5,ho=>
        obtain rfl:=(Option.some.inj ho).symm
        have e0:a.tmps[9]?.getD undef=(.int .i64 P):=(zAd a 9).trans (hL.get_old hi (by kernel_rfl))
        have hc:=hL.cls
        refine step_wp rfl rfl ?_
        clear ho hL
        refine wp_val (v:=(.int .i64 P)) ?_ ⟨_,rfl,StPutR.mk (by decide) v5.symm,hc.same (by rw [hsz];decide) (by decide),fun _ _ _ h=>h⟩
        clear hi hin hsz v0 v1 v2 v3 v4 v5 v6 v7 v8 v11 v12 v13  hc
        unfold execOp
        go_simp
      | 6,ho=>
        obtain rfl:=(Option.some.inj ho).symm
        have e0:a.tmps[8]?.getD undef=(.pointer (some ⟨gI,0,none⟩)):=(zAd a 8).trans (hL.get_old hi (by kernel_rfl))
        have hc:=hL.cls
        refine step_wp rfl rfl ?_
        have hL8:=hL.later (j:=8) hi (by kernel_rfl)
        have hL9:listed.getD 9 false=false:=hL.later2 hL8 (by kernel_rfl)
        have hL6:listed.getD 10 false=false:=hL.later2 hL9 (by kernel_rfl)
        clear ho hL
        refine wp_val (v:=(.agg (u8s n))) ?_ ⟨_,rfl,StPutR.mk (by decide) v6.symm,hc.same (by rw [hsz];decide) (by decide),fun _ _ _ h=>h⟩
        have hb0:=hc.a_ (hL6)
        have q:=ldn w1 hb0
        clear hi hin hsz v0 v1 v2 v3 v4 v5 v6 v7 v8 v11 v12 v13  hc
        unfold execOp
        go_simp
      | 7,ho=>
        obtain rfl:=(Option.some.inj ho).symm
        have e0:a.tmps[1]?.getD undef=(.string (B t)):=(zAd a 1).trans (hL.get_old hi (by kernel_rfl))
        have hc:=hL.cls
        refine step_wp rfl rfl ?_
        clear ho hL
        refine wp_val (v:=(.string (B t))) ?_ ⟨_,rfl,StPutR.mk (by decide) v7.symm,hc.same (by rw [hsz];decide) (by decide),fun _ _ _ h=>h⟩
        clear hi hin hsz v0 v1 v2 v3 v4 v5 v6 v7 v8 v11 v12 v13  hc
        unfold execOp
        go_simp
      | 8,ho=>
        obtain rfl:=(Option.some.inj ho).symm
        have e0:a.tmps[38]?.getD undef=(.agg (u8s n)):=(zAd a 38).trans ((StPutR.at_ (hi:=by decide) (hL.get_new (j:=6) hi (by kernel_rfl))).trans v6)
        have e1:a.tmps[39]?.getD undef=(.string (B t)):=(zAd a 39).trans ((StPutR.at_ (hi:=by decide) (hL.get_new (j:=7) hi (by kernel_rfl))).trans v7)
        have hc:=hL.cls
        refine step_wp rfl rfl ?_
        clear ho hL
        refine build_step rfl (built_stit ⟨n,t⟩ hxok.1) (parts2 (slot_is e0) (slot_is e1)) ⟨_,rfl,StPutR.mk (by decide) v8.symm,hc.same (by rw [hsz];decide) (by decide),fun _ _ _ h=>h⟩
      | 9,ho=>
        obtain rfl:=(Option.some.inj ho).symm
        have e0:a.tmps[40]?.getD undef=(.agg (stitC ⟨n,t⟩).toArray):=(zAd a 40).trans ((StPutR.at_ (hi:=by decide) (hL.get_new (j:=8) hi (by kernel_rfl))).trans v8)
        have hc:=hL.cls
        have hla:=hL.later (j:=10) hi (by kernel_rfl)
        have hb0:=hc.a_ hla
        clear ho hL
        refine step_wp rfl rfl ?_
        refine zCg rfl Tryz.stitTy (by decide) (zA8 hxok) (.inl (slot_is e0)) ⟨_,rfl,StPutR.lit (Blk.new _ _ _) hb0.size,?_,fun j u _ h=>StPutR.far (S:=[]) h (Far.of_below ((Below.refl _ _).alloc (Nat.le_refl _) _)) (fun _ _ _=>by simp) (fun _ _ _=>by simp)⟩
        refine StPutC.same ⟨fun _=>hb0.alloc hb0.size _,fun e=>?_,fun e=>?_,?_⟩ (by rw [hsz];decide) (by decide)
        ·rw [hla] at e;cases e
        ·obtain ⟨v',h1,h2,h3,h4⟩:=hc.c_ e
         exact ⟨v',h1.alloc _,World.ownsRow.alloc h2 _,h3,h4.alloc _⟩
        ·exact Nat.le_trans hc.sz (by simp)
      | 10,ho=>
        obtain rfl:=(Option.some.inj ho).symm
        have e0:a.tmps[36]?.getD undef=vl:=(zAd a 36).trans ((StPutR.at_ (hi:=by decide) (hL.get_new (j:=4) hi (by kernel_rfl))).trans v4)
        have e1:a.tmps[37]?.getD undef=(.int .i64 P):=(zAd a 37).trans ((StPutR.at_ (hi:=by decide) (hL.get_new (j:=5) hi (by kernel_rfl))).trans v5)
        have e2:=hL.get_new (j:=9) (t:=41) hi (by kernel_rfl)
        have hc:=hL.cls
        have hla:listed.getD 10 false=false:=by rw [zAr (by rw [hsz];exact hin)];exact (zAq hi).2.1
        have hlb:=hL.later (j:=13) hi (by kernel_rfl)
        have hb0:=hc.a_ hla
        obtain ⟨b,h5,hb5,hge5⟩:=StPutR.litAt e2
        clear ho hL
        refine step_wp rfl rfl ?_
        have hins:=zDI s hok.ok (by have:=hok.few;omega) vl w1 base P b ⟨n,t⟩ hxok (Nat.le_trans hB hc.sz) (zAf hD.out.own hb0) hPl hb5 (fun e=>by have:=hlv _ e;omega)
        refine zCz rfl (vals := #[vl, .int .i64 P, .slice (some ⟨b,0,none⟩) 1 1]) (map3 (slot_is e0) (slot_is e1) h5) (by go_simp) hins ?_
        rintro e w2 ⟨v',rfl,hown2,hg2,hnw2⟩
        rw [HS.out] at hown2
        have hf2:Far [vl.ownBlock] w1 w2:=Far.of_grown hg2
        refine ⟨_,rfl,_,rfl,StPutR.ins hown2 ((Newer.refl w0 vl).then_ hnw2 hc.sz),?_,fun j u hj h=>StPutR.far h hf2 (fun q hq _ hm=>?_) (fun hj10 k hk hm=>?_)⟩
        ·refine ⟨fun e=>?_,fun _ _=>(Far.of_below hb0).then_ hf2 (fun k hk => .inl hk),fun e=>?_,Nat.le_trans hc.sz hf2.size⟩
         ·rw [zA1 (by rw [hsz];decide),if_pos rfl] at e;cases e
         ·rw [zA1 (by rw [hsz];decide),if_neg (by decide),hlb] at e;cases e
        ·simp only [List.mem_singleton] at hm
         have:=hlv q hm.symm
         omega
        ·subst hj10
         rw [hla] at hj;cases hj
      | 11,ho=>
        obtain rfl:=(Option.some.inj ho).symm
        have e0:a.tmps[32]?.getD undef=(.pointer (some ⟨p,0,none⟩)):=(zAd a 32).trans ((StPutR.at_ (hi:=by decide) (hL.get_new (j:=0) hi (by kernel_rfl))).trans v0)
        have hc:=hL.cls
        refine step_wp rfl rfl ?_
        clear ho hL
        refine wp_val (v:=(.pointer (some ⟨p,0,none⟩))) ?_ ⟨_,rfl,StPutR.mk (by decide) v11.symm,hc.same (by rw [hsz];decide) (by decide),fun _ _ _ h=>h⟩
        clear hi hin hsz v0 v1 v2 v3 v4 v5 v6 v7 v8 v11 v12 v13  hc
        unfold execOp
        go_simp
      | 12,ho=>
        obtain rfl:=(Option.some.inj ho).symm
        have e0:a.tmps[43]?.getD undef=(.pointer (some ⟨p,0,none⟩)):=(zAd a 43).trans ((StPutR.at_ (hi:=by decide) (hL.get_new (j:=11) hi (by kernel_rfl))).trans v11)
        have hc:=hL.cls
        refine step_wp rfl rfl ?_
        clear ho hL
        refine wp_val (v:=(.pointer (some ⟨p,0,none⟩))) ?_ ⟨_,rfl,StPutR.mk (by decide) v12.symm,hc.same (by rw [hsz];decide) (by decide),fun _ _ _ h=>h⟩
        clear hi hin hsz v0 v1 v2 v3 v4 v5 v6 v7 v8 v11 v12 v13  hc
        unfold execOp
        go_simp
      | 13,ho=>
        obtain rfl:=(Option.some.inj ho).symm
        have e0:a.tmps[44]?.getD undef=(.pointer (some ⟨p,0,none⟩)):=(zAd a 44).trans ((StPutR.at_ (hi:=by decide) (hL.get_new (j:=12) hi (by kernel_rfl))).trans v12)
        have e1:=hL.get_new (j:=10) (t:=42) hi (by kernel_rfl)
        have hc:=hL.cls
        have hla:listed.getD 10 false=true:=hL.before hi (by kernel_rfl)
        have hls:listed.getD 13 false=false:=(zAr (by rw [hsz];exact hin)).trans (zAq hi).2.1
        have hf0:=hc.b_ hla hls
        obtain ⟨hown2,hnw2⟩:=StPutR.insAt e1
        have hp1:Blk w1 p 159 #[vl]:=hf0.blk hD.out.blk (fun hm=>by simp only [List.mem_singleton] at hm;exact hD.out.ne hm.symm)
        have hvp : ∀ k,(a.eval (.tmp 42)).ownBlock=some k→some k ∉ [some p]:=fun k hk hm=>by
         simp only [List.mem_singleton] at hm
         injection hm with hm
         subst hm
         exact hnw2.ne hD.out.lt hD.out.ne hk
        obtain ⟨A2,c2,hform⟩:=zAm hown2
        have e2:a.tmps[42]?.getD undef = .slice A2 s'.length c2:=(zAd a 42).trans hform
        have c0:w1.cell? ⟨p,0,none⟩=some vl:=by rw [hp1.cell];rfl
        have f0:=hp1.frozen 0
        rw [hform] at hown2 hnw2 hvp
        have hf1:Far [some p] w1 (w1.setCell ⟨p,0,none⟩ (.slice A2 s'.length c2)):=(Far.refl _ _).set_ (p:=⟨p,0,none⟩) (.inl (by simp)) _
        have hown3:=hf1.own hown2 hvp
        have hH : ∀ u:Value,StPutC w0 base p vl s' (listed.setIfInBounds 13 true) (w1.setCell ⟨p,0,none⟩ (.slice A2 s'.length c2)):=fun _=>by
         refine ⟨fun e=>?_,fun _ e=>?_,fun _=>⟨_,hp1.set_ 0 _,hown3,hnw2,(hf0.mono (T:=[some p,vl.ownBlock]) fun k hk=>List.mem_cons_of_mem _ hk).then_ (T:=[some p]) hf1 (fun k hk => .inl (by simp only [List.mem_singleton] at hk;rw [hk];simp))⟩,Nat.le_trans hc.sz hf1.size⟩
         ·rw [zA1 (by rw [hsz];decide),if_neg (by decide),hla] at e;cases e
         ·rw [zA1 (by rw [hsz];decide),if_pos rfl] at e;cases e
        have hK : ∀ j u,listed.getD j false=true→StPutR V w0 base vl ⟨n,t⟩ s' j u w1→StPutR V w0 base vl ⟨n,t⟩ s' j u (w1.setCell ⟨p,0,none⟩ (.slice A2 s'.length c2)):=fun j u _ hju=>StPutR.far hju hf1 (fun q hq _ hm=>by
         simp only [List.mem_singleton] at hm
         injection hm with hm
         have:=hD.out.lt
         omega) (fun hj k hk hm=>by
         rw [hj] at hju
         simp only [List.mem_singleton] at hm
         injection hm with hm
         rw [hm] at hk
         exact (StPutR.insAt hju).2.ne hD.out.lt hD.out.ne hk)
        refine step_wp rfl rfl ?_
        clear hi ho hL hin hc hown2 hnw2 hown3 hvp e1 hform
        refine wp_skip (w':=w1.setCell ⟨p,0,none⟩ (.slice A2 s'.length c2)) ?_ ⟨_,rfl,StPutR.mk (by decide) v13.symm,hH undef,hK⟩
        clear hH hK v0 v1 v2 v3 v4 v5 v6 v7 v8 v11 v12 v13
        unfold execOp
        go_simp
      | (n+14),ho=>exact absurd hin (by simp)
     ·intro a w1 listed hL hall
      have hc:=hL.cls
      obtain ⟨vs,rfl,hR⟩:=hL.frame (by kernel_rfl) (zA7 (n:=46) (by kernel_rfl)) hall
      simp only [putAll,Act.put,List.setIfInBounds_toArray,List.set_cons_zero,List.set_cons_succ]
      simp only [Nat.zero_add,Nat.reduceAdd]
      obtain ⟨v',hp9,hown9,hnw9,hfar9⟩:=hc.c_ (hall 13 (by decide))
      clear hR hc hL
      have hgIn:some gI ∉ [some p,vl.ownBlock]:=fun hm=>by
       rcases List.mem_cons.1 hm with h1 | h1
       ·injection h1 with h1
        omega
       ·have h2:=hlv0 gI (List.mem_singleton.1 h1).symm
        omega
      have hgZn:some w.heap.size ∉ [some p,vl.ownBlock]:=fun hm=>by
       rcases List.mem_cons.1 hm with h1 | h1
       ·injection h1 with h1
        omega
       ·have h2:=hlv0 w.heap.size (List.mem_singleton.1 h1).symm
        omega
      have ld9:=hldn w1 gI (hfar9.blk hI5 hgIn)
      have z9:=hfar9.blk z5 hgZn
      go_wp2_with (first
       | (refine wpList_store_row rfl 28 (.tmp 4) (.tmp 45) rfl w.heap.size (u8s n) rfl rfl _ _ z9 (hsz _ hN32) hZ32' hNone ?_))
      refine bodyPost_ret (zAe rfl _ _ w.heap.size _ _ _ _ rfl (setRow_heap _ _ _ _ _ _ z9) Tryz.underlying28 rfl (hsz _ hN32)) rfl ⟨rfl,?_⟩
      have hf10:Far [some w.heap.size] w1 (w1.setRow w.heap.size (u8s n)):=⟨rfl,rfl,rfl,by simp,fun k _ hk=>setRow_other _ _ _ _ (fun e=>hk (by rw [e];simp))⟩
      have hne1:some p ∉ [some w.heap.size]:=fun hm=>by
       have:=List.mem_singleton.1 hm
       injection this with this
       omega
      have hne2 : ∀ k,v'.ownBlock=some k→some k ∉ [some w.heap.size]:=fun k hk hm=>by
       have h1:=List.mem_singleton.1 hm
       injection h1 with h1
       subst h1
       rcases hnw9 with h2 | h2
       ·have:=hlv0 _ (h2.symm.trans hk)
        omega
       ·have:=h2 _ hk
        have:=z5.lt
        omega
      refine ⟨v',⟨hf10.blk hp9 hne1,hf10.own hown9 hne2,hokP⟩,?_,?_⟩
      ·exact ((Far.of_below b5).then_ hfar9 (fun k hk => .inl hk)).then_ hf10 (fun k hk => .inr (by
        have:=List.mem_singleton.1 hk
        injection this with this
        omega))
      ·rcases hnw9 with h2 | h2
       ·exact .inl h2
       ·exact .inr fun k hk=>Nat.le_trans b5.size (h2 k hk)
end
section
attribute [local go_sem ↓] ldvI_eq ldvS_eq
end
section
attribute [local go_sem ↓] ldvI_eq ldvS_eq
def OfR (w:World) (L:List StL) (e:Ending) (w':World):Prop := ∃ p vl,e = .returned (.pointer (some ⟨p,0,none⟩))∧w.heap.size≤p∧StoAt w' w.heap.size p vl L
set_option maxRecDepth 100000 in
set_option maxHeartbeats 8000000 in
theorem of_calls11 {w:World} {vm:Value} {es:List DiL} (hm:DocSt w vm es) (hf:es.length<490000) (hK:TabK w) :
 Calls Tryz.prog 9 #[.agg #[vm]] w fun e w'=>OfR w (es.map (·.st)) e w'∧Below w.heap.size w w':=by
 obtain ⟨W1,hW1⟩ : ∃ W1,w.alloc (.cells #[vm] 34)=W1:=⟨_,rfl⟩
 have s1:Blk W1 w.heap.size 34 #[vm]:=by rw [←hW1];exact Blk.new _ _ _
 have b1:Below w.heap.size w W1:=by rw [←hW1];exact (Below.refl _ _).alloc (Nat.le_refl _) _
 have hlt0:=s1.lt
 have hnw:=Lib.hid (zDY W1)
 have hzI:=zeroIdV
 have hZ32:(u8s noId).size=32:=by rw [zAh,zAc]
 have hok:=hm.ok
 have heach:=hm.each
 have hmat:=hm.at_
 obtain ⟨L,hL⟩ : ∃ L,es.map (·.st)=L:=⟨_,rfl⟩
 have hLl:L.length=es.length:=by rw [←hL,List.length_map]
 rw [hL] at hok
 have hLk : ∀ (k:Nat) (x:DiL),es[k]?=some x→L[k]?=some x.st:=fun k x hx=>by rw [←hL,List.getElem?_map,hx];rfl
 rw [hL]
 have hLl:=Lib.hid hLl
 have hLk:=Lib.hid hLk
 obtain ⟨A,cap,rfl,hcap1,hcap2,hat⟩:=hmat
 clear hL
 go_enter Tryz.func9,Tryz.ntmps9
 go_wp2_with (first
  | ((with_reducible refine hnw.out.mono ?_);rintro e w2 ⟨rfl,s2,b12⟩))
 have hpl:W1.heap.size<w2.heap.size:=s2.lt
 go_loopw [4] (fun vi wr => ∃ (k:Nat) (vl:Value),vi = .int .i64 k∧k≤es.length∧StoAt wr W1.heap.size W1.heap.size vl (L.take k)∧Below W1.heap.size W1 wr) (fun vi _=>es.length-(intOf vi).toNat)
 case atStart=>exact ⟨0,_,rfl,by omega,by rw [List.take_zero];exact s2,b12⟩
 case round=>
  obtain ⟨k,vl,rfl,hk,hS,hbel⟩:=hrel
  have hbr:=bthen b1 b1.size hbel
  have cr:wr.cell? ⟨w.heap.size,0,none⟩=some (.slice A es.length cap):=(s1.below hbel hlt0).cell 0
  by_cases hlt:k<es.length
  ·have hki:(k:Int)<(es.length:Int):=by omega
   obtain ⟨ga,oa,rfl,hga,hca⟩:=hat (by omega)
   obtain ⟨x,hx⟩ : ∃ x,es[k]?=some x:=⟨_,List.getElem?_eq_getElem hlt⟩
   have hxm:=List.mem_of_getElem? hx
   have hxo:=heach x hxm
   have hxi:=hxo.id
   have hLx:=hLk.out k x hx
   have hIs:=hok.each x.st (List.mem_of_getElem? hLx)
   have htx:=zCm (zAb (hca k x hx) hga hbr) hxi
   have hKr:=hK.below hbr
   have htl:=(zB1 hxo.dec).2
   have htk:(L.take k).length<500000:=by have:=hLl.out;rw [List.length_take];omega
   have hpt:=stoPut_calls hbel.size hS x.st.text (by omega) hKr htk
   rw [hIs.putI,hIs.putC,putS_rise hok hLx] at hpt
   have hpt:=Lib.hid hpt
   have hid32:(u8s x.st.id).size=32:=by rw [zAh,hxi]
   have hid1:=u8s_one x.st.id
   have heq:=fun W=>run_neq_id W x.st.id x.st.id hxi hxi
   simp only [decide_true,Bool.not_true] at heq
   have hxr:=dit_id (hca k x hx)
   clear hx hat hca heach hLx hIs htk hLk hxo hxm
   go_upto_region 8 with (first
    | ((with_reducible refine hpt.out.mono ?_);rintro e w3 ⟨rfl,vl3,s3,f3,n3⟩
       have hS3 : ∀ k,some k∈[some W1.heap.size,vl.ownBlock]→W1.heap.size≤k:=fun k hk=>by
        simp only [List.mem_cons,List.not_mem_nil,or_false] at hk
        rcases hk with hk | hk
        ·injection hk with hk;omega
        ·exact (World.ownsRow.lt hS.own k hk.symm).1
       have b3:Below W1.heap.size W1 w3:=hbel.trans (f3.below hbel.size hS3))
    | ((with_reducible refine lit_new 28 (.tmp 5) (.tmp 26) (u8s x.st.id) 32 sz32 hid32 hid1 _ ?_ ?_ ?_ ?_)
       ·first | exact hZ32 | rfl
       ·rfl
       ·rfl
       intro W4 i4 hbl4
       have b4:=bthen b3 b3.size hbl4
       have s4:=s3.below hbl4))
   have fI:=fun W (hW:Below W4.heap.size W4 W)=>zAi (zAj (i4.below hW i4.lt)) hxi
   have fX:=fun W (hW:Below W4.heap.size W4 W)=>zAi (zAb hxr hga (bthen b1 b1.size (bthen b4 b4.size hW))) hxi
   have fC : ∀ W,Below W4.heap.size W4 W→W.cell? ⟨w.heap.size,0,none⟩=some (.slice (some ⟨ga,oa,none⟩) es.length cap):=fun W hW=>(s1.below (bthen b4 b4.size hW) hlt0).cell 0
   go_wp2
   refine zAw 12 (by kernel_rfl) (by kernel_rfl) (by kernel_rfl) (by kernel_rfl) ?_
   simp only [exSp]
   iterate 12 apply Exists.intro
   repeat
    first
     | ((with_reducible apply lx0_ex)
        ·(go_simp;done)
        apply Exists.intro
        apply And.intro
        ·apply Eq.refl
        apply And.intro
        ·intro W hW hD
         have q0:=fI W hW
         have q1:=fX W hW
         have q2:=fC W hW
         have q4:=heq W
         go_simp
         rfl
        simp only [Act.put,zA,zB,zC])
     | ((with_reducible apply zAZ)
        ·(first | rfl | (go_simp;done))
        ·apply Eq.refl
        simp only [Act.put,zA,zB,zC])
   refine lx0_nil ?_ fun w5 hW5 hD5=>?_
   ·exact List.nodup_nil
   have b5:=bthen b4 b4.size hW5
   have s5:=s4.below hW5
   go_wp2
   go_roundw
   case rel=>exact ⟨k+1,_,by go_num,by omega,s5,b5⟩
   case measure=>simp [intOf];omega
  ·have hki : ¬ (k:Int)<(es.length:Int):=by omega
   obtain rfl:k=es.length:=by omega
   rw [←hLl.out,List.take_length] at hS
   clear hat heach hLk
   go_wp2
   go_ret
   exact ⟨⟨_,vl,rfl,Nat.le_of_lt hlt0,hS.blk,own_down hS.own (Nat.le_of_lt hlt0),hS.ok⟩,hbr⟩
end
section
def ldvPk (p:Addr):Sem Value:=loadVar 26 p
theorem ldvPk_eq (p:Addr):loadVar 26 p=ldvPk p:=rfl
theorem run_ldvPk {w:World} {g:Nat} {a b c:Value} (h:Blk w g 26 #[a,b,c]):(ldvPk ⟨g,0,none⟩).run Tryz.prog w = .ok (.agg #[a,b,c]) w:=run_loadVar_row w g _ _ _ _ _ h Tryz.underlying26 rfl (by kernel_rfl)
theorem built_rit4 (x:PItL) (hid:x.base.length=32):Tryz.prog.built 50 [(0, .int .i64 x.kind),(1, .int .i64 x.back),(2, .agg (u8s x.base)),(3, .string (B x.data))]=some (ritC (x,0,0)).toArray:=by
 obtain ⟨k,b,i,d⟩:=x
 obtain ⟨f,rfl⟩:=len32 hid
 kernel_rfl
theorem run_bldR4 (x:PItL) (hid:x.base.length=32) (W:World):(bldR15 #[(0, .int .i64 x.kind),(1, .int .i64 x.back),(2, .agg (u8s x.base)),(3, .string (B x.data))]).run Tryz.prog W = .ok (.agg (ritC (x,0,0)).toArray) W:=run_build (P:=Tryz.prog) W _ _ _ (built_rit4 x hid)
theorem own_use {w:World} {vm v:Value} {es:List DiL} {b size n:Nat} {e:TypeId} {xs:List Value} (h:DocSt w vm es) (ho:w.ownsRow b e size v n xs) (h1:98≠e) (h2:181≠e) (h3:28≠e) : ∀ k,v.ownBlock=some k → ¬ DocUse vm es k:=fun k hk=>by
 rcases ho.2 with ⟨rfl,_⟩ | ⟨g,cap,cur,rfl,_,hh,_⟩
 ·cases hk
 ·have:g=k:=Option.some.inj hk
  subst this
  exact h.blk_ne (show Blk w g e cur from hh) h1 h2 h3
attribute [local go_sem ↓] ldvI_eq ldvS_eq ldvPk_eq bldR15_eq
set_option maxRecDepth 100000 in
set_option maxHeartbeats 16000000 in
theorem zDC {w:World} {v0 v1 v2:Value} {x:PckL} (h:PckOk w v0 v1 v2 x) (o:PItL) (ho:o.base.length=32) (hob:o.back≤9223372036854775807) (hol:o.data.length≤9223372036854775807) (hK:TabK w) :
 Calls Tryz.prog 3 #[.agg #[v0,v1,v2], .agg (pitC o).toArray] w fun e w'=>e = .returned (.bool true)∧Below w.heap.size w w':=by
 have hzS:=zeroS14
 have hS0:(#[Value.slice none 0 0]:Array Value).size=1:=rfl
 obtain ⟨W1,hW1⟩ : ∃ W1,w.alloc (.cells #[v0,v1,v2] 26)=W1:=⟨_,rfl⟩
 have p1:Blk W1 w.heap.size 26 #[v0,v1,v2]:=by rw [←hW1];exact Blk.new _ _ _
 have b1:Below w.heap.size w W1:=by rw [←hW1];exact (Below.refl _ _).alloc (Nat.le_refl _) _
 obtain ⟨W2,hW2⟩ : ∃ W2,W1.alloc (.cells (pitC o).toArray 30)=W2:=⟨_,rfl⟩
 have r2:PitB W2 W1.heap.size o:=⟨by rw [←hW2];exact Blk.new _ _ _,ho⟩
 have bb2:Below W1.heap.size W1 W2:=by rw [←hW2];exact (Below.refl _ _).alloc (Nat.le_refl _) _
 have b2:=bthen b1 b1.size bb2
 have hle2:w.heap.size≤W2.heap.size:=b2.size
 have lP:=run_ldvPk (p1.below bb2 p1.lt)
 have hfew:=Lib.hid (few16_calls (h.below b2))
 have hkn:=fun W (hW:Below w.heap.size w W)=>knows_calls16 W (hK.below hW)
 have d3:=fun W (hW:Below W2.heap.size W2 W)=>(r2.below hW).data
 have d0:=fun W (hW:Below W2.heap.size W2 W)=>(r2.below hW).kind
 have d1:=fun W (hW:Below W2.heap.size W2 W)=>(r2.below hW).back
 have d2:=fun W (hW:Below W2.heap.size W2 W)=>zCL ((r2.below hW).baseR) ho
 obtain ⟨OC,hOC⟩ : ∃ OC,(pitC o).toArray=OC:=⟨_,rfl⟩
 rw [hOC] at hW2 ⊢
 clear h p1 r2 bb2 hOC
 go_enter Tryz.func3,Tryz.ntmps3
 go_upto_region 2 with (first
  | ((with_reducible refine hfew.out.mono ?_);rintro e w3 ⟨⟨vl,vm,b,rfl,hone,hb⟩,hb3⟩)
  | ((with_reducible refine lit_new 34 (.tmp 6) (.tmp 23) #[vm] 1 szDSt rfl (by simp [hone]) _ ?_ ?_ ?_ ?_)
     ·first | exact hS0 | rfl
     ·rfl
     ·rfl
     intro w4 hk4 hb4))
 have b24:=bthen hb3 hb3.size hb4
 have b04:=bthen b2 hle2 b24
 have q3:=d3 w4 b24
 clear hfew lP hS0 hzS
 cases b with
 | false=>
   clear hb
   go_wp2_with (first
    | ((with_reducible refine (hkn _ b04).mono ?_);rintro e w5 ⟨rfl,hb5⟩))
   go_ret
   exact ⟨rfl,bthen b04 b04.size hb5⟩
 | true=>
 by_cases hlong:300<o.data.length
 ·have hli:(300:Int)<(o.data.length:Int):=by omega
  clear hb
  go_wp2_with (first
   | ((with_reducible refine (hkn _ b04).mono ?_);rintro e w5 ⟨rfl,hb5⟩))
  go_ret
  exact ⟨rfl,bthen b04 b04.size hb5⟩
 have hli : ¬ (300:Int)<(o.data.length:Int):=by omega
 obtain ⟨L,es,hoL,hLok,hL16,hD,hel⟩:=hb rfl
 have oL4:=zAf hoL hb4
 have D4:=hD.below hb4
 have b4w:=b24.size
 have hof:=fun W (hW:Below w4.heap.size w4 W)=>of_calls11 (D4.below hW) (by omega) (hK.below (bthen b04 b04.size hW))
 have lS:=fun W (hW:Below w4.heap.size w4 W)=>zAF (hk4.below hW hk4.lt)
 have lS4:=lS w4 (Below.refl _ _)
 have hof4:=Lib.hid (hof w4 (Below.refl _ _))
 obtain ⟨S,hS⟩ : ∃ S,es.map (·.st)=S:=⟨_,rfl⟩
 have hpk : ∀ p∈L,PitOk p.1:=fun p hp=>⟨(hLok p hp).base,by have:=(hLok p hp).back;omega,by have:=(hLok p hp).data;omega⟩
 have hrk : ∀ p∈L,p.1.base.length=32∧p.1.data.length≤5000:=fun p hp=>⟨(hLok p hp).base,(hLok p hp).data⟩
 have hbk : ∀ p∈L,p.1.base.length=32:=fun p hp=>(hLok p hp).base
 have hM : ∀ p∈L++[(o,0,0)],PitOk p.1∧(p.1.base.length=32∧p.1.data.length≤5000):=fun p hp=>by
  rcases List.mem_append.1 hp with hp | hp
  ·exact ⟨hpk p hp,hrk p hp⟩
  ·rw [List.mem_singleton.1 hp];exact ⟨⟨ho,hob,by show o.data.length≤_;omega⟩,ho,by show o.data.length≤_;omega⟩
 have hMl:(L++[(o,0,0)]).length≤17:=by rw [List.length_append,List.length_singleton];omega
 have hbM : ∀ p∈L++[(o,0,0)],p.1.base.length=32:=fun p hp=>(hM p hp).2.1
 -- what the lists stand for
 obtain ⟨T1,hT1⟩ : ∃ T,(resV (resR S (itsP L) [])).1=T:=⟨_,rfl⟩
 obtain ⟨E1,hE1⟩ : ∃ E,(resV (resR S (itsP L) [])).2=E:=⟨_,rfl⟩
 obtain ⟨T2,hT2⟩ : ∃ T,(resV (resR S (itsP (L++[(o,0,0)])) [])).1=T:=⟨_,rfl⟩
 obtain ⟨E2,hE2⟩ : ∃ E,(resV (resR S (itsP (L++[(o,0,0)])) [])).2=E:=⟨_,rfl⟩
 have hrs1 : ∀ W B vi base p vs,OwnPits W B vi L→StoAt W base p vs S→Calls Tryz.prog 10 #[vi, .pointer (some ⟨p,0,none⟩)] W fun e w'=>(∃ u,e = .returned (.tuple #[u, .int .i64 E1])∧OwnTxs w' W.heap.size u T1)∧Below W.heap.size W w':=fun W B vi base p vs h hs=>by
  have h2:=zBI (itsP L) (fun y hy=>by obtain ⟨q,hq,rfl⟩:=List.mem_map.1 hy;exact hpk q hq) (by rw [List.length_map];omega) S vi (.pointer (some ⟨p,0,none⟩)) W (OwnPits.pits hbk h) (.inr ⟨_,_,_,rfl,hs⟩)
  unfold RslR at h2
  rwa [hT1,hE1] at h2
 have hrs2 : ∀ W B vi base p vs,OwnPits W B vi (L++[(o,0,0)])→StoAt W base p vs S→Calls Tryz.prog 10 #[vi, .pointer (some ⟨p,0,none⟩)] W fun e w'=>(∃ u,e = .returned (.tuple #[u, .int .i64 E2])∧OwnTxs w' W.heap.size u T2)∧Below W.heap.size W w':=fun W B vi base p vs h hs=>by
  have h2:=zBI (itsP (L++[(o,0,0)])) (fun y hy=>by obtain ⟨q,hq,rfl⟩:=List.mem_map.1 hy;exact (hM q hq).1) (by rw [List.length_map];omega) S vi (.pointer (some ⟨p,0,none⟩)) W (OwnPits.pits hbM h) (.inr ⟨_,_,_,rfl,hs⟩)
  unfold RslR at h2
  rwa [hT2,hE2] at h2
 have hrr1 : ∀ W B,DocSt W vm es→OwnRits W B vl L→Calls Tryz.prog 12 #[vl, .agg #[vm]] W fun e w'=>(∃ u,e = .returned (.tuple #[u, .int .i64 E1])∧OwnTxs w' W.heap.size u T1)∧Below W.heap.size W w':=fun W B hd h=>by
  have h2:=zCo hd L hrk (by omega) vl (OwnRits.rits hbk h)
  unfold RslR at h2
  rwa [hS,hT1,hE1] at h2
 have hrr2 : ∀ W B v,DocSt W vm es→OwnRits W B v (L++[(o,0,0)])→Calls Tryz.prog 12 #[v, .agg #[vm]] W fun e w'=>(∃ u,e = .returned (.tuple #[u, .int .i64 E2])∧OwnTxs w' W.heap.size u T2)∧Below W.heap.size W w':=fun W B v hd h=>by
  have h2:=zCo hd (L++[(o,0,0)]) (fun p hp=>(hM p hp).2) (by omega) v (OwnRits.rits hbM h)
  unfold RslR at h2
  rwa [hS,hT2,hE2] at h2
 have hsm : ∀ (T:List Txt) W a b,Txs W a T→Txs W b T→Calls Tryz.prog 13 #[a,b] W fun e w'=>e = .returned (.bool true)∧Below W.heap.size W w':=fun T W a b ha hb=>(same16_calls T T a b W ha hb).mono fun e w' ⟨h1,h2⟩=>⟨by rw [h1];simp,h2⟩
 have hit1 : ∀ W,Below w4.heap.size w4 W→Calls Tryz.prog 11 #[vl] W fun e w' => ∃ v,e = .returned v∧OwnPits w' W.heap.size v L∧Below W.heap.size W w':=fun W hW=>zDb L hbk (by omega) vl W (OwnRits.rits hbk (zAf oL4 hW))
 have hit2 : ∀ W B v,OwnRits W B v (L++[(o,0,0)])→Calls Tryz.prog 11 #[v] W fun e w' => ∃ v,e = .returned v∧OwnPits w' W.heap.size v (L++[(o,0,0)])∧Below W.heap.size W w':=fun W B v h=>zDb _ hbM (by omega) v W (OwnRits.rits hbM h)
 unfold OfR at hof4
 rw [hS] at hof4
 clear hT1 hE1 hT2 hE2 hof hpk hrk hM hbk hbM hb
 go_upto_region 10 with (first
  | ((with_reducible refine hof4.out.mono ?_);rintro e w5 ⟨⟨p,vs,rfl,hp,hst⟩,hb5⟩)
  | ((with_reducible refine (hit1 _ hb5).mono ?_);rintro e w6 ⟨vi,rfl,oi,hb6⟩
     have b46:=bthen hb5 hb5.size hb6
     have hst6:=hst.below hb6)
  | ((with_reducible refine (hrs1 _ _ _ _ _ _ oi hst6).mono ?_);rintro e w7 ⟨⟨u1,rfl,ou1⟩,hb7⟩
     have b47:=bthen b46 b46.size hb7
     have lS7:=lS _ b47)
  | ((with_reducible refine (hrr1 _ _ (D4.below b47) (zAf oL4 b47)).mono ?_);rintro e w8 ⟨⟨u2,rfl,ou2⟩,hb8⟩
     have b48:=bthen b47 b47.size hb8
     have ou1':=zAf ou1 hb8)
  | ((with_reducible refine (hsm T1 _ _ _ (OwnTxs.txs ou1') (OwnTxs.txs ou2)).mono ?_);rintro e w9 ⟨rfl,hb9⟩
     have b49:=bthen b48 b48.size hb9))
 all_goals try (exfalso;omega)
 have b59:=bthen hb6 hb6.size (bthen hb7 hb7.size (bthen hb8 hb8.size hb9))
 have b29:=bthen b24 b24.size b49
 have hst9:=hst.below b59
 have o9:=zAf oL4 b49
 have D9:=D4.below b49
 have k9:=hk4.below b49 hk4.lt
 have b09:=bthen b04 b04.size b49
 have hsz9:=b29.size
 have c0:=d0 w9 b29
 have c1:=d1 w9 b29
 have c2:=d2 w9 b29
 have c3:=d3 w9 b29
 have hbd:=run_bldR4 o ho
 have h37:(ritC (o,0,0)).toArray.size=37:=zBO ho
 have h371:(ritC (o,0,0)).toArray.size=1*37:=h37
 have hall : ∀ u∈(ritC (o,0,0)).toArray.toList,u.oneCell'=true:=by rw [List.toList_toArray];exact ritC_one _
 have m1:L.length+1≤9223372036854775807:=by omega
 have m2:(L.length+1)*80≤140737488355328:=by omega
 obtain ⟨CR,hCR⟩ : ∃ CR,(ritC (o,0,0)).toArray=CR:=⟨_,rfl⟩
 rw [hCR] at h37 h371 hall
 simp only [hCR] at hbd
 have hrow : ∀ (W:World) (v:Value),W.ownsRow W2.heap.size 50 37 v (L.length+1) (rowsOf ritC L++CR.toList)→OwnRits W W2.heap.size v (L++[(o,0,0)]):=fun W v h=>by
  rw [←hCR,List.toList_toArray] at h
  unfold OwnRits
  rw [List.length_append,List.length_singleton,zAo,zAx]
  exact h
 have hrow:=Lib.hid hrow
 clear hCR hof4 hit1 hrs1 hrr1 d0 d1 d2 d3 hst6 hst oi ou1 ou1' ou2 hLok
 go_upto_region 11 with (first
  | ((with_reducible refine zAN (.tmp 63) Tryz.ritTy CR h37 (by omega) ?_ ?_);rfl)
  | (at_builtin
     (with_reducible refine zAl (.tmp 54) (.tmp 64) 1 _ Tryz.ritTy o9 CR h371 hall m1 m2 hsz9 ?_ ?_ ?_);rfl;rfl
     intro v10 w10 hv10 hb10 hg10 hn10
     clear hn10))
 have oM:=hrow.out _ _ hv10
 have f10:=Far.of_grown hg10
 have D10:=D9.grown hg10 (own_use D9 o9 (by decide) (by decide) (by decide))
 have k10:=k9.grown hg10 (zAD o9 k9 (by decide))
 have hst10:=hst9.far f10 (fun hm=>zAD o9 hst9.blk (by decide) (List.mem_singleton.1 hm)) (fun k hk hm=>by
  rcases zB8 hst9.own o9 (by decide) with h1 | h1
  ·rw [h1] at hk;cases hk
  ·exact h1 (hk.trans (List.mem_singleton.1 hm)))
 have b010:=b09.trans (hb10.mono hle2)
 have lS10:=fun W (hW:Below w10.heap.size w10 W)=>zAF (k10.below hW k10.lt)
 clear hv10 hg10 hb10 hrow f10 o9 D9 k9 hst9 hbd c0 c1 c2 c3 h37 h371 hall lS hk4
 go_upto_region 14 with (first
  | ((with_reducible refine (hit2 _ _ _ oM).mono ?_);rintro e x6 ⟨vi2,rfl,oi2,hc6⟩
     have st6:=hst10.below hc6)
  | ((with_reducible refine (hrs2 _ _ _ _ _ _ oi2 st6).mono ?_);rintro e x7 ⟨⟨t1,rfl,ot1⟩,hc7⟩
     have c17:=bthen hc6 hc6.size hc7
     have lS17:=lS10 _ c17)
  | ((with_reducible refine (hrr2 _ _ _ (D10.below c17) (zAf oM c17)).mono ?_);rintro e x8 ⟨⟨t2,rfl,ot2⟩,hc8⟩
     have c18:=bthen c17 c17.size hc8
     have ot1':=zAf ot1 hc8)
  | ((with_reducible refine (hsm T2 _ _ _ (OwnTxs.txs ot1') (OwnTxs.txs ot2)).mono ?_);rintro e x9 ⟨rfl,hc9⟩
     have c19:=bthen c18 c18.size hc9))
 have b019:=bthen b010 b010.size c19
 have hE1:((E1:Int)==(E1:Int))=true:=by simp
 have hE2:((E2:Int)==(E2:Int))=true:=by simp
 clear hit2 hrs2 hrr2 hsm oM D10 hst10
 go_wp2_with (first
  | ((with_reducible refine (hkn _ b019).mono ?_);rintro e x10 ⟨rfl,hc10⟩))
 all_goals try (exfalso;omega)
 go_ret
 exact ⟨rfl,bthen b019 b019.size hc10⟩
end
end Go.Proofs.YtodebknbchaccaaGreatDoor
namespace Go.Proofs.YtodebknbchaccaaGreatDoor
open Go.ChangeShapes Go.WideShapes Go.ChangeAt Go.RowKit
section
variable {H:Type} {enc:TypeId×Value→H} {w:World} {base:Nat} {sp:Nat→Bool} {held:Bool}
set_option maxRecDepth 200000 in
theorem elem_item (fuel:Nat) (cs:List Value) (x:DataW H×List MemPlace) (h:DataW.trod enc Tryz.prog w base sp held fuel 30 cs=some x) (hl:cs.length=35) : ∃ r:PItL,cs=pitC r∧r.base.length=32∧r.back≤9223372036854775807∧r.data.length≤9223372036854775807:=by
 obtain ⟨ys,n',hn',hy,hlen,hyl,hf⟩:=DataW.trod_struct Tryz.underlying30 h
 have hyl:ys.length=4:=hyl
 have h0:=hf 0 _ rfl
 have h1:=hf 1 _ rfl
 have h2:=hf 2 _ rfl
 have h3:=hf 3 _ rfl
 rw [List.getElem?_eq_getElem (show 0<ys.length by omega)] at h0
 rw [List.getElem?_eq_getElem (show 1<ys.length by omega)] at h1
 rw [List.getElem?_eq_getElem (show 2<ys.length by omega)] at h2
 rw [List.getElem?_eq_getElem (show 3<ys.length by omega)] at h3
 obtain ⟨k,e0,_,_⟩:=DataW.trod_int Tryz.underlying3 h0
 obtain ⟨b,e1,_,w1⟩:=DataW.trod_int Tryz.underlying3 h1
 obtain ⟨l,hl32,e2⟩:=trod_bytes Tryz.underlying28 Tryz.underlying5 (by kernel_rfl) (by kernel_rfl) h2
 obtain ⟨s,e3,_,w3⟩:=DataW.trod_string Tryz.underlying9 h3
 have c0:Tryz.prog.cellsOf 9=1:=by kernel_rfl
 have c1:Tryz.prog.cellsOf 3=1:=by kernel_rfl
 have c2:Tryz.prog.cellsOf 28=32:=by kernel_rfl
 obtain ⟨a,rfl⟩:=B_mk s
 have e0':(cs.drop 0).take 1=[.int .i64 k]:=by rw [←c1];exact e0
 have e1':(cs.drop 1).take 1=[.int .i64 b]:=by rw [←c1];exact e1
 have e2':(cs.drop 2).take 32=l.map u8v:=by rw [←c2];exact e2
 have e3':(cs.drop 34).take 1=[.string (B a)]:=by rw [←c0];exact e3
 refine ⟨⟨k,b,l,a⟩,?_,hl32,(bounds_i64 w1).2,by unfold maxLen at w3;rw [size_B] at w3;exact w3⟩
 have:=chain e0' (m:=1) rfl
 rw [List.drop_zero,chain e1' (m:=2) rfl,chain e2' (m:=34) rfl,chain e3' (m:=35) rfl,List.drop_of_length_le (by omega)] at this
 rw [this]
 simp [pitC,u8s]
set_option maxRecDepth 200000 in
theorem open_item {base0:Nat} {v:Value} {d:DataW H} {p:List MemPlace} (hv:Value.okWide Tryz.prog w .any base0 30 v) (h0:DataW.Trod enc Tryz.prog w base sp held 30 v d p) : ∃ o:PItL,v = .agg (pitC o).toArray∧o.base.length=32∧o.back≤9223372036854775807∧o.data.length≤9223372036854775807:=by
 simp only [Value.okWide,Tryz.underlying30] at hv
 obtain ⟨cs0,rfl,hsz,hvv⟩:=hv
 obtain ⟨fuel,hf0⟩:=h0
 have h7:Tryz.prog.cellsOf 30=35:=by kernel_rfl
 have hl:cs0.toList.length=35:=by rw [Array.length_toList,hsz,h7]
 have hf1:DataW.trod enc Tryz.prog w base sp held fuel 30 cs0.toList=some (d,p):=hf0
 obtain ⟨r,hr,h32,hb,hd⟩:=elem_item fuel _ _ hf1 hl
 refine ⟨r,?_,h32,hb,hd⟩
 congr 1
 apply Array.ext'
 rw [hr]
end
end Go.Proofs.YtodebknbchaccaaGreatDoor
namespace Go.Proofs.YtodebknbchaccaaGreatDoor
open Go.ChangeShapes Go.WideShapes Go.ChangeAt Go.RowKit
theorem gTab : Tryz.prog.globalNamed "knapsack/sha256.constants" = some 0:=by kernel_rfl
theorem gTabType : (Tryz.prog.globals[0]?).map (·.type)=some 129:=by kernel_rfl
theorem cellsTab : Tryz.prog.cellsOf 129=64:=by kernel_rfl
theorem cellsU32 : Tryz.prog.cellsOf 72=1:=by kernel_rfl
theorem laid_is : (Rows.laid_knapsack_sha256_constants:DataW Unit)=Lib.tabData .u32 (K256.map fun n=>((n:Nat):Int)):=by kernel_rfl
theorem tabK_of {W:World} (h:laidMetH Tryz.prog [("knapsack/sha256.constants",Rows.laid_knapsack_sha256_constants)] W):TabK W:=by
 rw [laid_is] at h
 have ht:=Lib.tabIs_of_head (rest:=[]) gTab gTabType Tryz.underlying129 Tryz.underlying72 cellsU32 cellsTab h
 have hc (t:Nat) (h64:t<64):W.cell? ⟨0,t,none⟩=some (.int .u32 (K256.getD t 0:Nat)):=by
  rw [ht.cell gTab t (by rw [List.length_map,zBl];exact h64)]
  have:t<K256.length:=by rw [zBl];exact h64
  simp [List.getD,List.getElem?_map,List.getElem?_eq_getElem this]
 exact ⟨World.block_lt_of_cell? W _ (hc 0 (by omega)),hc⟩
noncomputable def laidWorld (os:Os):World:=
 { World.holding Tryz.prog os ⟨#[], #[],[]⟩ with heap:=(World.holding Tryz.prog os ⟨#[], #[],[]⟩).heap.modify 0 fun
  | .cells _ t frozen => .cells (u32s K256) t frozen
  | o=>o }
end Go.Proofs.YtodebknbchaccaaGreatDoor
