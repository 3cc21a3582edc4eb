/- Texts of this claim, laid together: StoI, StL, StM, DptL, Tab. -/
import Derived.Test.YtbhdfaadedlcfaaGreatDoorMm
import Derived.Test.YtbhdfaadedlcfaaGreatDoorCards
import Derived.WalkKit
import Derived.ProofKit
import Derived.OpenShut
import Derived.Deep.DeepHandedRow
import Derived.Lib.LaidTab
namespace Go.Proofs.YtbhdfaadedlcfaaGreatDoor
open Go.RowKit
section
attribute [local go_sem ↓] ldvI_eq ldvO_eq
def PutAt (w:World) (base p:Nat) (vl:Value) (s':List StL) (w':World):Prop := ∃ vl',StoAt w' base p vl' s'∧Far [some p,vl.ownBlock] w w'∧Newer w vl vl'
set_option maxRecDepth 100000 in
set_option maxHeartbeats 8000000 in
theorem stoPut_calls {w:World} {base p:Nat} {vl:Value} {s:List StL} (hB:base≤w.heap.size) (h:StoAt w base p vl s) (t:Txt) (ht:t.length≤1000000) (hK:TabK w) (hf:s.length<500000) :
 Calls Tryz.prog 26 #[.pointer (some ⟨p,0,none⟩), .string (B t)] w fun e w'=>e = .returned (.tuple #[.agg (u8s (putI t)), .int .i64 (putC t)])∧PutAt w base p vl (putS s t) w':=by
 have hzI:=zeroIdV
 have hrb:=fun W=>run_build (P:=Tryz.prog) W _ _ _ built_zId
 have hZ32:(u8s noId).size=32:=by rw [u8s_size,noId_len]
 have hZone:=u8s_one noId
 obtain ⟨W0,hW0⟩ : ∃ W0,w.alloc (.cells (u8s noId) 46)=W0:=⟨_,rfl⟩
 have z0:Blk W0 w.heap.size 46 (u8s noId):=by rw [←hW0];exact Blk.new _ _ _
 have b0:Below w.heap.size w W0:=by rw [←hW0];exact (Below.refl _ _).alloc (Nat.le_refl _) _
 have hsz : ∀ cs:Array Value,cs.size=32→(Tryz.prog.info? 46).map (·.size)=some cs.size:=fun cs h=>by rw [h];exact sz32
 have hde:=Lib.hid (decode_calls t (by omega) W0)
 have hzo:=zeroObj
 have hz72:=zObj_size
 have hplw:=h.lt
 have hD:=Lib.hid h
 have hn0:(List.replicate 32 (0:UInt8))=noId:=rfl
 cases hd:decO t with
 | none=>
   have hpi:putI t=noId:=by unfold putI;rw [hd];exact hn0
   have hpc:putC t=2:=by unfold putC;rw [hd]
   have hps:putS s t=s:=by unfold putS;rw [hd]
   rw [hpi,hpc,hps]
   rw [hd] at hde
   have hde:Hid (Calls Tryz.prog 47 #[.string (B t)] W0 fun e w'=>e = .returned (.tuple #[.agg zObj, .int .i64 2])∧Below W0.heap.size W0 w'):=hde
   have hzone:zObj.all (·.oneCell')=true:=objC_all zeroO none none 0 0 0 0
   generalize u8s noId=Z at *
   generalize zObj=ZO at *
   clear hd hpi hpc hps hn0
   go_enter Tryz.func26,Tryz.ntmps26
   go_wp2_with (first
    | ((with_reducible refine hde.out.mono ?_);rintro e w1 ⟨rfl,bb1⟩
       have b1:=bthen b0 b0.size bb1
       have z1:=z0.below bb1 z0.lt)
    | ((with_reducible refine lit_new 59 (.tmp 6) (.tmp 17) ZO 72 szObj hz72 hzone _ ?_ ?_ ?_ ?_)
       ·first | exact hz72 | rfl
       ·rfl
       ·rfl
       intro W2 hb2 hbl2
       have b2:=bthen b1 b1.size hbl2
       have z2:=z1.below hbl2 z1.lt)
    | (refine wpList_store_row rfl 46 (.tmp 4) (.tmp 21) rfl w.heap.size Z rfl rfl _ _ z2 (hsz Z hZ32) rfl hZone ?_))
   refine bodyPost_ret (results_row_tmp rfl _ _ w.heap.size _ _ _ _ rfl (setRow_heap _ _ _ _ _ _ z2) Tryz.underlying46 rfl (hsz Z hZ32)) rfl ⟨rfl,?_⟩
   have hb:=below_setRow b2 (Nat.le_refl _) Z
   exact ⟨vl,hD.out.below hb,Far.of_below hb,Newer.refl _ _⟩
 | some o=>
   have hpi:putI t=shaOf t:=by unfold putI;rw [hd]
   have hpc:putC t=0:=by unfold putC;rw [hd]
   have hps:putS s t=if hasK StL.id s (shaOf t) then s else insK StL.id s ⟨shaOf t,t⟩:=by unfold putS;rw [hd]
   have hokP:=h.ok.put t hf
   rw [hpi,hpc]
   rw [hps] at hokP ⊢
   rw [hd] at hde
   have hde:Hid (Calls Tryz.prog 47 #[.string (B t)] W0 fun e w'=>(∃ A1 A2 k1 k2,e = .returned (.tuple #[.agg (objC o (.slice A1 o.ents.length k1) (.slice A2 o.pars.length k2)).toArray, .int .i64 0])∧ObjV w' (.slice A1 o.ents.length k1) (.slice A2 o.pars.length k2) o)∧Below W0.heap.size W0 w'):=Lib.hid (hde.out.mono fun e w' ⟨⟨A1,A2,k1,k2,h1,h2,_⟩,hb⟩=>⟨⟨A1,A2,k1,k2,h1,h2⟩,hb⟩)
   have hid:=fun W (hb:Below w.heap.size w W)=>objId_calls t (by omega) W (hK.below hb)
   have hn32:=shaOf_length t
   have hxok:StitOk ⟨shaOf t,t⟩:=⟨hn32,by show t.length≤_;omega⟩
   obtain ⟨n,hn⟩ : ∃ n,shaOf t=n:=⟨_,rfl⟩
   rw [hn] at hid hn32 hxok hokP ⊢
   have hN32:(u8s n).size=32:=by rw [u8s_size,hn32]
   have hNone:=u8s_one n
   have hsI:(Tryz.prog.info? 46).map (·.size)=some (u8s n).toList.length:=by rw [u8s_lenS,hn32];exact sz32
   have hldn : ∀ W g,Blk W g 46 (u8s n)→(ldvI ⟨g,0,none⟩).run Tryz.prog W = .ok (.agg (u8s n)) W:=fun W g hb=>by
    have:=run_loadVar_mid (P:=Tryz.prog) W g 0 46 (u8s n).toList _ (range_blk hb) Tryz.underlying46 rfl hsI
    rwa [Array.toArray_toList] at this
   have hpl:=fun W (hb:Below w.heap.size w W)=>stoPlace_calls (hD.out.below hb) n hn32
   have hPle:posK StL.id s n≤s.length:=posK_le
   have hZ32':(u8s noId).size=(u8s n).size:=by rw [hZ32,hN32]
   clear hd hpi hpc hps hn0 hn
   cases hh:hasK StL.id s n with
   | true=>
     rw [hh] at hpl hokP
     simp only [if_true] at hokP ⊢
     generalize posK StL.id s n=P at *
     go_enter Tryz.func26,Tryz.ntmps26
     go_wp2_with (first
      | ((with_reducible refine hde.out.mono ?_);rintro e w1 ⟨⟨A1,A2,k1,k2,rfl,hv1⟩,bb1⟩
         have b1:=bthen b0 b0.size bb1
         have z1:=z0.below bb1 z0.lt
         have hc72:(objC o (.slice A1 o.ents.length k1) (.slice A2 o.pars.length k2)).toArray.size=72:=by rw [List.size_toArray,objC_len hv1.ok]
         have hcone:=objC_all o A1 A2 o.ents.length k1 o.pars.length k2)
      | ((with_reducible refine lit_new 59 (.tmp 6) (.tmp 17) (objC o (.slice A1 o.ents.length k1) (.slice A2 o.pars.length k2)).toArray 72 szObj hc72 hcone _ ?_ ?_ ?_ ?_)
         ·first | exact hz72 | rfl
         ·rfl
         ·rfl
         intro W2 hb2 hbl2
         have b2:=bthen b1 b1.size hbl2
         have z2:=z1.below hbl2 z1.lt)
      | ((with_reducible refine (hid _ b2).mono ?_);rintro e w3 ⟨rfl,bb3⟩
         have b3:=bthen b2 b2.size bb3
         have z3:=z2.below bb3 z2.lt)
      | ((with_reducible refine lit_new 46 (.tmp 8) (.tmp 23) (u8s n) 32 sz32 hN32 hNone _ ?_ ?_ ?_ ?_)
         ·first | exact hZ32 | rfl
         ·rfl
         ·rfl
         intro W4 hb4 hbl4
         have b4:=bthen b3 b3.size hbl4
         have z4:=z3.below hbl4 z3.lt
         have ld4:=hldn _ _ hb4)
      | ((with_reducible refine (hpl _ b4).mono ?_);rintro e w5 ⟨rfl,bb5⟩
         have b5:=bthen b4 b4.size bb5
         have z5:=z4.below bb5 z4.lt
         have ld5:=hldn _ _ (hb4.below bb5 hb4.lt))
      | (refine wpList_store_row rfl 46 (.tmp 4) (.tmp 45) rfl w.heap.size (u8s n) rfl rfl _ _ z5 (hsz _ hN32) hZ32' hNone ?_))
     refine bodyPost_ret (results_row_tmp rfl _ _ w.heap.size _ _ _ _ rfl (setRow_heap _ _ _ _ _ _ z5) Tryz.underlying46 rfl (hsz _ hN32)) rfl ⟨rfl,?_⟩
     have hb:=below_setRow b5 (Nat.le_refl _) (u8s n)
     exact ⟨vl,hD.out.below hb,Far.of_below hb,Newer.refl _ _⟩
   | false=>
     rw [hh] at hpl hokP
     simp only [Bool.false_eq_true,if_false] at hokP ⊢
     unfold insK at hokP ⊢
     simp only at hokP ⊢
     generalize posK StL.id s n=P at *
     obtain ⟨s',hs'⟩ : ∃ s',s.take P++[(⟨n,t⟩:StL)]++s.drop P=s':=⟨_,rfl⟩
     rw [hs'] at hokP ⊢
     have HS:=Lib.hid hs'
     clear hs'
     go_enter Tryz.func26,Tryz.ntmps26
     go_upto_region 9 with (first
      | ((with_reducible refine hde.out.mono ?_);rintro e w1 ⟨⟨A1,A2,k1,k2,rfl,hv1⟩,bb1⟩
         have b1:=bthen b0 b0.size bb1
         have z1:=z0.below bb1 z0.lt
         have hc72:(objC o (.slice A1 o.ents.length k1) (.slice A2 o.pars.length k2)).toArray.size=72:=by rw [List.size_toArray,objC_len hv1.ok]
         have hcone:=objC_all o A1 A2 o.ents.length k1 o.pars.length k2)
      | ((with_reducible refine lit_new 59 (.tmp 6) (.tmp 17) (objC o (.slice A1 o.ents.length k1) (.slice A2 o.pars.length k2)).toArray 72 szObj hc72 hcone _ ?_ ?_ ?_ ?_)
         ·first | exact hz72 | rfl
         ·rfl
         ·rfl
         intro W2 hb2 hbl2
         have b2:=bthen b1 b1.size hbl2
         have z2:=z1.below hbl2 z1.lt)
      | ((with_reducible refine (hid _ b2).mono ?_);rintro e w3 ⟨rfl,bb3⟩
         have b3:=bthen b2 b2.size bb3
         have z3:=z2.below bb3 z2.lt)
      | ((with_reducible refine lit_new 46 (.tmp 8) (.tmp 23) (u8s n) 32 sz32 hN32 hNone _ ?_ ?_ ?_ ?_)
         ·first | exact hZ32 | rfl
         ·rfl
         ·rfl
         intro W4 hb4 hbl4
         have b4:=bthen b3 b3.size hbl4
         have z4:=z3.below hbl4 z3.lt
         have hgI:w.heap.size≤w3.heap.size:=b3.size
         have ld4:=hldn _ _ hb4)
      | ((with_reducible refine (hpl _ b4).mono ?_);rintro e w0 ⟨rfl,bb5⟩
         have b5:=bthen b4 b4.size bb5
         have z5:=z4.below bb5 z4.lt
         have hI5:=hb4.below bb5 hb4.lt))
     have hgI0:=z3.lt
     obtain ⟨gI,hgIe⟩ : ∃ gI,w3.heap.size=gI:=⟨_,rfl⟩
     rw [hgIe] at hI5 hgI0 ⊢
     have hD0:=hD.out.below b5
     have hplw2:p<w.heap.size:=hplw
     have hlv0 : ∀ q,vl.ownBlock=some q→q<w.heap.size:=fun q hq=>(World.ownsRow.lt hD.out.own q hq).2
     have hok:=hD.out.ok
     have hB:base≤w0.heap.size:=Nat.le_trans hB b5.size
     replace hD:=Lib.hid hD0
     have hlv : ∀ q,vl.ownBlock=some q→q<w0.heap.size:=fun q hq=>(World.ownsRow.lt hD.out.own q hq).2
     have hPl:=hPle
     have ldn:=fun W (hW:Below w0.heap.size w0 W)=>hldn W gI (hI5.below hW hI5.lt)
     clear hde hid hpl b0 b1 b2 b3 b4 z0 z1 z2 z3 z4 ld4 bb1 bb3 bb5 hv1 hc72 hcone hb2 hbl2 hb4 hbl4 hW0 hD0 hgIe hplw hPle hh hK
     obtain ⟨V,hV⟩ : ∃ V:Nat→Value,V=fun i=>[(.pointer (some ⟨p,0,none⟩)),(.pointer (some ⟨p,0,none⟩)),(.pointer (some ⟨p,0,none⟩)),(.pointer (some ⟨p,0,none⟩)),vl,(.int .i64 P),(.agg (u8s n)),(.string (B t)),(.agg (stitC ⟨n,t⟩).toArray),undef,undef,(.pointer (some ⟨p,0,none⟩)),(.pointer (some ⟨p,0,none⟩)),undef].getD i undef:=⟨_,rfl⟩
     have v0:V 0=(.pointer (some ⟨p,0,none⟩)):=by rw [hV];rfl
     have v1:V 1=(.pointer (some ⟨p,0,none⟩)):=by rw [hV];rfl
     have v2:V 2=(.pointer (some ⟨p,0,none⟩)):=by rw [hV];rfl
     have v3:V 3=(.pointer (some ⟨p,0,none⟩)):=by rw [hV];rfl
     have v4:V 4=vl:=by rw [hV];rfl
     have v5:V 5=(.int .i64 P):=by rw [hV];rfl
     have v6:V 6=(.agg (u8s n)):=by rw [hV];rfl
     have v7:V 7=(.string (B t)):=by rw [hV];rfl
     have v8:V 8=(.agg (stitC ⟨n,t⟩).toArray):=by rw [hV];rfl
     have v11:V 11=(.pointer (some ⟨p,0,none⟩)):=by rw [hV];rfl
     have v12:V 12=(.pointer (some ⟨p,0,none⟩)):=by rw [hV];rfl
     have v13:V 13=undef:=by rw [hV];rfl
     clear hV
     refine wp_region_listed (C:=StPutC w0 base p vl s') (R:=StPutR V w0 base vl ⟨n,t⟩ s') (by kernel_rfl) (by kernel_rfl) (by kernel_rfl) ?_ (StPutC.start w0).drew ?_ ?_
     ·exact sizes_spec (n:=46) (by kernel_rfl)
     ·intro i o listed a w1 ho hi hL
      have hin:=(ready_spec hi).1
      have hsz:listed.size=14:=hL.size
      match i,ho with
      | 0,ho=>
        obtain rfl:=(Option.some.inj ho).symm
        have e0:a.tmps[0]?.getD undef=(.pointer (some ⟨p,0,none⟩)):=(slot_eval a 0).trans (hL.get_old hi (by kernel_rfl))
        have hc:=hL.cls
        refine step_wp rfl rfl ?_
        clear ho hL
        refine wp_val (v:=(.pointer (some ⟨p,0,none⟩))) ?_ ⟨_,rfl,StPutR.mk (by decide) v0.symm,hc.same (by rw [hsz];decide) (by decide),fun _ _ _ h=>h⟩
        clear hi hin hsz v0 v1 v2 v3 v4 v5 v6 v7 v8 v11 v12 v13  hc
        unfold execOp
        go_simp
      | 1,ho=>
        obtain rfl:=(Option.some.inj ho).symm
        have e0:a.tmps[0]?.getD undef=(.pointer (some ⟨p,0,none⟩)):=(slot_eval a 0).trans (hL.get_old hi (by kernel_rfl))
        have hc:=hL.cls
        refine step_wp rfl rfl ?_
        clear ho hL
        refine wp_val (v:=(.pointer (some ⟨p,0,none⟩))) ?_ ⟨_,rfl,StPutR.mk (by decide) v1.symm,hc.same (by rw [hsz];decide) (by decide),fun _ _ _ h=>h⟩
        clear hi hin hsz v0 v1 v2 v3 v4 v5 v6 v7 v8 v11 v12 v13  hc
        unfold execOp
        go_simp
      | 2,ho=>
        obtain rfl:=(Option.some.inj ho).symm
        have e0:a.tmps[33]?.getD undef=(.pointer (some ⟨p,0,none⟩)):=(slot_eval a 33).trans ((StPutR.at_ (hi:=by decide) (hL.get_new (j:=1) hi (by kernel_rfl))).trans v1)
        have hc:=hL.cls
        refine step_wp rfl rfl ?_
        clear ho hL
        refine wp_val (v:=(.pointer (some ⟨p,0,none⟩))) ?_ ⟨_,rfl,StPutR.mk (by decide) v2.symm,hc.same (by rw [hsz];decide) (by decide),fun _ _ _ h=>h⟩
        clear hi hin hsz v0 v1 v2 v3 v4 v5 v6 v7 v8 v11 v12 v13  hc
        unfold execOp
        go_simp
      | 3,ho=>
        obtain rfl:=(Option.some.inj ho).symm
        have e0:a.tmps[34]?.getD undef=(.pointer (some ⟨p,0,none⟩)):=(slot_eval a 34).trans ((StPutR.at_ (hi:=by decide) (hL.get_new (j:=2) hi (by kernel_rfl))).trans v2)
        have hc:=hL.cls
        refine step_wp rfl rfl ?_
        clear ho hL
        refine wp_val (v:=(.pointer (some ⟨p,0,none⟩))) ?_ ⟨_,rfl,StPutR.mk (by decide) v3.symm,hc.same (by rw [hsz];decide) (by decide),fun _ _ _ h=>h⟩
        clear hi hin hsz v0 v1 v2 v3 v4 v5 v6 v7 v8 v11 v12 v13  hc
        unfold execOp
        go_simp
      | 4,ho=>
        obtain rfl:=(Option.some.inj ho).symm
        have e0:a.tmps[35]?.getD undef=(.pointer (some ⟨p,0,none⟩)):=(slot_eval a 35).trans ((StPutR.at_ (hi:=by decide) (hL.get_new (j:=3) hi (by kernel_rfl))).trans v3)
        have hc:=hL.cls
        refine step_wp rfl rfl ?_
        have hL4:=hL.later (j:=10) hi (by kernel_rfl)
        clear ho hL
        refine wp_val (v:=vl) ?_ ⟨_,rfl,StPutR.mk (by decide) v4.symm,hc.same (by rw [hsz];decide) (by decide),fun _ _ _ h=>h⟩
        have hb0:=hc.a_ (hL4)
        have q:=(hD.out.below hb0).c0
        clear hi hin hsz v0 v1 v2 v3 v4 v5 v6 v7 v8 v11 v12 v13  hc
        unfold execOp
        go_simp
      | 5,ho=>
        obtain rfl:=(Option.some.inj ho).symm
        have e0:a.tmps[9]?.getD undef=(.int .i64 P):=(slot_eval a 9).trans (hL.get_old hi (by kernel_rfl))
        have hc:=hL.cls
        refine step_wp rfl rfl ?_
        clear ho hL
        refine wp_val (v:=(.int .i64 P)) ?_ ⟨_,rfl,StPutR.mk (by decide) v5.symm,hc.same (by rw [hsz];decide) (by decide),fun _ _ _ h=>h⟩
        clear hi hin hsz v0 v1 v2 v3 v4 v5 v6 v7 v8 v11 v12 v13  hc
        unfold execOp
        go_simp
      | 6,ho=>
        obtain rfl:=(Option.some.inj ho).symm
        have e0:a.tmps[8]?.getD undef=(.pointer (some ⟨gI,0,none⟩)):=(slot_eval a 8).trans (hL.get_old hi (by kernel_rfl))
        have hc:=hL.cls
        refine step_wp rfl rfl ?_
        have hL8:=hL.later (j:=8) hi (by kernel_rfl)
        have hL9:listed.getD 9 false=false:=hL.later2 hL8 (by kernel_rfl)
        have hL6:listed.getD 10 false=false:=hL.later2 hL9 (by kernel_rfl)
        clear ho hL
        refine wp_val (v:=(.agg (u8s n))) ?_ ⟨_,rfl,StPutR.mk (by decide) v6.symm,hc.same (by rw [hsz];decide) (by decide),fun _ _ _ h=>h⟩
        have hb0:=hc.a_ (hL6)
        have q:=ldn w1 hb0
        clear hi hin hsz v0 v1 v2 v3 v4 v5 v6 v7 v8 v11 v12 v13  hc
        unfold execOp
        go_simp
      | 7,ho=>
        obtain rfl:=(Option.some.inj ho).symm
        have e0:a.tmps[1]?.getD undef=(.string (B t)):=(slot_eval a 1).trans (hL.get_old hi (by kernel_rfl))
        have hc:=hL.cls
        refine step_wp rfl rfl ?_
        clear ho hL
        refine wp_val (v:=(.string (B t))) ?_ ⟨_,rfl,StPutR.mk (by decide) v7.symm,hc.same (by rw [hsz];decide) (by decide),fun _ _ _ h=>h⟩
        clear hi hin hsz v0 v1 v2 v3 v4 v5 v6 v7 v8 v11 v12 v13  hc
        unfold execOp
        go_simp
      | 8,ho=>
        obtain rfl:=(Option.some.inj ho).symm
        have e0:a.tmps[38]?.getD undef=(.agg (u8s n)):=(slot_eval a 38).trans ((StPutR.at_ (hi:=by decide) (hL.get_new (j:=6) hi (by kernel_rfl))).trans v6)
        have e1:a.tmps[39]?.getD undef=(.string (B t)):=(slot_eval a 39).trans ((StPutR.at_ (hi:=by decide) (hL.get_new (j:=7) hi (by kernel_rfl))).trans v7)
        have hc:=hL.cls
        refine step_wp rfl rfl ?_
        clear ho hL
        refine build_step rfl (built_stit ⟨n,t⟩ hxok.1) (parts2 (slot_is e0) (slot_is e1)) ⟨_,rfl,StPutR.mk (by decide) v8.symm,hc.same (by rw [hsz];decide) (by decide),fun _ _ _ h=>h⟩
      | 9,ho=>
        obtain rfl:=(Option.some.inj ho).symm
        have e0:a.tmps[40]?.getD undef=(.agg (stitC ⟨n,t⟩).toArray):=(slot_eval a 40).trans ((StPutR.at_ (hi:=by decide) (hL.get_new (j:=8) hi (by kernel_rfl))).trans v8)
        have hc:=hL.cls
        have hla:=hL.later (j:=10) hi (by kernel_rfl)
        have hb0:=hc.a_ hla
        clear ho hL
        refine step_wp rfl rfl ?_
        refine slice_step rfl Tryz.stitTy (by decide) (stitC_len hxok) (.inl (slot_is e0)) ⟨_,rfl,StPutR.lit (Blk.new _ _ _) hb0.size,?_,fun j u _ h=>StPutR.far (S:=[]) h (Far.of_below ((Below.refl _ _).alloc (Nat.le_refl _) _)) (fun _ _ _=>by simp) (fun _ _ _=>by simp)⟩
        refine StPutC.same ⟨fun _=>hb0.alloc hb0.size _,fun e=>?_,fun e=>?_,?_⟩ (by rw [hsz];decide) (by decide)
        ·rw [hla] at e;cases e
        ·obtain ⟨v',h1,h2,h3,h4⟩:=hc.c_ e
         exact ⟨v',h1.alloc _,World.ownsRow.alloc h2 _,h3,h4.alloc _⟩
        ·exact Nat.le_trans hc.sz (by simp)
      | 10,ho=>
        obtain rfl:=(Option.some.inj ho).symm
        have e0:a.tmps[36]?.getD undef=vl:=(slot_eval a 36).trans ((StPutR.at_ (hi:=by decide) (hL.get_new (j:=4) hi (by kernel_rfl))).trans v4)
        have e1:a.tmps[37]?.getD undef=(.int .i64 P):=(slot_eval a 37).trans ((StPutR.at_ (hi:=by decide) (hL.get_new (j:=5) hi (by kernel_rfl))).trans v5)
        have e2:=hL.get_new (j:=9) (t:=41) hi (by kernel_rfl)
        have hc:=hL.cls
        have hla:listed.getD 10 false=false:=by rw [getD_of_size (by rw [hsz];exact hin)];exact (ready_spec hi).2.1
        have hlb:=hL.later (j:=13) hi (by kernel_rfl)
        have hb0:=hc.a_ hla
        obtain ⟨b,h5,hb5,hge5⟩:=StPutR.litAt e2
        clear ho hL
        refine step_wp rfl rfl ?_
        have hins:=insertStits_calls s hok.ok (by have:=hok.few;omega) vl w1 base P b ⟨n,t⟩ hxok (Nat.le_trans hB hc.sz) (own_below hD.out.own hb0) hPl hb5 (fun e=>by have:=hlv _ e;omega)
        refine call_step rfl (vals := #[vl, .int .i64 P, .slice (some ⟨b,0,none⟩) 1 1]) (map3 (slot_is e0) (slot_is e1) h5) (by go_simp) hins ?_
        rintro e w2 ⟨v',rfl,hown2,hg2,hnw2⟩
        rw [HS.out] at hown2
        have hf2:Far [vl.ownBlock] w1 w2:=Far.of_grown hg2
        refine ⟨_,rfl,_,rfl,StPutR.ins hown2 ((Newer.refl w0 vl).then_ hnw2 hc.sz),?_,fun j u hj h=>StPutR.far h hf2 (fun q hq _ hm=>?_) (fun hj10 k hk hm=>?_)⟩
        ·refine ⟨fun e=>?_,fun _ _=>(Far.of_below hb0).then_ hf2 (fun k hk => .inl hk),fun e=>?_,Nat.le_trans hc.sz hf2.size⟩
         ·rw [getD_set (by rw [hsz];decide),if_pos rfl] at e;cases e
         ·rw [getD_set (by rw [hsz];decide),if_neg (by decide),hlb] at e;cases e
        ·simp only [List.mem_singleton] at hm
         have:=hlv q hm.symm
         omega
        ·subst hj10
         rw [hla] at hj;cases hj
      | 11,ho=>
        obtain rfl:=(Option.some.inj ho).symm
        have e0:a.tmps[32]?.getD undef=(.pointer (some ⟨p,0,none⟩)):=(slot_eval a 32).trans ((StPutR.at_ (hi:=by decide) (hL.get_new (j:=0) hi (by kernel_rfl))).trans v0)
        have hc:=hL.cls
        refine step_wp rfl rfl ?_
        clear ho hL
        refine wp_val (v:=(.pointer (some ⟨p,0,none⟩))) ?_ ⟨_,rfl,StPutR.mk (by decide) v11.symm,hc.same (by rw [hsz];decide) (by decide),fun _ _ _ h=>h⟩
        clear hi hin hsz v0 v1 v2 v3 v4 v5 v6 v7 v8 v11 v12 v13  hc
        unfold execOp
        go_simp
      | 12,ho=>
        obtain rfl:=(Option.some.inj ho).symm
        have e0:a.tmps[43]?.getD undef=(.pointer (some ⟨p,0,none⟩)):=(slot_eval a 43).trans ((StPutR.at_ (hi:=by decide) (hL.get_new (j:=11) hi (by kernel_rfl))).trans v11)
        have hc:=hL.cls
        refine step_wp rfl rfl ?_
        clear ho hL
        refine wp_val (v:=(.pointer (some ⟨p,0,none⟩))) ?_ ⟨_,rfl,StPutR.mk (by decide) v12.symm,hc.same (by rw [hsz];decide) (by decide),fun _ _ _ h=>h⟩
        clear hi hin hsz v0 v1 v2 v3 v4 v5 v6 v7 v8 v11 v12 v13  hc
        unfold execOp
        go_simp
      | 13,ho=>
        obtain rfl:=(Option.some.inj ho).symm
        have e0:a.tmps[44]?.getD undef=(.pointer (some ⟨p,0,none⟩)):=(slot_eval a 44).trans ((StPutR.at_ (hi:=by decide) (hL.get_new (j:=12) hi (by kernel_rfl))).trans v12)
        have e1:=hL.get_new (j:=10) (t:=42) hi (by kernel_rfl)
        have hc:=hL.cls
        have hla:listed.getD 10 false=true:=hL.before hi (by kernel_rfl)
        have hls:listed.getD 13 false=false:=(getD_of_size (by rw [hsz];exact hin)).trans (ready_spec hi).2.1
        have hf0:=hc.b_ hla hls
        obtain ⟨hown2,hnw2⟩:=StPutR.insAt e1
        have hp1:Blk w1 p 108 #[vl]:=hf0.blk hD.out.blk (fun hm=>by simp only [List.mem_singleton] at hm;exact hD.out.ne hm.symm)
        have hvp : ∀ k,(a.eval (.tmp 42)).ownBlock=some k→some k ∉ [some p]:=fun k hk hm=>by
         simp only [List.mem_singleton] at hm
         injection hm with hm
         subst hm
         exact hnw2.ne hD.out.lt hD.out.ne hk
        obtain ⟨A2,c2,hform⟩:=own_form' hown2
        have e2:a.tmps[42]?.getD undef = .slice A2 s'.length c2:=(slot_eval a 42).trans hform
        have c0:w1.cell? ⟨p,0,none⟩=some vl:=by rw [hp1.cell];rfl
        have f0:=hp1.frozen 0
        rw [hform] at hown2 hnw2 hvp
        have hf1:Far [some p] w1 (w1.setCell ⟨p,0,none⟩ (.slice A2 s'.length c2)):=(Far.refl _ _).set_ (p:=⟨p,0,none⟩) (.inl (by simp)) _
        have hown3:=hf1.own hown2 hvp
        have hH : ∀ u:Value,StPutC w0 base p vl s' (listed.setIfInBounds 13 true) (w1.setCell ⟨p,0,none⟩ (.slice A2 s'.length c2)):=fun _=>by
         refine ⟨fun e=>?_,fun _ e=>?_,fun _=>⟨_,hp1.set_ 0 _,hown3,hnw2,(hf0.mono (T:=[some p,vl.ownBlock]) fun k hk=>List.mem_cons_of_mem _ hk).then_ (T:=[some p]) hf1 (fun k hk => .inl (by simp only [List.mem_singleton] at hk;rw [hk];simp))⟩,Nat.le_trans hc.sz hf1.size⟩
         ·rw [getD_set (by rw [hsz];decide),if_neg (by decide),hla] at e;cases e
         ·rw [getD_set (by rw [hsz];decide),if_pos rfl] at e;cases e
        have hK : ∀ j u,listed.getD j false=true→StPutR V w0 base vl ⟨n,t⟩ s' j u w1→StPutR V w0 base vl ⟨n,t⟩ s' j u (w1.setCell ⟨p,0,none⟩ (.slice A2 s'.length c2)):=fun j u _ hju=>StPutR.far hju hf1 (fun q hq _ hm=>by
         simp only [List.mem_singleton] at hm
         injection hm with hm
         have:=hD.out.lt
         omega) (fun hj k hk hm=>by
         rw [hj] at hju
         simp only [List.mem_singleton] at hm
         injection hm with hm
         rw [hm] at hk
         exact (StPutR.insAt hju).2.ne hD.out.lt hD.out.ne hk)
        refine step_wp rfl rfl ?_
        clear hi ho hL hin hc hown2 hnw2 hown3 hvp e1 hform
        refine wp_skip (w':=w1.setCell ⟨p,0,none⟩ (.slice A2 s'.length c2)) ?_ ⟨_,rfl,StPutR.mk (by decide) v13.symm,hH undef,hK⟩
        clear hH hK v0 v1 v2 v3 v4 v5 v6 v7 v8 v11 v12 v13
        unfold execOp
        go_simp
      | (n+14),ho=>exact absurd hin (by simp)
     ·intro a w1 listed hL hall
      have hc:=hL.cls
      obtain ⟨vs,rfl,hR⟩:=hL.frame (by kernel_rfl) (sizes_spec (n:=46) (by kernel_rfl)) hall
      simp only [putAll,Act.put,List.setIfInBounds_toArray,List.set_cons_zero,List.set_cons_succ]
      simp only [Nat.zero_add,Nat.reduceAdd]
      obtain ⟨v',hp9,hown9,hnw9,hfar9⟩:=hc.c_ (hall 13 (by decide))
      clear hR hc hL
      have hgIn:some gI ∉ [some p,vl.ownBlock]:=fun hm=>by
       rcases List.mem_cons.1 hm with h1 | h1
       ·injection h1 with h1
        omega
       ·have h2:=hlv0 gI (List.mem_singleton.1 h1).symm
        omega
      have hgZn:some w.heap.size ∉ [some p,vl.ownBlock]:=fun hm=>by
       rcases List.mem_cons.1 hm with h1 | h1
       ·injection h1 with h1
        omega
       ·have h2:=hlv0 w.heap.size (List.mem_singleton.1 h1).symm
        omega
      have ld9:=hldn w1 gI (hfar9.blk hI5 hgIn)
      have z9:=hfar9.blk z5 hgZn
      go_wp2_with (first
       | (refine wpList_store_row rfl 46 (.tmp 4) (.tmp 45) rfl w.heap.size (u8s n) rfl rfl _ _ z9 (hsz _ hN32) hZ32' hNone ?_))
      refine bodyPost_ret (results_row_tmp rfl _ _ w.heap.size _ _ _ _ rfl (setRow_heap _ _ _ _ _ _ z9) Tryz.underlying46 rfl (hsz _ hN32)) rfl ⟨rfl,?_⟩
      have hf10:Far [some w.heap.size] w1 (w1.setRow w.heap.size (u8s n)):=⟨rfl,rfl,rfl,by simp,fun k _ hk=>setRow_other _ _ _ _ (fun e=>hk (by rw [e];simp))⟩
      have hne1:some p ∉ [some w.heap.size]:=fun hm=>by
       have:=List.mem_singleton.1 hm
       injection this with this
       omega
      have hne2 : ∀ k,v'.ownBlock=some k→some k ∉ [some w.heap.size]:=fun k hk hm=>by
       have h1:=List.mem_singleton.1 hm
       injection h1 with h1
       subst h1
       rcases hnw9 with h2 | h2
       ·have:=hlv0 _ (h2.symm.trans hk)
        omega
       ·have:=h2 _ hk
        have:=z5.lt
        omega
      refine ⟨v',⟨hf10.blk hp9 hne1,hf10.own hown9 hne2,hokP⟩,?_,?_⟩
      ·exact ((Far.of_below b5).then_ hfar9 (fun k hk => .inl hk)).then_ hf10 (fun k hk => .inr (by
        have:=List.mem_singleton.1 hk
        injection this with this
        omega))
      ·rcases hnw9 with h2 | h2
       ·exact .inl h2
       ·exact .inr fun k hk=>Nat.le_trans b5.size (h2 k hk)
end
section
attribute [local go_sem ↓] ldvI_eq ldvS_eq
end
section
attribute [local go_sem ↓] ldvI_eq ldvS_eq
def OfR (w:World) (L:List StL) (e:Ending) (w':World):Prop := ∃ p vl,e = .returned (.pointer (some ⟨p,0,none⟩))∧w.heap.size≤p∧StoAt w' w.heap.size p vl L
set_option maxRecDepth 100000 in
set_option maxHeartbeats 8000000 in
theorem of_calls11 {w:World} {vm:Value} {es:List DiL} (hm:DocSt w vm es) (hf:es.length<490000) (hK:TabK w) :
 Calls Tryz.prog 7 #[.agg #[vm]] w fun e w'=>OfR w (es.map (·.st)) e w'∧Below w.heap.size w w':=by
 obtain ⟨W1,hW1⟩ : ∃ W1,w.alloc (.cells #[vm] 28)=W1:=⟨_,rfl⟩
 have s1:Blk W1 w.heap.size 28 #[vm]:=by rw [←hW1];exact Blk.new _ _ _
 have b1:Below w.heap.size w W1:=by rw [←hW1];exact (Below.refl _ _).alloc (Nat.le_refl _) _
 have hlt0:=s1.lt
 have hnw:=Lib.hid (stoNew_calls W1)
 have hzI:=zeroIdV
 have hZ32:(u8s noId).size=32:=by rw [u8s_size,noId_len]
 have hok:=hm.ok
 have heach:=hm.each
 have hmat:=hm.at_
 obtain ⟨L,hL⟩ : ∃ L,es.map (·.st)=L:=⟨_,rfl⟩
 have hLl:L.length=es.length:=by rw [←hL,List.length_map]
 rw [hL] at hok
 have hLk : ∀ (k:Nat) (x:DiL),es[k]?=some x→L[k]?=some x.st:=fun k x hx=>by rw [←hL,List.getElem?_map,hx];rfl
 rw [hL]
 have hLl:=Lib.hid hLl
 have hLk:=Lib.hid hLk
 obtain ⟨A,cap,rfl,hcap1,hcap2,hat⟩:=hmat
 clear hL
 go_enter Tryz.func7,Tryz.ntmps7
 go_wp2_with (first
  | ((with_reducible refine hnw.out.mono ?_);rintro e w2 ⟨rfl,s2,b12⟩))
 have hpl:W1.heap.size<w2.heap.size:=s2.lt
 go_loopw [4] (fun vi wr => ∃ (k:Nat) (vl:Value),vi = .int .i64 k∧k≤es.length∧StoAt wr W1.heap.size W1.heap.size vl (L.take k)∧Below W1.heap.size W1 wr) (fun vi _=>es.length-(intOf vi).toNat)
 case atStart=>exact ⟨0,_,rfl,by omega,by rw [List.take_zero];exact s2,b12⟩
 case round=>
  obtain ⟨k,vl,rfl,hk,hS,hbel⟩:=hrel
  have hbr:=bthen b1 b1.size hbel
  have cr:wr.cell? ⟨w.heap.size,0,none⟩=some (.slice A es.length cap):=(s1.below hbel hlt0).cell 0
  by_cases hlt:k<es.length
  ·have hki:(k:Int)<(es.length:Int):=by omega
   obtain ⟨ga,oa,rfl,hga,hca⟩:=hat (by omega)
   obtain ⟨x,hx⟩ : ∃ x,es[k]?=some x:=⟨_,List.getElem?_eq_getElem hlt⟩
   have hxm:=List.mem_of_getElem? hx
   have hxo:=heach x hxm
   have hxi:=hxo.id
   have hLx:=hLk.out k x hx
   have hIs:=hok.each x.st (List.mem_of_getElem? hLx)
   have htx:=dit_text (rangeAt_below (hca k x hx) hga hbr) hxi
   have hKr:=hK.below hbr
   have htl:=(decO_len hxo.dec).2
   have htk:(L.take k).length<500000:=by have:=hLl.out;rw [List.length_take];omega
   have hpt:=stoPut_calls hbel.size hS x.st.text (by omega) hKr htk
   rw [hIs.putI,hIs.putC,putS_rise hok hLx] at hpt
   have hpt:=Lib.hid hpt
   have hid32:(u8s x.st.id).size=32:=by rw [u8s_size,hxi]
   have hid1:=u8s_one x.st.id
   have heq:=fun W=>run_neq_id W x.st.id x.st.id hxi hxi
   simp only [decide_true,Bool.not_true] at heq
   have hxr:=dit_id (hca k x hx)
   clear hx hat hca heach hLx hIs htk hLk hxo hxm
   go_upto_region 8 with (first
    | ((with_reducible refine hpt.out.mono ?_);rintro e w3 ⟨rfl,vl3,s3,f3,n3⟩
       have hS3 : ∀ k,some k∈[some W1.heap.size,vl.ownBlock]→W1.heap.size≤k:=fun k hk=>by
        simp only [List.mem_cons,List.not_mem_nil,or_false] at hk
        rcases hk with hk | hk
        ·injection hk with hk;omega
        ·exact (World.ownsRow.lt hS.own k hk.symm).1
       have b3:Below W1.heap.size W1 w3:=hbel.trans (f3.below hbel.size hS3))
    | ((with_reducible refine lit_new 46 (.tmp 5) (.tmp 26) (u8s x.st.id) 32 sz32 hid32 hid1 _ ?_ ?_ ?_ ?_)
       ·first | exact hZ32 | rfl
       ·rfl
       ·rfl
       intro W4 i4 hbl4
       have b4:=bthen b3 b3.size hbl4
       have s4:=s3.below hbl4))
   have fI:=fun W (hW:Below W4.heap.size W4 W)=>run_ldvI_at (range_blk (i4.below hW i4.lt)) hxi
   have fX:=fun W (hW:Below W4.heap.size W4 W)=>run_ldvI_at (rangeAt_below hxr hga (bthen b1 b1.size (bthen b4 b4.size hW))) hxi
   have fC : ∀ W,Below W4.heap.size W4 W→W.cell? ⟨w.heap.size,0,none⟩=some (.slice (some ⟨ga,oa,none⟩) es.length cap):=fun W hW=>(s1.below (bthen b4 b4.size hW) hlt0).cell 0
   go_wp2
   refine wp_region_go0 12 (by kernel_rfl) (by kernel_rfl) (by kernel_rfl) (by kernel_rfl) ?_
   simp only [exSp]
   iterate 12 apply Exists.intro
   repeat
    first
     | ((with_reducible apply lx0_ex)
        ·(go_simp;done)
        apply Exists.intro
        apply And.intro
        ·apply Eq.refl
        apply And.intro
        ·intro W hW hD
         have q0:=fI W hW
         have q1:=fX W hW
         have q2:=fC W hW
         have q4:=heq W
         go_simp
         rfl
        simp only [Act.put,zA,zB,zC])
     | ((with_reducible apply lx0_pass)
        ·(first | rfl | (go_simp;done))
        ·apply Eq.refl
        simp only [Act.put,zA,zB,zC])
   refine lx0_nil ?_ fun w5 hW5 hD5=>?_
   ·exact List.nodup_nil
   have b5:=bthen b4 b4.size hW5
   have s5:=s4.below hW5
   go_wp2
   go_roundw
   case rel=>exact ⟨k+1,_,by go_num,by omega,s5,b5⟩
   case measure=>simp [intOf];omega
  ·have hki : ¬ (k:Int)<(es.length:Int):=by omega
   obtain rfl:k=es.length:=by omega
   rw [←hLl.out,List.take_length] at hS
   clear hat heach hLk
   go_wp2
   go_ret
   exact ⟨⟨_,vl,rfl,Nat.le_of_lt hlt0,hS.blk,own_down hS.own (Nat.le_of_lt hlt0),hS.ok⟩,hbr⟩
end
section
attribute [local go_sem ↓] ldvI_eq ldvS_eq ldvH_eq
set_option maxRecDepth 100000 in
set_option maxHeartbeats 8000000 in
theorem depthTells_calls (h:HisL) (vs vo vf vc:Value) (n:Int) (w:World) (hK:TabK w) (hh:HisOk w vs vo vf vc h) :
 Calls Tryz.prog 3 #[.agg #[vs,vo,vf,vc], .int .i64 n] w fun e w'=>e = .returned (.bool true)∧Below w.heap.size w w':=by
 obtain ⟨W1,hW1⟩ : ∃ W1,w.alloc (.cells #[vs,vo,vf,vc] 25)=W1:=⟨_,rfl⟩
 have s1:Blk W1 w.heap.size 25 #[vs,vo,vf,vc]:=by rw [←hW1];exact Blk.new _ _ _
 have b1:Below w.heap.size w W1:=by rw [←hW1];exact (Below.refl _ _).alloc (Nat.le_refl _) _
 have hld:=fun W (hW:Below W1.heap.size W1 W)=>run_ldvH (s1.below hW s1.lt)
 have hld1:=hld W1 (Below.refl _ _)
 have c2 : ∀ W,Below W1.heap.size W1 W→W.cell? ⟨w.heap.size,2,none⟩=some vf:=fun W hW=>(s1.below hW s1.lt).cell 2
 have c3 : ∀ W,Below W1.heap.size W1 W→W.cell? ⟨w.heap.size,3,none⟩=some vc:=fun W hW=>(s1.below hW s1.lt).cell 3
 have hfew:=Lib.hid ((few12_calls h vs vo vf vc W1 (hh.below b1)).mono fun e w' (q:Few12R h W1 e w'∧Below W1.heap.size W1 w')=>(⟨q.1.b,q.2⟩:Few12B h e w'∧Below W1.heap.size W1 w'))
 have hkn:=fun W (hW:Below w.heap.size w W)=>Lib.hid (depthKnows_calls W)
 have hnm:=fun (hf:FewH h) W (hW:Below w.heap.size w W)=>Lib.hid (named_calls h hf vs vo vf vc W (hh.below hW))
 have hid:=fun (ids:List Txt) (hok : ∀ x∈ids,x.length=32) (hil:ids.length≤24) (v:Value) W (hW:Below w.heap.size w W) (hv:Ids W v ids) (l:Txt) (hl10:l.length≤10) (vl:Value) (hvl:SliceAt w 1 byC vl l)=>Lib.hid (ids12_calls ids hok (Nat.le_trans hil (by omega)) v W hv l (Nat.le_trans hl10 (by omega)) vl (hvl.below hW))
 have hcut:=hh.cut
 have hfrm:=hh.frm
 clear hh s1
 go_enter Tryz.func3,Tryz.ntmps3
 go_upto_region 2 with (first
  | ((with_reducible refine hfew.out.mono ?_);rintro e w2 ⟨⟨Am,nm,cm,b,rfl,hb⟩,hb2⟩
     have hm2:(#[Value.slice Am nm cm]:Array Value).all (·.oneCell')=true:=by simp [Value.oneCell']
     have hm1:(#[Value.slice Am nm cm]:Array Value).size=1:=rfl)
  | ((with_reducible refine lit_new 28 (.tmp 5) (.tmp 24) #[.slice Am nm cm] 1 szDSt hm1 hm2 _ ?_ ?_ ?_ ?_)
     ·first | exact hm1 | rfl
     ·rfl
     ·rfl
     intro W3 hb3 hbl3))
 have b13:=bthen hb2 hb2.size hbl3
 have b3:=bthen b1 b1.size b13
 have hkn3:=hkn W3 b3
 clear hfew hld1 hW1
 cases b with
 | false=>
   clear hb hkn hnm hid hld c2 c3
   go_wp2_with (first
    | ((with_reducible refine hkn3.out.mono ?_);rintro e w5 ⟨rfl,hb5⟩))
   go_ret
   exact ⟨rfl,bthen b3 b3.size hb5⟩
 | true=>
   obtain ⟨es,hFH,hD2,hel⟩:=hb rfl
   clear hb
   have hD3:=hD2.below hbl3
   have hs3:=fun W (hW:Below W3.heap.size W3 W)=>run_ldvS (hb3.below hW hb3.lt)
   have hs33:=hs3 W3 (Below.refl _ _)
   have h10f:=hFH.2.2.1
   have hof3:=Lib.hid (of_calls11 hD3 (by omega) (hK.below b3))
   have hnm3:=fun W (hW:Below W3.heap.size W3 W)=>hnm hFH W (bthen b3 b3.size hW)
   have hld3:=fun W (hW:Below W3.heap.size W3 W)=>hld W (bthen b13 b13.size hW)
   have c23:=fun W (hW:Below W3.heap.size W3 W)=>c2 W (bthen b13 b13.size hW)
   have b03:=fun W (hW:Below W3.heap.size W3 W)=>bthen b3 b3.size hW
   obtain ⟨Af,cf,rfl,_⟩:=id hfrm
   clear hkn3 hnm hld c2 c3 hcut
   go_upto_region 5 with (first
    | ((with_reducible refine hof3.out.mono ?_);rintro e w4 ⟨⟨p,vl,rfl,hp4,hS4⟩,hb4⟩))
   clear hof3 hs33
   refine wp_region_go0 6 (by kernel_rfl) (by kernel_rfl) (by kernel_rfl) (by kernel_rfl) ?_
   simp only [exSp]
   iterate 6 apply Exists.intro
   repeat
    first
     | ((with_reducible apply lx0_ex)
        ·(go_simp;done)
        apply Exists.intro
        apply And.intro
        ·apply Eq.refl
        apply And.intro
        ·intro W hW hD
         have q0:=hld3 W (bthen hb4 hb4.size hW)
         have q1:=c23 W (bthen hb4 hb4.size hW)
         go_simp
         rfl
        simp only [Act.put,zA,zB,zC])
     | ((with_reducible apply lx0_pass)
        ·(first | rfl | (go_simp;done))
        ·apply Eq.refl
        simp only [Act.put,zA,zB,zC])
     | ((with_reducible refine lx0_new (idsR w4.heap.size 24) rfl ?_ (idsR_stab _ _) ?_ ?_)
        ·(go_simp;done)
        ·intro W hW hD
         have q0:=hld3 W (bthen hb4 hb4.size hW)
         unfold doesAt Oper.wp execOp
         go_simp
         (with_reducible refine ((hnm3 W (bthen hb4 hb4.size hW)).out).mono ?_)
         rintro e w' ⟨⟨vi,ids,rfl,hoi,hiok,hil⟩,hb⟩
         exact ⟨hb,idsR_new hW.size hoi hiok hil⟩
        intro v
        simp only [Act.put,zA,zB,zC])
     | ((with_reducible refine lx0_new (idsR w4.heap.size 10) rfl ?_ (idsR_stab _ _) ?_ ?_)
        ·(go_simp;done)
        ·intro W hW hD
         unfold doesAt Oper.wp execOp
         go_simp
         obtain ⟨F,ids,hiok,hil,ho,_⟩:=hD.at 0 rfl (by kernel_rfl)
         (with_reducible refine (hid ids hiok hil _ W (b03 W (bthen hb4 hb4.size hW)) (SliceAt.of_own (idsK hiok) ho) h.frm h10f _ hfrm).out.mono ?_)
         rintro e w' ⟨⟨v,fr,rfl,ho2,hfok,hfl0⟩,hb⟩
         exact ⟨hb,idsR_new hW.size ho2 hfok (by rw [hfl0];exact h10f)⟩
        intro v
        simp only [Act.put,zA,zB,zC])
     | (first | (with_reducible apply lx_move') | (with_reducible apply lx_assign')
        ·apply Eq.refl
        apply Exists.intro
        apply And.intro
        ·(go_simp;rfl)
        simp only [Act.put,zA,zB,zC])
   refine lx0_nil ?_ fun w5 hW5 hD5=>?_
   ·exact List.nodup_nil
   obtain ⟨_,from_,hfok,hfl,ho5,_⟩:=hD5 _ (.head _)
   clear hD5
   have b35:=bthen hb4 hb4.size hW5
   have b05:=b03 w5 b35
   have lS:=fun W (hW:Below w5.heap.size w5 W)=>hs3 W (bthen b35 b35.size hW)
   have hD5:=hD3.below b35
   have hS5:=hS4.below hW5
   have hfrI:=SliceAt.of_own (fun e h=>idC_len (hfok e h)) ho5
   have hKn:=fun W (hW:Below w5.heap.size w5 W)=>hkn W (bthen b05 b05.size hW)
   have hel2:es.length≤24:=hel
   clear hs3 hD3 hD2 hS4 hid hnm3 hld3 c23 b03 ho5 hb4 hW5 b35 b13 b3 hfrm hFH hK hb3 h10f hkn hbl3 hb2
   by_cases hn:1≤n∧n≤1048576
   ·obtain ⟨m,rfl⟩ : ∃ m:Nat,n=m:=⟨n.toNat,by omega⟩
    have hn1:1≤m:=by omega
    have hn2:m≤1048576:=by omega
    have hni1 : ¬ (m:Int)<1:=by omega
    have hni2 : ¬ (1048576:Int)<(m:Int):=by omega
    have k1:=Lib.hid (depOf_calls hS5 hfrI hfok (by omega) m hn1 hn2)
    have k2:=fun W (hW:Below w5.heap.size w5 W)=>Lib.hid (depBound_calls (hS5.below hW) (hfrI.below hW) hfok (by omega) m hn1 hn2)
    have k3:=fun W (hW:Below w5.heap.size w5 W)=>Lib.hid (docOf_calls (hD5.below hW) from_ hfok (by omega) _ (hfrI.below hW) m hn1 hn2)
    have k4:=fun W (hW:Below w5.heap.size w5 W)=>Lib.hid (docBound_calls (hD5.below hW) from_ hfok (by omega) _ (hfrI.below hW) m hn1 hn2)
    have hI:=depS_I (es.map (·.st)) m (endsM (es.map (·.st)) from_)
    obtain ⟨S,hS⟩ : ∃ S,es.map (·.st)=S:=⟨_,rfl⟩
    have hSl:S.length≤24:=by rw [←hS,List.length_map];exact hel2
    rw [hS] at k1 hI
    simp only [hS] at k2 k3 k4
    obtain ⟨R,hR⟩ : ∃ R,depS S m (endsM S from_)=R:=⟨_,rfl⟩
    rw [hR] at k1 hI
    simp only [hR] at k2 k3 k4
    have hRl:=hI.len
    have lS5:=lS w5 (Below.refl _ _)
    clear hn hR hS hn1 hn2 hD5 hS5 hfrI
    go_upto_region 13 with (first
     | ((with_reducible refine k1.out.mono ?_);rintro e w6 ⟨v6,rfl,⟨L,hLs,hLok,hLo⟩,hb6⟩
        have k26:=k2 w6 hb6
        obtain ⟨Al,cl,rfl⟩:=own_form' hLo)
     | ((with_reducible refine k26.out.mono ?_);rintro e w7 ⟨va,vb,rfl,⟨L2,hL2s,hL2i,hoa,hob⟩,hb7⟩
        have b7:=bthen hb6 hb6.size hb7
        have lS7:=lS w7 b7
        have k37:=k3 w7 b7)
     | ((with_reducible refine k37.out.mono ?_);rintro e w8 ⟨vr,rfl,⟨hro,hRok,hRpos⟩,hb8⟩
        have b8:=bthen b7 b7.size hb8
        obtain ⟨Ar,cr,rfl⟩:=own_form' hro))
    have hLl:=hLs.len
    have hll:((L.length:Int) != (R.length:Int))=false:=by rw [hLl];simp
    have hLb:L.length≤24:=by omega
    clear hLl
    have hl8:=own_below hLo (bthen hb7 hb7.size hb8)
    have hoa8:=own_below hoa hb8
    have hob8:=own_below hob hb8
    have hsa:=shal_sort (S:=S) (n:=m) hL2s
    have hsb:=deep_sort (n:=m) hL2s
    have hat:=fun W (hW:Below w8.heap.size w8 W) (p:DpL) (hp:p∈L)=>refAtD_calls R hRok _ p.id (hLok p hp).1 W (OwnDdts.at_ hRok (own_below hro hW))
    have hatn:=fun (p:DpL) (hp:p∈L)=>atD_same hLs hI hp
    have hLi:=SliceAt.of_own (dptK hLok) hl8
    have hrise:=rise_all hLs.sorted
    have hidk : ∀ x∈L.map DpL.id,x.length=32:=fun x hx=>by
     obtain ⟨p,hp,rfl⟩:=List.mem_map.1 hx
     exact (hLok p hp).1
    have hsok : ∀ x∈sortU (shalL S R m),x.length=32:=fun x hx=>by
     rw [←hsa] at hx
     obtain ⟨p,hp,rfl⟩:=List.mem_map.1 hx
     exact hL2i p (List.mem_filter.1 hp).1
    have hdok : ∀ x∈sortU (deepL R m),x.length=32:=fun x hx=>by
     rw [←hsb] at hx
     obtain ⟨p,hp,rfl⟩:=List.mem_map.1 hx
     exact hL2i p (List.mem_filter.1 hp).1
    rw [hsa] at hoa8
    rw [hsb] at hob8
    obtain ⟨A',c',he,_,_,hatL⟩:=hLi
    injection he with e1 _ e3
    subst e1
    subst e3
    clear k1 k26 k37 k2 k3 lS5 lS7 hLo hro hoa hob hI hsa hsb hL2s hL2i hRpos hb6 hb7 hb8 b7
    go_wp2_with (fail)
    go_loopg [15,16] L.length (fun f v15 v16 wr => ∃ (vi:Value) (k:Nat) (I:List Txt),vi=v15∧v16 = .int .i64 k∧k+f=L.length∧I=(L.take k).map DpL.id∧OwnIds wr w8.heap.size vi I∧Below w8.heap.size w8 wr)
    case atStart=>exact ⟨_,0,[],rfl,rfl,by omega,rfl,World.ownsRow_nil _ _ _ _,Below.refl _ _⟩
    case round=>
     obtain ⟨vi,k,I,rfl,rfl,hkf,hI,hoi,hbel⟩:=hrel
     have hbs:=hbel.size
     obtain ⟨Ai,ci,rfl⟩:=own_form' hoi
     cases gk with
     | succ f=>
       have hki:(k:Int)<(L.length:Int):=by omega
       obtain ⟨ga,oa,rfl,hga,hca⟩:=hatL (by omega)
       obtain ⟨x,hx⟩ : ∃ x,L[k]?=some x:=⟨_,List.getElem?_eq_getElem (by omega)⟩
       have hxm:=List.mem_of_getElem? hx
       have hxok:=hLok x hxm
       have hxi:=hxok.1
       have hxr:=fun W (hW:Below w8.heap.size wr W)=>rangeAt_below (hca k x hx) hga (hbel.trans hW)
       have hlx : ∀ W,Below w8.heap.size wr W→(ldvI ⟨ga,oa+k*33,none⟩).run Tryz.prog W = .ok (.agg (u8s x.id)) W:=fun W hW=>run_ldvI_at (dptC_id (hxr W hW)) hxi
       have hln : ∀ W,Below w8.heap.size wr W→W.cell? ⟨ga,oa+k*33+32,none⟩=some (.int .i64 x.n):=fun W hW=>dptC_n hxi (hxr W hW)
       have hlx0:=hlx wr (Below.refl _ _)
       have hatx:=fun W (hW:Below w8.heap.size wr W)=>hat W (hbel.trans hW) x hxm
       simp only [hatn x hxm] at hatx
       have hI2:I++[x.id]=(L.take (k+1)).map DpL.id:=by rw [List.take_add_one,hx,List.map_append,←hI];rfl
       have hIl:I.length≤k:=by rw [hI,List.length_map,List.length_take];omega
       have hi32:(u8s x.id).size=32:=by rw [u8s_size,hxi]
       have hi132:(u8s x.id).size=1*32:=hi32
       have hi1' : ∀ u∈(u8s x.id).toList,u.oneCell'=true:=idC_one x.id
       have hAk:I.length+1≤9223372036854775807:=by omega
       have hAb:(I.length+1)*32≤140737488355328:=by omega
       obtain ⟨XC,hXC⟩ : ∃ XC,u8s x.id=XC:=⟨_,rfl⟩
       obtain ⟨XN,hXN⟩ : ∃ XN,x.n=XN:=⟨_,rfl⟩
       have hnn:((XN:Int) != (XN:Int))=false:=by simp
       simp only [hXC] at hlx hatx
       simp only [hXN] at hln hatx
       rw [hXC] at hlx0 hi32 hi132 hi1'
       replace hXC:=Lib.hid hXC
       clear hca hatL hat hatn hLok hxok hx hXN hI hxr hrise hidk hsok hdok hoa8 hob8 k4 hl8 hLs
       go_upto_region 20 with (first
        | ((with_reducible refine lit_slice1 (.tmp 107) Tryz.idsTy XC hi32 (by omega) ?_ ?_);rfl)
        | ((with_reducible refine lit_append_new (.tmp 102) (.tmp 108) 1 _ Tryz.idsTy hoi XC hi132 hi1' hAk hAb hbs ?_ ?_ ?_);rfl;rfl
           intro v9 w9 ho9 hb9 hg9 hn9))
       have ho9':OwnIds w9 w8.heap.size v9 (I++[x.id]):=own_snoc (by rw [hXC.out];exact ho9)
       clear hg9 hn9 ho9 hoi
       have hs9:w8.heap.size≤w9.heap.size:=Nat.le_trans hbs hb9.size
       refine wp_region_go0 13 (by kernel_rfl) (by kernel_rfl) (by kernel_rfl) (by kernel_rfl) ?_
       simp only [exSp]
       iterate 13 apply Exists.intro
       repeat
        first
         | ((with_reducible apply lx0_ex)
            ·(go_simp;done)
            apply Exists.intro
            apply And.intro
            ·apply Eq.refl
            apply And.intro
            ·intro W hW hD
             have hW2:=(hb9.trans (hW.mono hs9))
             have q0:=hlx W hW2
             have q1:=hln W hW2
             have q2:=bel_keepG hW (hatx W hW2)
             go_simp
             first
              | rfl
              | (with_reducible exact hatx W hW2)
            simp only [Act.put,zA,zB,zC])
         | ((with_reducible apply lx0_pass)
            ·(first | rfl | (go_simp;done))
            ·apply Eq.refl
            simp only [Act.put,zA,zB,zC])
       refine lx0_nil ?_ fun w10 hW10 hD10=>?_
       ·exact List.nodup_nil
       have ho10:=own_below ho9' hW10
       have b10:=(hbel.trans hb9).trans (hW10.mono hs9)
       clear hlx hlx0 hln hatx ho9'
       go_wp2_with (fail)
       go_roundg f
       case rel=>exact ⟨_,k+1,_,rfl,by go_num,by omega,hI2,ho10,b10⟩
       case measure=>omega
     | zero=>
       have hki : ¬ (k:Int)<(L.length:Int):=by omega
       have hke:L.take k=L:=List.take_of_length_le (by omega)
       rw [hke] at hI
       have b8r:=bthen b8 b8.size hbel
       have k4r:=k4 wr b8r
       have lSr:=lS wr b8r
       have hIok : ∀ x∈I,x.length=32:=by rw [hI];exact hidk
       have hIr:riseB I=true:=by rw [hI];exact riseB_iff.2 hrise
       have hiI:=SliceAt.of_own (idsK hIok) hoi
       have h12:=fun W (hW:Below wr.heap.size wr W) v (hv:Ids W v (sortU (shalL S R m)))=>Lib.hid (refSame02_calls _ hsok _ _ W ((SliceAt.of_own (idsK hsok) (own_below hoa8 hbel)).below hW) hv)
       have h13:=fun W (hW:Below wr.heap.size wr W) v (hv:Ids W v (sortU (deepL R m)))=>Lib.hid (refSame02_calls _ hdok _ _ W ((SliceAt.of_own (idsK hdok) (own_below hob8 hbel)).below hW) hv)
       have h14:=fun W (hW:Below wr.heap.size wr W)=>rise02_calls _ hIok _ W (hiI.below hW)
       rw [hIr] at h14
       have h14:=fun W hW=>Lib.hid (h14 W hW)
       have hKr:=fun W (hW:Below wr.heap.size wr W)=>hKn W (bthen b8r b8r.size hW)
       have b0r:=bthen b05 b05.size b8r
       have hzr:=Nat.le_refl wr.heap.size
       clear hatL hat hatn hLok hrise hidk hoi hI hl8 hLs lS hKn k4 hiI hoa8 hob8 hIok hIr
       have bq:=Below.refl wr.heap.size wr
       go_wp2_with (first
        | ((with_reducible refine k4r.out.mono ?_);rintro e w9 ⟨va2,vb2,rfl,hoa9,hob9,hb9⟩
           have h129:=h12 w9 hb9 va2 (SliceAt.of_own (idsK hsok) hoa9)
           have h13a:=fun W (hW:Below w9.heap.size w9 W)=>h13 W (bthen hb9 hb9.size hW) vb2 ((SliceAt.of_own (idsK hdok) hob9).below hW))
        | ((with_reducible refine h129.out.mono ?_);rintro e w10 ⟨rfl,hb10⟩
           have h1310:=h13a w10 hb10)
        | ((with_reducible refine h1310.out.mono ?_);rintro e w11 ⟨rfl,hb11⟩
           have b11:=bthen hb9 hb9.size (bthen hb10 hb10.size hb11)
           have hk11:=hKr w11 b11)
        | ((with_reducible refine hk11.out.mono ?_);rintro e w12 ⟨rfl,hb12⟩
           have b12:=bthen b11 b11.size hb12
           have h1412:=h14 w12 b12)
        | ((with_reducible refine h1412.out.mono ?_);rintro e w13 ⟨rfl,hb13⟩))
       go_ret
       exact ⟨rfl,bthen b0r b0r.size (bthen b12 b12.size hb13)⟩
   ·have k1:=fun vp vf W=>Lib.hid (depOfNo_calls vp vf n hn W)
    have k2:=fun vp vf W=>Lib.hid (depBoundNo_calls vp vf n hn W)
    have k15:=k1 (.pointer (some ⟨p,0,none⟩)) v w5
    have k25:=k2 (.pointer (some ⟨p,0,none⟩)) v w5
    have hK5:=hKn w5 (Below.refl _ _)
    clear k1 k2 hKn hD5 hS5 hfrI lS
    by_cases hn1:n<1
    ·clear hn
     go_wp2_with (first
      | ((with_reducible refine k15.out.mono ?_);rintro e w6 ⟨rfl,hw6⟩;obtain rfl:=hw6.symm)
      | ((with_reducible refine k25.out.mono ?_);rintro e w7 ⟨rfl,hw7⟩;obtain rfl:=hw7.symm)
      | ((with_reducible refine hK5.out.mono ?_);rintro e w8 ⟨rfl,hb8⟩))
     go_ret
     exact ⟨rfl,bthen b05 b05.size hb8⟩
    ·have hn2:1048576<n:=by omega
     clear hn
     go_wp2_with (first
      | ((with_reducible refine k15.out.mono ?_);rintro e w6 ⟨rfl,hw6⟩;obtain rfl:=hw6.symm)
      | ((with_reducible refine k25.out.mono ?_);rintro e w7 ⟨rfl,hw7⟩;obtain rfl:=hw7.symm)
      | ((with_reducible refine hK5.out.mono ?_);rintro e w8 ⟨rfl,hb8⟩))
     go_ret
     exact ⟨rfl,bthen b05 b05.size hb8⟩
end
end Go.Proofs.YtbhdfaadedlcfaaGreatDoor
namespace Go.Proofs.YtbhdfaadedlcfaaGreatDoor
open Go.ChangeShapes Go.WideShapes Go.ChangeAt Go.RowKit
theorem gTab : Tryz.prog.globalNamed "knapsack/sha256.constants" = some 0:=by kernel_rfl
theorem gTabType : (Tryz.prog.globals[0]?).map (·.type)=some 171:=by kernel_rfl
theorem cellsTab : Tryz.prog.cellsOf 171=64:=by kernel_rfl
theorem cellsU32 : Tryz.prog.cellsOf 57=1:=by kernel_rfl
theorem laid_is : (Rows.laid_knapsack_sha256_constants:DataW Unit)=Lib.tabData .u32 (K256.map fun n=>((n:Nat):Int)):=by kernel_rfl
theorem tabK_of {W:World} (h:laidMetH Tryz.prog [("knapsack/sha256.constants",Rows.laid_knapsack_sha256_constants)] W):TabK W:=by
 rw [laid_is] at h
 have ht:=Lib.tabIs_of_head (rest:=[]) gTab gTabType Tryz.underlying171 Tryz.underlying57 cellsU32 cellsTab h
 have hc (t:Nat) (h64:t<64):W.cell? ⟨0,t,none⟩=some (.int .u32 (K256.getD t 0:Nat)):=by
  rw [ht.cell gTab t (by rw [List.length_map,K256_length];exact h64)]
  have:t<K256.length:=by rw [K256_length];exact h64
  simp [List.getD,List.getElem?_map,List.getElem?_eq_getElem this]
 exact ⟨World.block_lt_of_cell? W _ (hc 0 (by omega)),hc⟩
noncomputable def laidWorld (os:Os):World:=
 { World.holding Tryz.prog os ⟨#[], #[],[]⟩ with heap:=(World.holding Tryz.prog os ⟨#[], #[],[]⟩).heap.modify 0 fun
  | .cells _ t frozen => .cells (u32s K256) t frozen
  | o=>o }
end Go.Proofs.YtbhdfaadedlcfaaGreatDoor
