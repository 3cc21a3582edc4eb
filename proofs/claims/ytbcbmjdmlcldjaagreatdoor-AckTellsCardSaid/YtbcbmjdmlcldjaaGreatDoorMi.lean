/- Texts of this claim, laid together: GsT, GsD, GsF, Sha, ShaB. -/
import Derived.Test.YtbcbmjdmlcldjaaGreatDoorMh
import Derived.Deep.MidRow
import Derived.StillTailTactics
import Derived.Deep.RegionHeld3
import Derived.Deep.DrawnRows
import Derived.Laws.CopyRow
import Derived.Lib.SlBuf
namespace Go.Proofs.YtbcbmjdmlcldjaaGreatDoor
open Go.RowKit
section
attribute [local go_sem ↓] ldvO_eq
theorem gEnt_ok (d:UInt8) (t:Txt) (h:t.length≤1000000):EntOk (gEnt d t):=by
 have h1:=(zA8 t).2
 have h2:=d.toNat_lt
 exact ⟨idG_len _,by show (takeN t).1.length≤_;omega,by show _≤(d.toNat:Int);omega,by show (d.toNat:Int)≤_;omega⟩
theorem gTree_ok : ∀ (f:Nat) (t:Txt) (acc:List EntL),t.length≤1000000→(∀ e∈acc,EntOk e) → ∀ e∈gTree f t acc,EntOk e
 | 0,t,acc,_,h=>by rw [gTree];exact h;intro a b c hc;cases hc
 | f+1,[],acc,_,h=>by rw [gTree];exact h;intro a b c hc hd;cases hd
 | f+1,d::t,acc,hl,h=>by
   rw [gTree]
   simp only [List.length_cons] at hl
   refine gTree_ok f _ _ (by simp only [List.length_drop];omega) ?_
   intro e he
   rcases List.mem_append.1 he with he | he
   ·exact h e he
   ·obtain rfl:=List.mem_singleton.1 he
    exact gEnt_ok d t (by omega)
theorem zCR {f:Nat} {t:Txt} {acc:List EntL} (h:f=0∨t=[]):gTree f t acc=acc:=by
 rcases h with rfl | rfl
 ·rw [gTree];intro a b c hc;cases hc
 ·cases f with
  | zero=>rw [gTree];intro a b c hc;cases hc
  | succ f=>rw [gTree];intro a b c hc hd;cases hd
theorem zD8 {f:Nat} {d:UInt8} {t:Txt} {acc:List EntL}:gTree (f+1) (d::t) acc=gTree f ((t.drop (takeN t).2).drop 32) (acc++[⟨(takeN t).1,d.toNat,idG (t.drop (takeN t).2)⟩]):=by rw [gTree];rfl
theorem treeO_ok (n:Int) (hn:0≤n) (hn2:n<256) (l:List EntL) (h : ∀ e∈l,EntOk e):ObjOk ⟨n,[],l,noId,[],0,[],noId,0,[]⟩:=
 ⟨zAi,zAi,h,(fun _ h=>by cases h),by simp,by simp,by simp,by simp,by show _≤n;omega,by show n≤_;omega,by simp,by simp⟩
set_option maxRecDepth 100000 in
set_option maxHeartbeats 4000000 in
theorem guess_tree (c:UInt8) (q:Txt) (hl:q.length≤5000) (hk:c.toNat=2) (hn0 : ¬ (takeN q).2=0) (w:World):Calls Tryz.prog 111 #[.string (B (c::q))] w fun e w'=>GsR ⟨2,[],gTree 65 (takeN q).1 [],noId,[],0,[],noId,0,[]⟩ w e w':=by
 have hgok:=Lib.hid (gTree_ok 65 (takeN q).1 [] (by have:=(zA8 q).2;omega) (by simp))
 have HK:=Lib.hid hk
 clear hk
 have hzv:=zeroObj
 have hzl:zObj.size=72:=zAF
 have htl:(takeN q).1.length≤q.length:=(zA8 q).2
 have htk : ∀ W,Calls Tryz.prog 137 #[.string (B q)] W fun e w'=>e = .returned (.tuple #[.string (B (takeN q).1), .int .i64 (takeN q).2])∧W=w':=fun W=>(zAN q (by omega) W).mono fun _ _ h=>⟨h.1,h.2.symm⟩
 generalize (takeN q).1=t at *
 generalize (takeN q).2=kn at *
 have hki:((kn:Int)==0)=false:=by simp;omega
 have hex:(B (c::q)).extract 1 (q.length+1)=B q:=by
  rw [zA3]
  simp
 obtain ⟨W1,hW1⟩ : ∃ W1,w.alloc (.cells zObj 68)=W1:=⟨_,rfl⟩
 have hx1:Blk W1 w.heap.size 68 zObj:=by rw [←hW1];exact Blk.new _ _ _
 have b1:Below w.heap.size w W1:=by rw [←hW1];exact (Below.refl _ _).alloc (Nat.le_refl _) _
 have hs1:w.heap.size<W1.heap.size:=by rw [←hW1];simp
 have htk:=Lib.hid htk
 have hc0:0≤(c.toNat:Int):=by omega
 have hc1:(c.toNat:Int)<256:=by have:=c.toNat_lt;omega
 have hbd:=zBv (c.toNat:Int)
 have e72:(objC ⟨c.toNat,[],[],noId,[],0,[],noId,0,[]⟩ (.slice none 0 0) (.slice none 0 0)).toArray.size=72:=by rw [List.size_toArray];unfold objC;simp only [List.length_cons,List.length_append,u8s_len,zAi,List.length_nil]
 have eone:(objC ⟨c.toNat,[],[],noId,[],0,[],noId,0,[]⟩ (.slice none 0 0) (.slice none 0 0)).toArray.all (·.oneCell')=true:=by kernel_rfl
 obtain ⟨X,hX⟩ : ∃ X,Hid ((⟨2,[],gTree 65 t [],noId,[],0,[],noId,0,[]⟩:ObjL)=X):=⟨_,Lib.hid rfl⟩
 rw [hX.out]
 go_enter Tryz.func111,Tryz.ntmps111
 go_upto_if 26 with (first
  | ((with_reducible refine zAU hbd ?_ ?_);rfl)
  | ((with_reducible refine lit_new 68 (.tmp 3) (.tmp 18) (objC ⟨c.toNat,[],[],noId,[],0,[],noId,0,[]⟩ (.slice none 0 0) (.slice none 0 0)).toArray 72 szObj e72 eone _ ?_ ?_ ?_ ?_)
     ·first | exact hzl | rfl
     ·rfl
     ·rfl
     intro W2 hb2 hbl2
     have hO2:ObjB W2 W1.heap.size ⟨c.toNat,[],[],noId,[],0,[],noId,0,[]⟩ (.slice none 0 0) (.slice none 0 0):=⟨hb2,zAi,zAi⟩
     have hI2:GsI w W2:=⟨hx1.below hbl2 hx1.lt,bthen b1 b1.size hbl2⟩
     have hgOB:W1.heap.size<W2.heap.size:=hb2.lt
     have tk2:=htk.out W2
     have tk2:=Lib.hid tk2
     clear hx1 b1 hb2 hbl2)
  | ((with_reducible refine tk2.out.mono ?_);rintro e w3 ⟨rfl,rfl⟩
     clear tk2))
 have ck:=hO2.kind
 simp only at ck
 have hsO:=hs1
 clear hW1 hbd e72 eone hs1
 generalize W1.heap.size=gO at *
 obtain ⟨BB,hBB⟩ : ∃ BB,BB=W2.heap.size:=⟨_,rfl⟩
 rw [←hBB] at hgOB
 have hnE:OwnEnts W2 BB (.slice none 0 0) []:=World.ownsRow_nil _ _ _ _
 have hnP:OwnIds W2 BB (.slice none 0 0) []:=World.ownsRow_nil _ _ _ _
 have hBs:BB≤W2.heap.size:=by omega
 have hwB:w.heap.size<BB:=by omega
 clear hBB
 rw [HK.out] at hO2 ck
 clear hnP
 have hki2:(c.toNat:Int)=2:=by rw [HK.out];rfl
 obtain ⟨Y,hY⟩ : ∃ Y,Hid (gTree 65 t []=Y):=⟨_,Lib.hid rfl⟩
 rw [hY.out] at hX hgok
 clear hc0 hc1
 go_wp2_with (fail)
 clear hki hki2 ck HK
 go_loopg [4,6] 65 (fun f s4 s6 wr => ∃ (n:Nat) (t':Txt) (acc:List EntL) (ve:Value),s6 = .int .i64 n∧s4 = .string (B t')∧n+f≤65∧65≤n+f∧acc.length≤n∧t'.length≤5000∧Hid (gTree f t' acc=Y)∧OwnEnts wr BB ve acc∧ObjB wr gO ⟨2,[],acc,noId,[],0,[],noId,0,[]⟩ ve (.slice none 0 0)∧GsI w wr∧BB≤wr.heap.size)
 case atStart=>exact ⟨0,t,[], .slice none 0 0,rfl,rfl,by omega,by omega,by simp,by omega,hY,hnE,hO2,hI2,hBs⟩
 case round=>
  obtain ⟨n,t',acc,ve,rfl,rfl,hn1,hn2,hacc,ht',hrel,hown,hOb,hI,hsz⟩:=hrel
  clear hnE hO2 hI2 hBs
  by_cases hend:gk=0∨t'=[]
  ·have hx:Hid (acc=Y):=by show _=_;rw [←hrel.out];exact (zCR hend).symm
   rw [hx.out] at hown hOb
   clear hrel hacc hx
   have hnP:OwnIds wr BB (.slice none 0 0) []:=World.ownsRow_nil _ _ _ _
   have hok:ObjOk (⟨2,[],Y,noId,[],0,[],noId,0,[]⟩:ObjL):=treeO_ok 2 (by omega) (by omega) Y hgok.out
   have hzF:=hI.z
   have hfin:=Lib.hid (GsR.of hok hI hown hnP hwB)
   have hq:=zAX hOb hok
   have hc72:(objC (⟨2,[],Y,noId,[],0,[],noId,0,[]⟩:ObjL) ve (.slice none 0 0)).toArray.size=72:=by rw [List.size_toArray,zAy hok]
   have hcone:=zBY (⟨2,[],Y,noId,[],0,[],noId,0,[]⟩:ObjL) hown hnP
   clear hI hown hOb hnP
   generalize hcs:(objC (⟨2,[],Y,noId,[],0,[],noId,0,[]⟩:ObjL) ve (.slice none 0 0)).toArray=cs at *
   have HC:=Lib.hid hcs
   clear hcs
   have hcsz:(Tryz.prog.info? 68).map (·.size)=some cs.size:=by rw [hc72];exact szObj
   by_cases hlt:n<65
   ·obtain rfl:t'=[]:=by
     rcases hend with h | h
     ·omega
     ·exact h
    have hlti:(n:Int)<65:=by omega
    clear hend
    go_wp2_with (first
     | (refine wpList_store_row rfl 68 (.tmp 2) (.tmp 138) rfl w.heap.size cs rfl rfl _ _ hzF hcsz (by rw [hzl,hc72]) hcone ?_))
    exact bodyPost_ret (results_cell_row rfl _ _ w.heap.size _ _ _ _ rfl (setRow_heap _ _ _ _ _ _ hzF) Tryz.underlying68 rfl hcsz) rfl (by rw [←hX.out];exact hfin.out)
   ·have hlti : ¬ (n:Int)<65:=by omega
    clear hend
    go_wp2_with (first
     | (refine wpList_store_row rfl 68 (.tmp 2) (.tmp 138) rfl w.heap.size cs rfl rfl _ _ hzF hcsz (by rw [hzl,hc72]) hcone ?_))
    exact bodyPost_ret (results_cell_row rfl _ _ w.heap.size _ _ _ _ rfl (setRow_heap _ _ _ _ _ _ hzF) Tryz.underlying68 rfl hcsz) rfl (by rw [←hX.out];exact hfin.out)
  ·cases gk with
   | zero=>exact absurd (.inl rfl) hend
   | succ f=>
   match t',hend with
   | [],hend=>exact absurd (.inr rfl) hend
   | d::t1,_=>
     clear hend
     have hlti:(n:Int)<65:=by omega
     simp only [List.length_cons] at ht'
     rw [zD8] at hrel
     have hm:=(zA8 t1).1
     have hnm:=(zA8 t1).2
     have htk1 : ∀ W,Calls Tryz.prog 137 #[.string (B t1)] W fun e w'=>e = .returned (.tuple #[.string (B (takeN t1).1), .int .i64 (takeN t1).2])∧W=w':=fun W=>(zAN t1 (by omega) W).mono fun _ _ h=>⟨h.1,h.2.symm⟩
     have hbe1 : ∀ W,Calls Tryz.prog 138 #[.string (B (d::t1)), .int .i64 (1+((takeN t1).2:Int))] W fun e w'=>e = .returned (.string (B (t1.drop (takeN t1).2))) ∧ ∃ nq,w'=W.drewN nq:=fun W=>by
      have:=zA4 (d::t1) (1+(takeN t1).2) (by simp only [List.length_cons];omega) (by omega) W
      rw [Int.natCast_add,Nat.add_comm 1,List.drop_succ_cons] at this
      exact this
     have hbe2 : ∀ W,Calls Tryz.prog 138 #[.string (B (t1.drop (takeN t1).2)), .int .i64 32] W fun e w'=>e = .returned (.string (B ((t1.drop (takeN t1).2).drop 32))) ∧ ∃ nq,w'=W.drewN nq:=fun W=>zA4 (t1.drop (takeN t1).2) 32 (by rw [List.length_drop];omega) (by omega) W
     have hrl:(t1.drop (takeN t1).2).length≤t1.length:=by rw [List.length_drop];omega
     have hidc:=fun W=>Lib.hid (zD5 (t1.drop (takeN t1).2) (by omega) W)
     have hex1:(B (d::t1)).extract 1 (t1.length+1)=B t1:=by
      rw [zA3]
      simp
     have hdl:((t1.drop (takeN t1).2).drop 32).length≤5000:=by rw [List.length_drop];omega
     generalize (t1.drop (takeN t1).2).drop 32=RR at *
     generalize t1.drop (takeN t1).2=RS at *
     generalize (takeN t1).1=NM at *
     generalize (takeN t1).2=m at *
     have htk1:=Lib.hid htk1
     have hbe1:=Lib.hid hbe1
     have hbe2:=Lib.hid hbe2
     have hd0:0≤(d.toNat:Int):=by omega
     have hd1:(d.toNat:Int)<256:=by have:=d.toNat_lt;omega
     have hm0:(m:Int)≤5000:=by omega
     clear hex tk2
     go_upto_region 14 with (first
      | ((with_reducible refine (htk1.out _).mono ?_);rintro e w3 ⟨rfl,rfl⟩)
      | ((with_reducible refine (hbe1.out _).mono ?_);rintro e w4 ⟨rfl,nq,rfl⟩))
     all_goals try (exfalso;omega)
     have hbd:=built_entry NM (d.toNat:Int) (idG RS) (idG_len RS)
     have hxok:EntOk ⟨NM,d.toNat,idG RS⟩:=⟨idG_len RS,by show NM.length≤_;omega,by show _≤(d.toNat:Int);omega,by show (d.toNat:Int)≤_;omega⟩
     have hotr:=hOb.tr
     have hota:=hOb.ta
     have hF1:F1 BB gO 68 (objC ⟨2,[],acc,noId,[],0,[],noId,0,[]⟩ ve (.slice none 0 0)).toArray 138 34 ve acc.length (rowsOf entC acc) (GsI w) (fun _=>True) (wr.drewN nq).drew:=⟨(hOb.blk.drewN nq).drew,hown,⟨(hI.z.drewN nq).drew,(bdrewN hI.bel nq).drew⟩,trivial,hsz⟩
     have hcO:(objC ⟨2,[],acc,noId,[],0,[],noId,0,[]⟩ ve (.slice none 0 0)).toArray.size=72:=by rw [List.size_toArray];unfold objC;simp only [List.length_cons,List.length_append,u8s_len,zAi,List.length_nil]
     have hve:(objC ⟨2,[],acc,noId,[],0,[],noId,0,[]⟩ ve (.slice none 0 0)).toArray[2]?=some ve:=rfl
     have hset:Hid (∀ v':Value,(objC ⟨2,[],acc,noId,[],0,[],noId,0,[]⟩ ve (.slice none 0 0)).toArray.setIfInBounds 2 v'=(objC ⟨2,[],acc++[⟨NM,d.toNat,idG RS⟩],noId,[],0,[],noId,0,[]⟩ v' (.slice none 0 0)).toArray):=fun v'=>by rw [List.setIfInBounds_toArray];rfl
     have hrow:Hid (rowsOf entC acc++entC ⟨NM,d.toNat,idG RS⟩=rowsOf entC (acc++[⟨NM,d.toNat,idG RS⟩])):=by show _=_;rw [zAo,zAp]
     have hm1:acc.length+1≤9223372036854775807:=by omega
     have hm2:(acc.length+1)*56≤140737488355328:=by omega
     have hIb:=fun w1 w2 (h:GsI w w1) (hb:Below w1.heap.size w1 w2)=>h.below hb
     have hIB:=fun w1 w2 (h:GsI w w1) (hb:Below BB w1 w2)=>h.low hwB hb
     have hIs:=fun v w1 (h:GsI w w1)=>h.set_ (o:=2) hsO v
     have hJb:=fun (w1 w2:World) (_:True) (_:Below w1.heap.size w1 w2)=>trivial
     clear hOb hown hI htk1 hbe1
     generalize (objC ⟨2,[],acc,noId,[],0,[],noId,0,[]⟩ ve (.slice none 0 0)).toArray=cO at *
     generalize hxx:(⟨NM,d.toNat,idG RS⟩:EntL)=x at *
     clear hxx
     obtain ⟨n',hn'⟩ : ∃ n',Hid (acc.length=n'):=⟨_,Lib.hid rfl⟩
     rw [hn'.out] at hF1 hm1 hm2
     obtain ⟨xs,hxs⟩ : ∃ xs,Hid (rowsOf entC acc=xs):=⟨_,Lib.hid rfl⟩
     rw [hxs.out] at hF1
     obtain ⟨II,hII⟩ : ∃ II,Hid (GsI w=II):=⟨_,Lib.hid rfl⟩
     rw [hII.out] at hF1
     have hIb : ∀ w1 w2,II w1→Below w1.heap.size w1 w2→II w2:=hII.out▸hIb
     have hIB : ∀ w1 w2,II w1→Below BB w1 w2→II w2:=hII.out▸hIB
     have hIs : ∀ v w1,II w1→II (w1.setCell ⟨gO,2,none⟩ v):=hII.out▸hIs
     obtain ⟨V,hV⟩ : ∃ V:Nat→Value,V=fun i=>[(.pointer (some ⟨gO,2,none⟩)),ve,(.string (B (d::t1))),(.int .u8 d.toNat),(.int .i64 d.toNat),(.string (B NM)),(.string (B RS)),(.agg (u8s (idG RS))),(.agg (entC x).toArray),undef,undef,(.pointer (some ⟨gO,2,none⟩)),undef].getD i undef:=⟨_,rfl⟩
     have v0:V 0=(.pointer (some ⟨gO,2,none⟩)):=by rw [hV];rfl
     have v1:V 1=ve:=by rw [hV];rfl
     have v2:V 2=(.string (B (d::t1))):=by rw [hV];rfl
     have v3:V 3=(.int .u8 d.toNat):=by rw [hV];rfl
     have v4:V 4=(.int .i64 d.toNat):=by rw [hV];rfl
     have v5:V 5=(.string (B NM)):=by rw [hV];rfl
     have v6:V 6=(.string (B RS)):=by rw [hV];rfl
     have v7:V 7=(.agg (u8s (idG RS))):=by rw [hV];rfl
     have v8:V 8=(.agg (entC x).toArray):=by rw [hV];rfl
     have v11:V 11=(.pointer (some ⟨gO,2,none⟩)):=by rw [hV];rfl
     have v12:V 12=undef:=by rw [hV];rfl
     clear hV
     refine zAR (C:=Stage 10 12 (F1 BB gO 68 cO 138 34 ve n' xs II (fun _=>True)) (F2 BB gO 68 cO II) (F3 BB gO 2 68 cO 138 34 n' xs (entC x) II)) (R:=StR V 9 10 (LitR BB 138 ve (entC x)) (AppR BB 138 34 n' xs (entC x))) (by kernel_rfl) (by kernel_rfl) (by kernel_rfl) ?_ ?_ ?_ ?_
     ·exact zAV (n:=139) (by kernel_rfl)
     ·exact Stage.start hF1
     ·intro i o listed a w1 ho hi hL
      have hin:=(zAt hi).1
      have hsz:listed.size=13:=hL.size
      match i,ho with
      | 0,ho=>
        obtain rfl:=(Option.some.inj ho).symm
        have e0:a.tmps[3]?.getD undef=(.pointer (some ⟨gO,0,none⟩)):=(zAf a 3).trans (hL.get_old hi (by kernel_rfl))
        have hc:=Stage.same (i:=0) hL.cls (by decide) (by decide)
        refine step_wp rfl rfl ?_
        clear hi ho hL hin
        refine wp_val (v:=(.pointer (some ⟨gO,2,none⟩))) ?_ ⟨_,rfl,StR.mk (by decide) (by decide) v0.symm,hc,fun _ _ _ h=>h⟩
        clear v0 v1 v2 v3 v4 v5 v6 v7 v8 v11 v12 hc
        unfold execOp
        go_simp
      | 1,ho=>
        obtain rfl:=(Option.some.inj ho).symm
        have hla:listed.getD 10 false=false:=hL.later (j:=10) hi (by kernel_rfl)
        have hls:listed.getD 12 false=false:=hL.later2 hla (by kernel_rfl)
        have hc1:=Stage.one hL.cls hla hls
        have e0:a.tmps[54]?.getD undef=(.pointer (some ⟨gO,2,none⟩)):=(zAf a 54).trans (((hL.get_new (j:=0) hi (by kernel_rfl)).at_ (by decide) (by decide)).trans v0)
        have hc:=Stage.same (i:=1) hL.cls (by decide) (by decide)
        refine step_wp rfl rfl ?_
        clear hi ho hL hin
        refine wp_val (v:=ve) ?_ ⟨_,rfl,StR.mk (by decide) (by decide) v1.symm,hc,fun _ _ _ h=>h⟩
        have f0:w1.cell? ⟨gO,2,none⟩=some ve:=by rw [hc1.blk.cell];exact hve
        clear hc1
        clear v0 v1 v2 v3 v4 v5 v6 v7 v8 v11 v12 hc
        unfold execOp
        go_simp
      | 2,ho=>
        obtain rfl:=(Option.some.inj ho).symm
        have e0:a.tmps[4]?.getD undef=(.string (B (d::t1))):=(zAf a 4).trans (hL.get_old hi (by kernel_rfl))
        have hc:=Stage.same (i:=2) hL.cls (by decide) (by decide)
        refine step_wp rfl rfl ?_
        clear hi ho hL hin
        refine wp_val (v:=(.string (B (d::t1)))) ?_ ⟨_,rfl,StR.mk (by decide) (by decide) v2.symm,hc,fun _ _ _ h=>h⟩
        clear v0 v1 v2 v3 v4 v5 v6 v7 v8 v11 v12 hc
        unfold execOp
        go_simp
      | 3,ho=>
        obtain rfl:=(Option.some.inj ho).symm
        have e0:a.tmps[56]?.getD undef=(.string (B (d::t1))):=(zAf a 56).trans (((hL.get_new (j:=2) hi (by kernel_rfl)).at_ (by decide) (by decide)).trans v2)
        have hc:=Stage.same (i:=3) hL.cls (by decide) (by decide)
        refine step_wp rfl rfl ?_
        clear hi ho hL hin
        refine wp_val (v:=(.int .u8 d.toNat)) ?_ ⟨_,rfl,StR.mk (by decide) (by decide) v3.symm,hc,fun _ _ _ h=>h⟩
        clear v0 v1 v2 v3 v4 v5 v6 v7 v8 v11 v12 hc
        unfold execOp
        go_simp
      | 4,ho=>
        obtain rfl:=(Option.some.inj ho).symm
        have e0:a.tmps[57]?.getD undef=(.int .u8 d.toNat):=(zAf a 57).trans (((hL.get_new (j:=3) hi (by kernel_rfl)).at_ (by decide) (by decide)).trans v3)
        have hc:=Stage.same (i:=4) hL.cls (by decide) (by decide)
        refine step_wp rfl rfl ?_
        clear hi ho hL hin
        refine wp_val (v:=(.int .i64 d.toNat)) ?_ ⟨_,rfl,StR.mk (by decide) (by decide) v4.symm,hc,fun _ _ _ h=>h⟩
        clear v0 v1 v2 v3 v4 v5 v6 v7 v8 v11 v12 hc
        unfold execOp
        go_simp
        exact IntWalk.i64_in _ (by omega)
      | 5,ho=>
        obtain rfl:=(Option.some.inj ho).symm
        have e0:a.tmps[7]?.getD undef=(.string (B NM)):=(zAf a 7).trans (hL.get_old hi (by kernel_rfl))
        have hc:=Stage.same (i:=5) hL.cls (by decide) (by decide)
        refine step_wp rfl rfl ?_
        clear hi ho hL hin
        refine wp_val (v:=(.string (B NM))) ?_ ⟨_,rfl,StR.mk (by decide) (by decide) v5.symm,hc,fun _ _ _ h=>h⟩
        clear v0 v1 v2 v3 v4 v5 v6 v7 v8 v11 v12 hc
        unfold execOp
        go_simp
      | 6,ho=>
        obtain rfl:=(Option.some.inj ho).symm
        have e0:a.tmps[9]?.getD undef=(.string (B RS)):=(zAf a 9).trans (hL.get_old hi (by kernel_rfl))
        have hc:=Stage.same (i:=6) hL.cls (by decide) (by decide)
        refine step_wp rfl rfl ?_
        clear hi ho hL hin
        refine wp_val (v:=(.string (B RS))) ?_ ⟨_,rfl,StR.mk (by decide) (by decide) v6.symm,hc,fun _ _ _ h=>h⟩
        clear v0 v1 v2 v3 v4 v5 v6 v7 v8 v11 v12 hc
        unfold execOp
        go_simp
      | 7,ho=>
        obtain rfl:=(Option.some.inj ho).symm
        have hla:listed.getD 10 false=false:=hL.later2 (hL.later2 (hL.later (j:=8) hi (by kernel_rfl)) (by kernel_rfl:waitsB _ 9 8=true)) (by kernel_rfl)
        have hls:listed.getD 12 false=false:=hL.later2 hla (by kernel_rfl)
        have hc1:=Stage.one hL.cls hla hls
        have e0:a.tmps[60]?.getD undef=(.string (B RS)):=(zAf a 60).trans (((hL.get_new (j:=6) hi (by kernel_rfl)).at_ (by decide) (by decide)).trans v6)
        refine step_wp rfl rfl ?_
        refine zDz rfl (vals := #[.string (B RS)]) (map1 (slot_is e0)) (by go_simp) (hidc w1).out ?_
        rintro e w2 ⟨rfl,hb2⟩
        exact ⟨_,rfl,_,rfl,StR.mk (by decide) (by decide) v7.symm,Stage.to1 (hc1.below hb2 (hIb _ _ hc1.inv hb2) trivial) hla hls (by decide) (by decide),fun j u _ h=>StR.keep (fun _ h=>h.below hb2) (fun _ h=>h.below hb2) j u h⟩
      | 8,ho=>
        obtain rfl:=(Option.some.inj ho).symm
        have hla:listed.getD 10 false=false:=hL.later2 (hL.later (j:=9) hi (by kernel_rfl)) (by kernel_rfl)
        have hls:listed.getD 12 false=false:=hL.later2 hla (by kernel_rfl)
        have hc1:=Stage.one hL.cls hla hls
        have e0:a.tmps[58]?.getD undef=(.int .i64 d.toNat):=(zAf a 58).trans (((hL.get_new (j:=4) hi (by kernel_rfl)).at_ (by decide) (by decide)).trans v4)
        have e1:a.tmps[59]?.getD undef=(.string (B NM)):=(zAf a 59).trans (((hL.get_new (j:=5) hi (by kernel_rfl)).at_ (by decide) (by decide)).trans v5)
        have e2:a.tmps[61]?.getD undef=(.agg (u8s (idG RS))):=(zAf a 61).trans (((hL.get_new (j:=7) hi (by kernel_rfl)).at_ (by decide) (by decide)).trans v7)
        refine step_wp rfl rfl ?_
        refine build_step rfl hbd (parts3 (slot_is e0) (slot_is e1) (slot_is e2)) ⟨_,rfl,StR.mk (by decide) (by decide) v8.symm,Stage.to1 hc1 hla hls (by decide) (by decide),fun _ _ _ h=>h⟩
      | 9,ho=>
        obtain rfl:=(Option.some.inj ho).symm
        have hla:listed.getD 10 false=false:=hL.later (j:=10) hi (by kernel_rfl)
        have hls:listed.getD 12 false=false:=hL.later2 hla (by kernel_rfl)
        have hc1:=Stage.one hL.cls hla hls
        have e0:a.tmps[62]?.getD undef=(.agg (entC x).toArray):=(zAf a 62).trans (((hL.get_new (j:=8) hi (by kernel_rfl)).at_ (by decide) (by decide)).trans v8)
        refine step_wp rfl rfl ?_
        have hbA:Below w1.heap.size w1 (w1.alloc (.cells (entC x).toArray 138)):=(Below.refl _ _).alloc (Nat.le_refl _) _
        refine zCy rfl Tryz.entTy (by decide) (zBw hxok) (.inl ( ((zAf a 62).symm.trans e0))) ⟨_,rfl,StR.mkLit ⟨w1.heap.size,rfl,Blk.new _ _ _,hc1.size,fun h=>by have:=(World.ownsRow.lt hc1.own _ h).2;omega⟩,Stage.to1 (hc1.below hbA (hIb _ _ hc1.inv hbA) (hJb _ _ hc1.pre hbA)) hla hls (by decide) (by decide),fun j u _ h=>StR.keep (fun _ h=>h.below hbA) (fun _ h=>h.below hbA) j u h⟩
      | 10,ho=>
        obtain rfl:=(Option.some.inj ho).symm
        have hla:listed.getD 10 false=false:=(zAw (by rw [hsz];exact hin)).trans (zAt hi).2.1
        have hls:listed.getD 12 false=false:=hL.later2 hla (by kernel_rfl)
        have hc1:=Stage.one hL.cls hla hls
        have hx:=(hL.get_new (j:=9) (t:=63) hi (by kernel_rfl)).lit
        have hs:a.eval (.tmp 55)=ve:=((hL.get_new (j:=1) hi (by kernel_rfl)).at_ (by decide) (by decide)).trans v1
        refine step_wp rfl rfl ?_
        refine zEO rfl Tryz.entTy hc1 hgOB hx (zBw hxok) (zD7 x) hm1 hm2 (fun w2 hb=>hIB _ _ hc1.inv hb) hs rfl ?_
        intro v2 w2 hf2 ha2 hk2 hb2
        exact ⟨_,rfl,StR.mkApp ha2 (by decide),Stage.to2 hf2 hls (by rw [hsz];decide) (by decide),fun j u hj h=>StR.keepL hk2 (fun e=>by rw [e,hla] at hj;cases hj) h⟩
      | 11,ho=>
        obtain rfl:=(Option.some.inj ho).symm
        have e0:a.tmps[3]?.getD undef=(.pointer (some ⟨gO,0,none⟩)):=(zAf a 3).trans (hL.get_old hi (by kernel_rfl))
        have hc:=Stage.same (i:=11) hL.cls (by decide) (by decide)
        refine step_wp rfl rfl ?_
        clear hi ho hL hin
        refine wp_val (v:=(.pointer (some ⟨gO,2,none⟩))) ?_ ⟨_,rfl,StR.mk (by decide) (by decide) v11.symm,hc,fun _ _ _ h=>h⟩
        clear v0 v1 v2 v3 v4 v5 v6 v7 v8 v11 v12 hc
        unfold execOp
        go_simp
      | 12,ho=>
        obtain rfl:=(Option.some.inj ho).symm
        have hla:listed.getD 10 false=true:=hL.before hi (by kernel_rfl)
        have hls:listed.getD 12 false=false:=(zAw (by rw [hsz];exact hin)).trans (zAt hi).2.1
        have hc2:=Stage.two hL.cls hla hls
        have e0:a.tmps[65]?.getD undef=(.pointer (some ⟨gO,2,none⟩)):=(zAf a 65).trans (((hL.get_new (j:=11) hi (by kernel_rfl)).at_ (by decide) (by decide)).trans v11)
        have hv:=(hL.get_new (j:=10) (t:=64) hi (by kernel_rfl)).app (by decide)
        obtain ⟨vA,vK,hvv⟩:=zAl hv
        rw [hvv] at hv
        have e1:a.tmps[64]?.getD undef=_:=(zAf a 64).trans hvv
        have c0:(w1.cell? ⟨gO,2,none⟩).isSome=true:=(hc2.blk.there (o:=2) (n:=1) (by rw [hcO];decide) 0 (by decide)).1
        obtain ⟨c0v,c0⟩:=Option.isSome_iff_exists.1 c0
        have f0:=hc2.blk.frozen 2
        have hR:=fun u=>AppR.set_ (p:=⟨gO,2,none⟩) (hv) hgOB u
        have h3:=Stage.to3 (ap:=10) (P1:=(F1 BB gO 68 cO 138 34 ve n' xs II (fun _=>True))) (P2:=(F2 BB gO 68 cO II)) (hc2.stored (off:=2) hv hgOB (hIs _ _ hc2.inv)) (listed:=listed) (st:=12) (by rw [hsz];decide)
        refine step_wp rfl rfl ?_
        clear hi ho hL hin hc2
        refine wp_skip (w':=w1.setCell ⟨gO,2,none⟩ _) ?_ ⟨_,rfl,StR.mk (by decide) (by decide) v12.symm,h3,fun j u _ h=>StR.keep (fun _ h=>h.set_ hgOB _) (fun _ h=>AppR.set_ h hgOB _) j u h⟩
        clear v0 v1 v2 v3 v4 v5 v6 v7 v8 v11 v12 h3
        unfold execOp
        go_simp
      | (n+13),ho=>exact absurd hin (by simp)
     ·intro a w1 listed hL hall
      obtain ⟨v3,hb3,ho3,hi3,hsz3⟩:=Stage.three hL.cls (hall 12 (by decide))
      rw [←hII.out] at hi3
      rw [hset.out] at hb3
      have hob3:ObjB w1 gO ⟨2,[],acc++[x],noId,[],0,[],noId,0,[]⟩ v3 (.slice none 0 0):=⟨hb3,hotr,hota⟩
      rw [←hxs.out,←hn'.out,hrow.out] at ho3
      have hown3:OwnEnts w1 BB v3 (acc++[x]):=by unfold OwnEnts;rw [List.length_append];exact ho3
      have hl3:(acc++[x]).length≤n+1:=by rw [List.length_append];simp only [List.length_cons,List.length_nil];omega
      have hd4:=hL.frame (by kernel_rfl) (zAV (n:=139) (by kernel_rfl)) hall
      obtain ⟨vs,rfl,hR⟩:=hd4
      clear hL hall hR hF1 hIb hIB hIs hJb hII hset hrow hxs hn' hm1 hm2 hb3 ho3 hve hcO hidc hbd
      simp only [putAll,Act.put,List.setIfInBounds_toArray,List.set_cons_zero,List.set_cons_succ]
      go_wp2_with (first
       | ((with_reducible refine (hbe2.out _).mono ?_);rintro e w5 ⟨rfl,nq2,rfl⟩))
      go_roundg f
      case rel=>exact ⟨n+1,RR,acc++[x],v3,by go_num,rfl,by omega,by omega,hl3,hdl,hrel,hown3,⟨hob3.blk.drewN nq2,hob3.tr,hob3.ta⟩,⟨hi3.z.drewN nq2,bdrewN hi3.bel nq2⟩,hsz3⟩
      case measure=>exact Nat.lt_succ_self f
end
section
attribute [local go_sem ↓] ldvO_eq
theorem commitO_ok (i:Txt) (hi:i.length=32) (l:List Txt) (hl : ∀ p∈l,p.length=32) (n:Nat) (hn:n<4294967296) (t:Txt) (ht:t.length≤5000):ObjOk ⟨3,[],[],i,l,n,t,noId,0,[]⟩:=
 ⟨hi,zAi,(fun _ h=>by cases h),hl,by simp,by show t.length≤_;omega,by simp,hn,by simp,by simp,by simp,by simp⟩
theorem gPars_le : ∀ (n:Nat) (t:Txt) (acc:List Txt),(gPars n t acc).2.length≤t.length
 | 0,t,acc=>Nat.le_refl _
 | n+1,t,acc=>by
   rw [gPars]
   exact Nat.le_trans (gPars_le n _ _) (by rw [List.length_drop];omega)
theorem own_drewN {w:World} {B m k:Nat} {e:TypeId} {v:Value} {zs:List Value} (h:w.ownsRow B e k v m zs) (n:Nat):(w.drewN n).ownsRow B e k v m zs:=h
theorem getPair_is (s:Txt):getPair (get s) = .tuple #[.int .u64 (getN s).1, .int .i64 (getN s).2]:=by
 unfold getN
 cases get s<;>rfl
set_option maxRecDepth 100000 in
set_option maxHeartbeats 4000000 in
theorem guess_commit (c:UInt8) (q:Txt) (hl:q.length≤5000) (hk:c.toNat=3) (hn0 : ¬ (takeN q).2=0) (w:World):Calls Tryz.prog 111 #[.string (B (c::q))] w fun e w'=>GsR (gCommit (takeN q).1) w e w':=by
 have HK:=Lib.hid hk
 clear hk
 have hzv:=zeroObj
 have hzl:zObj.size=72:=zAF
 have htl:(takeN q).1.length≤q.length:=(zA8 q).2
 have htk : ∀ W,Calls Tryz.prog 137 #[.string (B q)] W fun e w'=>e = .returned (.tuple #[.string (B (takeN q).1), .int .i64 (takeN q).2])∧W=w':=fun W=>(zAN q (by omega) W).mono fun _ _ h=>⟨h.1,h.2.symm⟩
 generalize (takeN q).1=t at *
 generalize (takeN q).2=kn at *
 have hki:((kn:Int)==0)=false:=by simp;omega
 have hex:(B (c::q)).extract 1 (q.length+1)=B q:=by
  rw [zA3]
  simp
 obtain ⟨W1,hW1⟩ : ∃ W1,w.alloc (.cells zObj 68)=W1:=⟨_,rfl⟩
 have hx1:Blk W1 w.heap.size 68 zObj:=by rw [←hW1];exact Blk.new _ _ _
 have b1:Below w.heap.size w W1:=by rw [←hW1];exact (Below.refl _ _).alloc (Nat.le_refl _) _
 have hs1:w.heap.size<W1.heap.size:=by rw [←hW1];simp
 have htk:=Lib.hid htk
 have hc0:0≤(c.toNat:Int):=by omega
 have hc1:(c.toNat:Int)<256:=by have:=c.toNat_lt;omega
 have hbd:=zBv (c.toNat:Int)
 have e72:(objC ⟨c.toNat,[],[],noId,[],0,[],noId,0,[]⟩ (.slice none 0 0) (.slice none 0 0)).toArray.size=72:=by rw [List.size_toArray];unfold objC;simp only [List.length_cons,List.length_append,u8s_len,zAi,List.length_nil]
 have eone:(objC ⟨c.toNat,[],[],noId,[],0,[],noId,0,[]⟩ (.slice none 0 0) (.slice none 0 0)).toArray.all (·.oneCell')=true:=by kernel_rfl
 obtain ⟨X,hX⟩ : ∃ X,Hid (gCommit t=X):=⟨_,Lib.hid rfl⟩
 rw [hX.out]
 go_enter Tryz.func111,Tryz.ntmps111
 go_upto_if 26 with (first
  | ((with_reducible refine zAU hbd ?_ ?_);rfl)
  | ((with_reducible refine lit_new 68 (.tmp 3) (.tmp 18) (objC ⟨c.toNat,[],[],noId,[],0,[],noId,0,[]⟩ (.slice none 0 0) (.slice none 0 0)).toArray 72 szObj e72 eone _ ?_ ?_ ?_ ?_)
     ·first | exact hzl | rfl
     ·rfl
     ·rfl
     intro W2 hb2 hbl2
     have hO2:ObjB W2 W1.heap.size ⟨c.toNat,[],[],noId,[],0,[],noId,0,[]⟩ (.slice none 0 0) (.slice none 0 0):=⟨hb2,zAi,zAi⟩
     have hI2:GsI w W2:=⟨hx1.below hbl2 hx1.lt,bthen b1 b1.size hbl2⟩
     have hgOB:W1.heap.size<W2.heap.size:=hb2.lt
     have tk2:=htk.out W2
     have tk2:=Lib.hid tk2
     clear hx1 b1 hb2 hbl2)
  | ((with_reducible refine tk2.out.mono ?_);rintro e w3 ⟨rfl,rfl⟩
     clear tk2))
 have ck:=hO2.kind
 simp only at ck
 have hsO:=hs1
 clear hW1 hbd e72 eone hs1
 generalize W1.heap.size=gO at *
 obtain ⟨BB,hBB⟩ : ∃ BB,BB=W2.heap.size:=⟨_,rfl⟩
 rw [←hBB] at hgOB
 have hnE:OwnEnts W2 BB (.slice none 0 0) []:=World.ownsRow_nil _ _ _ _
 have hnP:OwnIds W2 BB (.slice none 0 0) []:=World.ownsRow_nil _ _ _ _
 have hBs:BB≤W2.heap.size:=by omega
 have hwB:w.heap.size<BB:=by omega
 clear hBB
 rw [HK.out] at hO2 ck
 have hki2:(c.toNat:Int)=3:=by rw [HK.out];rfl
 clear hc0 hc1
 have hA:Hid ((⟨3,[],[],idG t,(gPars (min (getN (t.drop 32)).1 9) ((t.drop 32).drop (getN (t.drop 32)).2) []).1,(getN (gPars (min (getN (t.drop 32)).1 9) ((t.drop 32).drop (getN (t.drop 32)).2) []).2).1%4294967296,(takeN ((gPars (min (getN (t.drop 32)).1 9) ((t.drop 32).drop (getN (t.drop 32)).2) []).2.drop (getN (gPars (min (getN (t.drop 32)).1 9) ((t.drop 32).drop (getN (t.drop 32)).2) []).2).2)).1,noId,0,[]⟩:ObjL)=X):=hX.out
 clear hX hnP hnE
 have hi32:=idG_len t
 have hgi:=fun W=>Lib.hid (zD5 t (by omega) W)
 have hb1 : ∀ W,Calls Tryz.prog 138 #[.string (B t), .int .i64 32] W fun e w'=>e = .returned (.string (B (t.drop 32))) ∧ ∃ nq,w'=W.drewN nq:=fun W=>zA4 t 32 (by omega) (by omega) W
 have hal:(t.drop 32).length≤t.length:=by rw [List.length_drop];omega
 have hbl:((t.drop 32).drop (getN (t.drop 32)).2).length≤t.length:=by rw [List.length_drop];omega
 have hgl:=getN_le (t.drop 32)
 have hgn:=getN_num (t.drop 32)
 have hg1 : ∀ W,Calls Tryz.prog 140 #[.string (B (t.drop 32))] W fun e w'=>e = .returned (.tuple #[.int .u64 (getN (t.drop 32)).1, .int .i64 (getN (t.drop 32)).2])∧W=w':=fun W=>(zCN (t.drop 32) (by omega) W).mono fun _ _ h=>⟨by rw [←getPair_is];exact h.1,h.2.symm⟩
 have hb2 : ∀ W,Calls Tryz.prog 138 #[.string (B (t.drop 32)), .int .i64 (getN (t.drop 32)).2] W fun e w'=>e = .returned (.string (B ((t.drop 32).drop (getN (t.drop 32)).2))) ∧ ∃ nq,w'=W.drewN nq:=fun W=>zA4 (t.drop 32) _ (by omega) (by omega) W
 have hPl:=gPars_le (min (getN (t.drop 32)).1 9) ((t.drop 32).drop (getN (t.drop 32)).2) []
 have hPs:=Lib.hid (zDt (min (getN (t.drop 32)).1 9) ((t.drop 32).drop (getN (t.drop 32)).2) [] (by simp))
 obtain ⟨P,hP⟩ : ∃ P,Hid (gPars (min (getN (t.drop 32)).1 9) ((t.drop 32).drop (getN (t.drop 32)).2) []=P):=⟨_,Lib.hid rfl⟩
 rw [hP.out] at hA hPl hPs
 have hg2l:=getN_le P.2
 have hg2n:=getN_num P.2
 have hg2 : ∀ W,Calls Tryz.prog 140 #[.string (B P.2)] W fun e w'=>e = .returned (.tuple #[.int .u64 (getN P.2).1, .int .i64 (getN P.2).2])∧W=w':=fun W=>(zCN P.2 (by omega) W).mono fun _ _ h=>⟨by rw [←getPair_is];exact h.1,h.2.symm⟩
 have hb3 : ∀ W,Calls Tryz.prog 138 #[.string (B P.2), .int .i64 (getN P.2).2] W fun e w'=>e = .returned (.string (B (P.2.drop (getN P.2).2))) ∧ ∃ nq,w'=W.drewN nq:=fun W=>zA4 P.2 _ (by omega) (by omega) W
 have hdl:(P.2.drop (getN P.2).2).length≤P.2.length:=by rw [List.length_drop];omega
 have htk3 : ∀ W,Calls Tryz.prog 137 #[.string (B (P.2.drop (getN P.2).2))] W fun e w'=>e = .returned (.tuple #[.string (B (takeN (P.2.drop (getN P.2).2)).1), .int .i64 (takeN (P.2.drop (getN P.2).2)).2])∧W=w':=fun W=>(zAN (P.2.drop (getN P.2).2) (by omega) W).mono fun _ _ h=>⟨h.1,h.2.symm⟩
 have hnl:=(zA8 (P.2.drop (getN P.2).2)).2
 have hb1:=Lib.hid hb1
 have hb2:=Lib.hid hb2
 have hb3:=Lib.hid hb3
 have hg1:=Lib.hid hg1
 have hg2:=Lib.hid hg2
 have htk3:=Lib.hid htk3
 generalize takeN (P.2.drop (getN P.2).2)=TX at *
 generalize P.2.drop (getN P.2).2=R5 at *
 generalize getN P.2=G2 at *
 generalize idG t=ID at *
 generalize (t.drop 32).drop (getN (t.drop 32)).2=R2 at *
 generalize getN (t.drop 32)=G1 at *
 generalize t.drop 32=R1 at *
 go_upto_region 21 with (first
  | ((with_reducible refine (hgi _).out.mono ?_);rintro e w3 ⟨rfl,hbl3⟩
     have hO3:=hO2.below hbl3
     have hI3:=hI2.below hbl3
     have hs3:=Nat.le_trans hBs hbl3.size
     have ht3:=hO3.there 3 32 (by omega)
     clear hO2 hI2 hBs)
  | ((with_reducible refine zBt (.tmp 72) (.tmp 71) gO 3 ID hi32 ht3 ?_ ?_ ?_);rfl;rfl
     have hO4:=hO3.setTree ID hi32
     have hI4:=hI3.cells_ (o:=3) hsO (u8s ID).toList
     have hs4:BB≤(w3.setCells gO 3 (u8s ID).toList).heap.size:=by rw [zDU];exact hs3
     clear hO3 hI3 ht3 hs3)
  | ((with_reducible refine (hb1.out _).mono ?_);rintro e w5 ⟨rfl,nq,rfl⟩
     have hO5:=hO4.drewN nq
     have hI5:=hI4.drewN nq
     have hs5:BB≤((w3.setCells gO 3 (u8s ID).toList).drewN nq).heap.size:=hs4
     clear hO4 hI4 hs4)
  | ((with_reducible refine (hg1.out _).mono ?_);rintro e w6 ⟨rfl,rfl⟩)
  | ((with_reducible refine (hb2.out _).mono ?_);rintro e w7 ⟨rfl,nq2,rfl⟩
     have hO7:=hO5.drewN nq2
     have hI7:=hI5.drewN nq2
     have hs7:BB≤(((w3.setCells gO 3 (u8s ID).toList).drewN nq).drewN nq2).heap.size:=hs5
     clear hO5 hI5 hs5))
 clear hgi hb1 hg1 hb2 hex tk2
 rw [World.drewN_drewN] at hO7 hI7 hs7
 generalize (w3.setCells gO 3 (u8s ID).toList).drewN (nq+nq2)=W7 at *
 have hnP:OwnIds W7 BB (.slice none 0 0) []:=World.ownsRow_nil _ _ _ _
 have hOX:ObjB W7 gO ⟨3,[],[],ID,[],0,[],noId,0,[]⟩ (.slice none 0 0) (.slice none 0 0):=hO7
 have h9:min G1.1 9≤0+min G1.1 9:=by omega
 have h9':0+min G1.1 9≤min G1.1 9:=by omega
 have hRl:R2.length≤5000:=by omega
 clear hO7
 go_wp2_with (fail)
 go_loopg [4,12] (min G1.1 9) (fun f s4 s12 wr => ∃ (j:Nat) (t1:Txt) (acc:List Txt) (vp:Value),s12 = .int .u64 j∧s4 = .string (B t1)∧min G1.1 9≤j+f∧j+f≤min G1.1 9∧acc.length≤j∧t1.length≤5000∧Hid (gPars f t1 acc=P)∧OwnIds wr BB vp acc∧ObjB wr gO ⟨3,[],[],ID,acc,0,[],noId,0,[]⟩ (.slice none 0 0) vp∧GsI w wr∧BB≤wr.heap.size)
 case atStart=>exact ⟨0,R2,[], .slice none 0 0,rfl,rfl,h9,h9',by simp,hRl,hP,hnP,hOX,hI7,hs7⟩
 case round=>
  obtain ⟨j,t1,acc,vp,rfl,rfl,hj1,hj2,hacc,ht1,hrel,hown,hOb,hI,hsz⟩:=hrel
  clear hP hnP hOX hI7 hs7 hRl h9 h9'
  cases gk with
  | zero=>
    have hx:Hid ((acc,t1)=P):=hrel.out
    have e1:Hid (acc=P.1):=by show _=_;rw [←hx.out]
    have e2:Hid (t1=P.2):=by show _=_;rw [←hx.out]
    rw [e1.out] at hown hOb
    rw [e2.out]
    clear hrel hx e1 hacc e2 ht1
    have f36:=hOb.fr 36
    have c36:=hOb.time
    have hOt:=hOb.setTime (G2.1%4294967296)
    have hIt:=hI.set_ (o:=36) hsO (.int .u32 (G2.1%4294967296:Nat))
    have hwt:=own_set (p:=⟨gO,36,none⟩) hown hgOB (.int .u32 (G2.1%4294967296:Nat))
    have hcast:((G2.1%4294967296:Nat):Int)=(G2.1:Int)%4294967296:=by omega
    have e36:Value.int .u32 ((G2.1%4294967296:Nat):Int) = .int .u32 ((G2.1:Int)%4294967296):=by rw [hcast]
    rw [e36] at hOt hIt hwt
    have hem0:0≤(G2.1:Int)%4294967296:=by omega
    have hem1:(G2.1:Int)%4294967296<4294967296:=by omega
    have hok:ObjOk ⟨3,[],[],ID,P.1,G2.1%4294967296,TX.1,noId,0,[]⟩:=commitO_ok ID hi32 P.1 hPs.out _ (by omega) TX.1 (by omega)
    clear hcast e36 hOb hI
    by_cases hjn:j<G1.1
    ·have i1:(j:Int)<(G1.1:Int):=by omega
     have i2 : ¬ (j:Int)<9:=by omega
     go_upto_region 35 with (first
      | ((with_reducible refine (hg2.out _).mono ?_);rintro e w8 ⟨rfl,rfl⟩)
      | ((with_reducible refine (hb3.out _).mono ?_);rintro e w9 ⟨rfl,nq3,rfl⟩
         have hO9:=hOt.drewN nq3
         have hI9:=hIt.drewN nq3
         have f37:=hO9.fr 37
         have c37:=hO9.text
         clear hOt hIt f36 c36)
      | ((with_reducible refine (htk3.out _).mono ?_);rintro e w10 ⟨rfl,rfl⟩
         have hO10:=hO9.setText TX.1
         have hI10:=hI9.set_ (o:=37) hsO (.string (B TX.1))
         have hw10:=own_set (p:=⟨gO,37,none⟩) (own_drewN hwt nq3) hgOB (.string (B TX.1))
         clear hO9 hI9 hwt))
     all_goals try (exfalso;omega)
     have hzF:=hI10.z
     have hE10 : ∀ W,OwnEnts W BB (.slice none 0 0) []:=fun W=>World.ownsRow_nil _ _ _ _
     have hfin:=Lib.hid (GsR.of hok hI10 (hE10 _) hw10 hwB)
     have hq:=zAX hO10 hok
     have hc72:(objC (⟨3,[],[],ID,P.1,G2.1%4294967296,TX.1,noId,0,[]⟩:ObjL) (.slice none 0 0) vp).toArray.size=72:=by rw [List.size_toArray,zAy hok]
     have hcone:=zBY (⟨3,[],[],ID,P.1,G2.1%4294967296,TX.1,noId,0,[]⟩:ObjL) (hE10 _) hw10
     clear hI10 hO10 hE10 hw10 f37 c37
     have hX:Hid ((⟨3,[],[],ID,P.1,G2.1%4294967296,TX.1,noId,0,[]⟩:ObjL)=X):=hA
     generalize hcs:(objC (⟨3,[],[],ID,P.1,G2.1%4294967296,TX.1,noId,0,[]⟩:ObjL) (.slice none 0 0) vp).toArray=cs at *
     have HC:=Lib.hid hcs
     clear hcs
     have hcsz:(Tryz.prog.info? 68).map (·.size)=some cs.size:=by rw [hc72];exact szObj
     go_wp2_with (first
      | (refine wpList_store_row rfl 68 (.tmp 2) (.tmp 138) rfl w.heap.size cs rfl rfl _ _ hzF hcsz (by rw [hzl,hc72]) hcone ?_))
     exact bodyPost_ret (results_cell_row rfl _ _ w.heap.size _ _ _ _ rfl (setRow_heap _ _ _ _ _ _ hzF) Tryz.underlying68 rfl hcsz) rfl (by rw [←hX.out];exact hfin.out)
    ·have i1 : ¬ (j:Int)<(G1.1:Int):=by omega
     go_upto_region 35 with (first
      | ((with_reducible refine (hg2.out _).mono ?_);rintro e w8 ⟨rfl,rfl⟩)
      | ((with_reducible refine (hb3.out _).mono ?_);rintro e w9 ⟨rfl,nq3,rfl⟩
         have hO9:=hOt.drewN nq3
         have hI9:=hIt.drewN nq3
         have f37:=hO9.fr 37
         have c37:=hO9.text
         clear hOt hIt f36 c36)
      | ((with_reducible refine (htk3.out _).mono ?_);rintro e w10 ⟨rfl,rfl⟩
         have hO10:=hO9.setText TX.1
         have hI10:=hI9.set_ (o:=37) hsO (.string (B TX.1))
         have hw10:=own_set (p:=⟨gO,37,none⟩) (own_drewN hwt nq3) hgOB (.string (B TX.1))
         clear hO9 hI9 hwt))
     all_goals try (exfalso;omega)
     have hzF:=hI10.z
     have hE10 : ∀ W,OwnEnts W BB (.slice none 0 0) []:=fun W=>World.ownsRow_nil _ _ _ _
     have hfin:=Lib.hid (GsR.of hok hI10 (hE10 _) hw10 hwB)
     have hq:=zAX hO10 hok
     have hc72:(objC (⟨3,[],[],ID,P.1,G2.1%4294967296,TX.1,noId,0,[]⟩:ObjL) (.slice none 0 0) vp).toArray.size=72:=by rw [List.size_toArray,zAy hok]
     have hcone:=zBY (⟨3,[],[],ID,P.1,G2.1%4294967296,TX.1,noId,0,[]⟩:ObjL) (hE10 _) hw10
     clear hI10 hO10 hE10 hw10 f37 c37
     have hX:Hid ((⟨3,[],[],ID,P.1,G2.1%4294967296,TX.1,noId,0,[]⟩:ObjL)=X):=hA
     generalize hcs:(objC (⟨3,[],[],ID,P.1,G2.1%4294967296,TX.1,noId,0,[]⟩:ObjL) (.slice none 0 0) vp).toArray=cs at *
     have HC:=Lib.hid hcs
     clear hcs
     have hcsz:(Tryz.prog.info? 68).map (·.size)=some cs.size:=by rw [hc72];exact szObj
     go_wp2_with (first
      | (refine wpList_store_row rfl 68 (.tmp 2) (.tmp 138) rfl w.heap.size cs rfl rfl _ _ hzF hcsz (by rw [hzl,hc72]) hcone ?_))
     exact bodyPost_ret (results_cell_row rfl _ _ w.heap.size _ _ _ _ rfl (setRow_heap _ _ _ _ _ _ hzF) Tryz.underlying68 rfl hcsz) rfl (by rw [←hX.out];exact hfin.out)
  | succ f=>
    have i1:(j:Int)<(G1.1:Int):=by omega
    have i2:(j:Int)<9:=by omega
    have hrel:Hid (gPars f (t1.drop 32) (acc++[idG t1])=P):=hrel.out
    have hbe2 : ∀ W,Calls Tryz.prog 138 #[.string (B t1), .int .i64 32] W fun e w'=>e = .returned (.string (B (t1.drop 32))) ∧ ∃ nq,w'=W.drewN nq:=fun W=>zA4 t1 32 (by omega) (by omega) W
    have hidc:=fun W=>Lib.hid (zD5 t1 (by omega) W)
    have hdl1:(t1.drop 32).length≤5000:=by rw [List.length_drop];omega
    generalize t1.drop 32=RR at *
    have hbe2:=Lib.hid hbe2
    clear hg2 hb3 htk3
    go_upto_region 24 with (fail)
    all_goals try (exfalso;omega)
    have hota:=hOb.ta
    have hF1:F1 BB gO 68 (objC ⟨3,[],[],ID,acc,0,[],noId,0,[]⟩ (.slice none 0 0) vp).toArray 53 32 vp acc.length (rowsOf idC acc) (GsI w) (fun _=>True) wr.drew:=⟨hOb.blk.drew,hown,⟨hI.z.drew,hI.bel.drew⟩,trivial,hsz⟩
    have hcO:(objC ⟨3,[],[],ID,acc,0,[],noId,0,[]⟩ (.slice none 0 0) vp).toArray.size=72:=by rw [List.size_toArray];unfold objC;simp only [List.length_cons,List.length_append,u8s_len,zAi,hi32,List.length_nil]
    have hve:(objC ⟨3,[],[],ID,acc,0,[],noId,0,[]⟩ (.slice none 0 0) vp).toArray[35]?=some vp:=by rw [List.getElem?_toArray];exact obj_pars (o:=⟨3,[],[],ID,acc,0,[],noId,0,[]⟩) hi32
    have hset:Hid (∀ v':Value,(objC ⟨3,[],[],ID,acc,0,[],noId,0,[]⟩ (.slice none 0 0) vp).toArray.setIfInBounds 35 v'=(objC ⟨3,[],[],ID,acc++[idG t1],0,[],noId,0,[]⟩ (.slice none 0 0) v').toArray):=fun v'=>by
     rw [List.setIfInBounds_toArray]
     congr 1
     show _::_::_::((u8s ID).toList++_).set 32 _=_
     rw [set_app (by rw [u8s_len];exact hi32) (Nat.le_refl _)];rfl
    have hrow:Hid (rowsOf idC acc++idC (idG t1)=rowsOf idC (acc++[idG t1])):=by show _=_;rw [zAo,zAp]
    have hm1:acc.length+1≤9223372036854775807:=by omega
    have hm2:(acc.length+1)*32≤140737488355328:=by omega
    have hIb:=fun w1 w2 (h:GsI w w1) (hb:Below w1.heap.size w1 w2)=>h.below hb
    have hIB:=fun w1 w2 (h:GsI w w1) (hb:Below BB w1 w2)=>h.low hwB hb
    have hIs:=fun v w1 (h:GsI w w1)=>h.set_ (o:=35) hsO v
    have hJb:=fun (w1 w2:World) (_:True) (_:Below w1.heap.size w1 w2)=>trivial
    clear hOb hown hI
    generalize (objC ⟨3,[],[],ID,acc,0,[],noId,0,[]⟩ (.slice none 0 0) vp).toArray=cO at *
    obtain ⟨n',hn'⟩ : ∃ n',Hid (acc.length=n'):=⟨_,Lib.hid rfl⟩
    rw [hn'.out] at hF1 hm1 hm2
    obtain ⟨xs,hxs⟩ : ∃ xs,Hid (rowsOf idC acc=xs):=⟨_,Lib.hid rfl⟩
    rw [hxs.out] at hF1
    obtain ⟨II,hII⟩ : ∃ II,Hid (GsI w=II):=⟨_,Lib.hid rfl⟩
    rw [hII.out] at hF1
    have hIb : ∀ w1 w2,II w1→Below w1.heap.size w1 w2→II w2:=hII.out▸hIb
    have hIB : ∀ w1 w2,II w1→Below BB w1 w2→II w2:=hII.out▸hIB
    have hIs : ∀ v w1,II w1→II (w1.setCell ⟨gO,35,none⟩ v):=hII.out▸hIs
    obtain ⟨V,hV⟩ : ∃ V:Nat→Value,V=fun i=>[(.pointer (some ⟨gO,35,none⟩)),vp,(.string (B t1)),(.agg (u8s (idG t1))),undef,undef,(.pointer (some ⟨gO,35,none⟩)),undef].getD i undef:=⟨_,rfl⟩
    have v0:V 0=(.pointer (some ⟨gO,35,none⟩)):=by rw [hV];rfl
    have v1:V 1=vp:=by rw [hV];rfl
    have v2:V 2=(.string (B t1)):=by rw [hV];rfl
    have v3:V 3=(.agg (u8s (idG t1))):=by rw [hV];rfl
    have v6:V 6=(.pointer (some ⟨gO,35,none⟩)):=by rw [hV];rfl
    have v7:V 7=undef:=by rw [hV];rfl
    clear hV
    refine zAR (C:=Stage 5 7 (F1 BB gO 68 cO 53 32 vp n' xs II (fun _=>True)) (F2 BB gO 68 cO II) (F3 BB gO 35 68 cO 53 32 n' xs (idC (idG t1)) II)) (R:=StR V 4 5 (LitR BB 53 vp (idC (idG t1))) (AppR BB 53 32 n' xs (idC (idG t1)))) (by kernel_rfl) (by kernel_rfl) (by kernel_rfl) ?_ ?_ ?_ ?_
    ·exact zAV (n:=139) (by kernel_rfl)
    ·exact Stage.start hF1
    ·intro i o listed a w1 ho hi hL
     have hin:=(zAt hi).1
     have hsz:listed.size=8:=hL.size
     match i,ho with
     | 0,ho=>
       obtain rfl:=(Option.some.inj ho).symm
       have e0:a.tmps[3]?.getD undef=(.pointer (some ⟨gO,0,none⟩)):=(zAf a 3).trans (hL.get_old hi (by kernel_rfl))
       have hc:=Stage.same (i:=0) hL.cls (by decide) (by decide)
       refine step_wp rfl rfl ?_
       clear hi ho hL hin
       refine wp_val (v:=(.pointer (some ⟨gO,35,none⟩))) ?_ ⟨_,rfl,StR.mk (by decide) (by decide) v0.symm,hc,fun _ _ _ h=>h⟩
       clear v0 v1 v2 v3 v6 v7 hc
       unfold execOp
       go_simp
     | 1,ho=>
       obtain rfl:=(Option.some.inj ho).symm
       have hla:listed.getD 5 false=false:=hL.later (j:=5) hi (by kernel_rfl)
       have hls:listed.getD 7 false=false:=hL.later2 hla (by kernel_rfl)
       have hc1:=Stage.one hL.cls hla hls
       have e0:a.tmps[92]?.getD undef=(.pointer (some ⟨gO,35,none⟩)):=(zAf a 92).trans (((hL.get_new (j:=0) hi (by kernel_rfl)).at_ (by decide) (by decide)).trans v0)
       have hc:=Stage.same (i:=1) hL.cls (by decide) (by decide)
       refine step_wp rfl rfl ?_
       clear hi ho hL hin
       refine wp_val (v:=vp) ?_ ⟨_,rfl,StR.mk (by decide) (by decide) v1.symm,hc,fun _ _ _ h=>h⟩
       have f0:w1.cell? ⟨gO,35,none⟩=some vp:=by rw [hc1.blk.cell];exact hve
       clear hc1
       clear v0 v1 v2 v3 v6 v7 hc
       unfold execOp
       go_simp
     | 2,ho=>
       obtain rfl:=(Option.some.inj ho).symm
       have e0:a.tmps[4]?.getD undef=(.string (B t1)):=(zAf a 4).trans (hL.get_old hi (by kernel_rfl))
       have hc:=Stage.same (i:=2) hL.cls (by decide) (by decide)
       refine step_wp rfl rfl ?_
       clear hi ho hL hin
       refine wp_val (v:=(.string (B t1))) ?_ ⟨_,rfl,StR.mk (by decide) (by decide) v2.symm,hc,fun _ _ _ h=>h⟩
       clear v0 v1 v2 v3 v6 v7 hc
       unfold execOp
       go_simp
     | 3,ho=>
       obtain rfl:=(Option.some.inj ho).symm
       have hla:listed.getD 5 false=false:=hL.later2 (hL.later (j:=4) hi (by kernel_rfl)) (by kernel_rfl)
       have hls:listed.getD 7 false=false:=hL.later2 hla (by kernel_rfl)
       have hc1:=Stage.one hL.cls hla hls
       have e0:a.tmps[94]?.getD undef=(.string (B t1)):=(zAf a 94).trans (((hL.get_new (j:=2) hi (by kernel_rfl)).at_ (by decide) (by decide)).trans v2)
       refine step_wp rfl rfl ?_
       refine zDz rfl (vals := #[.string (B t1)]) (map1 (slot_is e0)) (by go_simp) (hidc w1).out ?_
       rintro e w2 ⟨rfl,hb2⟩
       exact ⟨_,rfl,_,rfl,StR.mk (by decide) (by decide) v3.symm,Stage.to1 (hc1.below hb2 (hIb _ _ hc1.inv hb2) trivial) hla hls (by decide) (by decide),fun j u _ h=>StR.keep (fun _ h=>h.below hb2) (fun _ h=>h.below hb2) j u h⟩
     | 4,ho=>
       obtain rfl:=(Option.some.inj ho).symm
       have hla:listed.getD 5 false=false:=hL.later (j:=5) hi (by kernel_rfl)
       have hls:listed.getD 7 false=false:=hL.later2 hla (by kernel_rfl)
       have hc1:=Stage.one hL.cls hla hls
       have e0:a.tmps[95]?.getD undef=(.agg (u8s (idG t1))):=(zAf a 95).trans (((hL.get_new (j:=3) hi (by kernel_rfl)).at_ (by decide) (by decide)).trans v3)
       refine step_wp rfl rfl ?_
       have hbA:Below w1.heap.size w1 (w1.alloc (.cells (idC (idG t1)).toArray 53)):=(Below.refl _ _).alloc (Nat.le_refl _) _
       refine zCy rfl Tryz.idsTy (by decide) (idC_len (idG_len t1)) (.inl (idC_agg ((zAf a 95).symm.trans e0))) ⟨_,rfl,StR.mkLit ⟨w1.heap.size,rfl,Blk.new _ _ _,hc1.size,fun h=>by have:=(World.ownsRow.lt hc1.own _ h).2;omega⟩,Stage.to1 (hc1.below hbA (hIb _ _ hc1.inv hbA) (hJb _ _ hc1.pre hbA)) hla hls (by decide) (by decide),fun j u _ h=>StR.keep (fun _ h=>h.below hbA) (fun _ h=>h.below hbA) j u h⟩
     | 5,ho=>
       obtain rfl:=(Option.some.inj ho).symm
       have hla:listed.getD 5 false=false:=(zAw (by rw [hsz];exact hin)).trans (zAt hi).2.1
       have hls:listed.getD 7 false=false:=hL.later2 hla (by kernel_rfl)
       have hc1:=Stage.one hL.cls hla hls
       have hx:=(hL.get_new (j:=4) (t:=96) hi (by kernel_rfl)).lit
       have hs:a.eval (.tmp 93)=vp:=((hL.get_new (j:=1) hi (by kernel_rfl)).at_ (by decide) (by decide)).trans v1
       refine step_wp rfl rfl ?_
       refine zEO rfl Tryz.idsTy hc1 hgOB hx (idC_len (idG_len t1)) (idC_one (idG t1)) hm1 hm2 (fun w2 hb=>hIB _ _ hc1.inv hb) hs rfl ?_
       intro v2 w2 hf2 ha2 hk2 hb2
       exact ⟨_,rfl,StR.mkApp ha2 (by decide),Stage.to2 hf2 hls (by rw [hsz];decide) (by decide),fun j u hj h=>StR.keepL hk2 (fun e=>by rw [e,hla] at hj;cases hj) h⟩
     | 6,ho=>
       obtain rfl:=(Option.some.inj ho).symm
       have e0:a.tmps[3]?.getD undef=(.pointer (some ⟨gO,0,none⟩)):=(zAf a 3).trans (hL.get_old hi (by kernel_rfl))
       have hc:=Stage.same (i:=6) hL.cls (by decide) (by decide)
       refine step_wp rfl rfl ?_
       clear hi ho hL hin
       refine wp_val (v:=(.pointer (some ⟨gO,35,none⟩))) ?_ ⟨_,rfl,StR.mk (by decide) (by decide) v6.symm,hc,fun _ _ _ h=>h⟩
       clear v0 v1 v2 v3 v6 v7 hc
       unfold execOp
       go_simp
     | 7,ho=>
       obtain rfl:=(Option.some.inj ho).symm
       have hla:listed.getD 5 false=true:=hL.before hi (by kernel_rfl)
       have hls:listed.getD 7 false=false:=(zAw (by rw [hsz];exact hin)).trans (zAt hi).2.1
       have hc2:=Stage.two hL.cls hla hls
       have e0:a.tmps[98]?.getD undef=(.pointer (some ⟨gO,35,none⟩)):=(zAf a 98).trans (((hL.get_new (j:=6) hi (by kernel_rfl)).at_ (by decide) (by decide)).trans v6)
       have hv:=(hL.get_new (j:=5) (t:=97) hi (by kernel_rfl)).app (by decide)
       obtain ⟨vA,vK,hvv⟩:=zAl hv
       rw [hvv] at hv
       have e1:a.tmps[97]?.getD undef=_:=(zAf a 97).trans hvv
       have c0:(w1.cell? ⟨gO,35,none⟩).isSome=true:=(hc2.blk.there (o:=35) (n:=1) (by rw [hcO];decide) 0 (by decide)).1
       obtain ⟨c0v,c0⟩:=Option.isSome_iff_exists.1 c0
       have f0:=hc2.blk.frozen 35
       have hR:=fun u=>AppR.set_ (p:=⟨gO,35,none⟩) (hv) hgOB u
       have h3:=Stage.to3 (ap:=5) (P1:=(F1 BB gO 68 cO 53 32 vp n' xs II (fun _=>True))) (P2:=(F2 BB gO 68 cO II)) (hc2.stored (off:=35) hv hgOB (hIs _ _ hc2.inv)) (listed:=listed) (st:=7) (by rw [hsz];decide)
       refine step_wp rfl rfl ?_
       clear hi ho hL hin hc2
       refine wp_skip (w':=w1.setCell ⟨gO,35,none⟩ _) ?_ ⟨_,rfl,StR.mk (by decide) (by decide) v7.symm,h3,fun j u _ h=>StR.keep (fun _ h=>h.set_ hgOB _) (fun _ h=>AppR.set_ h hgOB _) j u h⟩
       clear v0 v1 v2 v3 v6 v7 h3
       unfold execOp
       go_simp
     | (n+8),ho=>exact absurd hin (by simp)
    ·intro a w1 listed hL hall
     obtain ⟨v3,hb3,ho3,hi3,hsz3⟩:=Stage.three hL.cls (hall 7 (by decide))
     rw [←hII.out] at hi3
     rw [hset.out] at hb3
     have hob3:ObjB w1 gO ⟨3,[],[],ID,acc++[idG t1],0,[],noId,0,[]⟩ (.slice none 0 0) v3:=⟨hb3,hi32,hota⟩
     rw [←hxs.out,←hn'.out,hrow.out] at ho3
     have hown3:OwnIds w1 BB v3 (acc++[idG t1]):=by unfold OwnIds;rw [List.length_append];exact ho3
     have hl3:(acc++[idG t1]).length≤j+1:=by rw [List.length_append];simp only [List.length_cons,List.length_nil];omega
     obtain ⟨vs,rfl,hR⟩:=hL.frame (by kernel_rfl) (zAV (n:=139) (by kernel_rfl)) hall
     clear hL hall hR hF1 hIb hIB hIs hJb hII hset hrow hxs hn' hm1 hm2 hb3 ho3 hve hcO hidc
     simp only [putAll,Act.put,List.setIfInBounds_toArray,List.set_cons_zero,List.set_cons_succ]
     go_wp2_with (first
      | ((with_reducible refine (hbe2.out _).mono ?_);rintro e w5 ⟨rfl,nq2,rfl⟩))
     go_roundg f
     case rel=>exact ⟨j+1,RR,acc++[idG t1],v3,by go_num,rfl,by omega,by omega,hl3,hdl1,hrel,hown3,hob3.drewN nq2,hi3.drewN nq2,hsz3⟩
     case measure=>exact Nat.lt_succ_self f
end
section
attribute [local go_sem ↓] ldvO_eq
theorem gTree_len : ∀ (f:Nat) (t:Txt) (acc:List EntL),(gTree f t acc).length≤acc.length+f
 | 0,t,acc=>by rw [zCR (.inl rfl)];exact Nat.le_refl _
 | f+1,[],acc=>by rw [zCR (.inr rfl)];omega
 | f+1,d::t,acc=>by
   rw [zD8]
   refine Nat.le_trans (gTree_len f _ _) ?_
   rw [List.length_append]
   simp only [List.length_cons,List.length_nil]
   omega
theorem gPars_len : ∀ (n:Nat) (t:Txt) (acc:List Txt),(gPars n t acc).1.length≤acc.length+n
 | 0,t,acc=>Nat.le_refl _
 | n+1,t,acc=>by
   rw [gPars]
   refine Nat.le_trans (gPars_len n _ _) ?_
   rw [List.length_append]
   simp only [List.length_cons,List.length_nil]
   omega
theorem gTree_names : ∀ (f:Nat) (t:Txt) (acc:List EntL),t.length≤5000→(∀ e∈acc,e.name.length≤5000) → ∀ e∈gTree f t acc,e.name.length≤5000
 | 0,t,acc,_,h=>by rw [zCR (.inl rfl)];exact h
 | f+1,[],acc,_,h=>by rw [zCR (.inr rfl)];exact h
 | f+1,d::t,acc,hl,h=>by
   rw [zD8]
   simp only [List.length_cons] at hl
   refine gTree_names f _ _ (by simp only [List.length_drop];omega) ?_
   intro e he
   rcases List.mem_append.1 he with he | he
   ·exact h e he
   ·obtain rfl:=List.mem_singleton.1 he
    have:=(zA8 t).2
    show (takeN t).1.length≤_
    omega
theorem gCommit_small (t:Txt) (ht:t.length≤5000):Small (gCommit t):=by
 have h1:=gPars_len (min (getN (t.drop 32)).1 9) ((t.drop 32).drop (getN (t.drop 32)).2) []
 have h2:=gPars_le (min (getN (t.drop 32)).1 9) ((t.drop 32).drop (getN (t.drop 32)).2) []
 rw [List.length_drop,List.length_drop] at h2
 unfold gCommit
 simp only
 generalize gPars (min (getN (t.drop 32)).1 9) ((t.drop 32).drop (getN (t.drop 32)).2) []=p at *
 have h3:=(zA8 (p.2.drop (getN p.2).2)).2
 rw [List.length_drop] at h3
 simp only [List.length_nil] at h1
 exact ⟨by simp,by simp,by show p.1.length≤20;omega,by simp,by show (takeN _).1.length≤5000;omega,by simp⟩
theorem gTag_small (t:Txt) (ht:t.length≤5000):Small (gTag t):=by
 have h3:=(zA8 ((t.drop 1).drop 32)).2
 rw [List.length_drop,List.length_drop] at h3
 unfold gTag
 exact ⟨by simp,by simp,by simp,by simp,by simp,by show (takeN _).1.length≤5000;omega⟩
theorem guess_small (c:UInt8) (q:Txt) (hl:q.length≤5000):Small (guessL c q):=by
 have ht:=(zA8 q).2
 have z:([]:Txt).length≤5000:=by simp
 unfold guessL guessB
 repeat' split
 ·exact zero_smallG
 ·exact ⟨by simp,by simp,by simp,by show (takeN q).1.length≤_;omega,z,z⟩
 ·exact ⟨by have:=gTree_len 65 (takeN q).1 [];simp only [List.length_nil] at this;show (gTree 65 (takeN q).1 []).length≤70;omega,gTree_names 65 _ _ (by omega) (by simp),by simp,z,z,z⟩
 ·exact gCommit_small _ (by omega)
 ·exact gTag_small _ (by omega)
 ·exact ⟨by simp [nObj],by simp [nObj],by simp [nObj],z,z,z⟩
set_option maxRecDepth 100000 in
set_option maxHeartbeats 2000000 in
theorem guess_zero (c:UInt8) (q:Txt) (hl:q.length≤5000) (hn0:(takeN q).2=0) (w:World):Calls Tryz.prog 111 #[.string (B (c::q))] w fun e w'=>GsR zeroO w e w':=by
 have hzv:=zeroObj
 have hzl:zObj.size=72:=zAF
 have htk : ∀ W,Calls Tryz.prog 137 #[.string (B q)] W fun e w'=>e = .returned (.tuple #[.string (B (takeN q).1), .int .i64 (takeN q).2])∧W=w':=fun W=>(zAN q (by omega) W).mono fun _ _ h=>⟨h.1,h.2.symm⟩
 rw [hn0] at htk
 generalize (takeN q).1=t at *
 have hex:(B (c::q)).extract 1 (q.length+1)=B q:=by
  rw [zA3]
  simp
 obtain ⟨W1,hW1⟩ : ∃ W1,w.alloc (.cells zObj 68)=W1:=⟨_,rfl⟩
 have hx1:Blk W1 w.heap.size 68 zObj:=by rw [←hW1];exact Blk.new _ _ _
 have b1:Below w.heap.size w W1:=by rw [←hW1];exact (Below.refl _ _).alloc (Nat.le_refl _) _
 have htk:=Lib.hid htk
 have hc0:0≤(c.toNat:Int):=by omega
 have hc1:(c.toNat:Int)<256:=by have:=c.toNat_lt;omega
 have hbd:=zBv (c.toNat:Int)
 have hrb:=fun W=>run_build (P:=Tryz.prog) W _ _ _ zBu
 have hone:=zCG
 have hsz:=zES
 have e72:(objC ⟨c.toNat,[],[],noId,[],0,[],noId,0,[]⟩ (.slice none 0 0) (.slice none 0 0)).toArray.size=72:=by rw [List.size_toArray];unfold objC;simp only [List.length_cons,List.length_append,u8s_len,zAi,List.length_nil]
 have eone:(objC ⟨c.toNat,[],[],noId,[],0,[],noId,0,[]⟩ (.slice none 0 0) (.slice none 0 0)).toArray.all (·.oneCell')=true:=by kernel_rfl
 go_enter Tryz.func111,Tryz.ntmps111
 go_wp2_with (first
  | ((with_reducible refine zAU hbd ?_ ?_);rfl)
  | ((with_reducible refine lit_new 68 (.tmp 3) (.tmp 18) (objC ⟨c.toNat,[],[],noId,[],0,[],noId,0,[]⟩ (.slice none 0 0) (.slice none 0 0)).toArray 72 szObj e72 eone _ ?_ ?_ ?_ ?_)
     ·first | exact hzl | rfl
     ·rfl
     ·rfl
     intro W2 hb2 hbl2
     have hx2:=hx1.below hbl2 hx1.lt
     have b2:=bthen b1 b1.size hbl2
     have tk2:=htk.out W2
     have tk2:=Lib.hid tk2
     clear hx1 b1 hb2 hbl2)
  | ((with_reducible refine tk2.out.mono ?_);rintro e w3 ⟨rfl,rfl⟩)
  | (refine wpList_store_row rfl 68 (.tmp 2) (.tmp 27) rfl w.heap.size zObj rfl rfl _ _ hx2 hsz rfl hone ?_))
 exact bodyPost_ret (results_cell_row rfl _ _ w.heap.size _ _ _ _ rfl (setRow_heap _ _ _ _ _ _ hx2) Tryz.underlying68 rfl hsz) rfl ⟨⟨none,none,0,0,rfl,zero_okG _,World.ownsRow_nil _ _ _ _,World.ownsRow_nil _ _ _ _⟩,zAa b2 (Nat.le_refl _) _⟩
theorem guess_calls (c:UInt8) (q:Txt) (hl:q.length≤5000) (w:World):Calls Tryz.prog 111 #[.string (B (c::q))] w fun e w'=>GsR (guessL c q) w e w':=by
 unfold guessL
 split
 ·exact guess_zero c q hl (by assumption) w
 ·unfold guessB
  split
  ·exact guess_blob c q hl (by assumption) (by assumption) w
  ·split
   ·exact guess_tree c q hl (by assumption) (by assumption) w
   ·split
    ·exact guess_commit c q hl (by assumption) (by assumption) w
    ·split
     ·exact guess_tag c q hl (by assumption) (by assumption) w
     ·exact guess_other c q hl ⟨by assumption,by assumption,by assumption,by assumption⟩ (by assumption) w
def DecG (x:Option ObjL) (B:Nat) (w':World) (e:Ending):Prop:=match x with
 | some o => ∃ A1 A2 k1 k2,e = .returned (.tuple #[.agg (objC o (.slice A1 o.ents.length k1) (.slice A2 o.pars.length k2)).toArray, .bool true])∧ObjV w' (.slice A1 o.ents.length k1) (.slice A2 o.pars.length k2) o∧OwnEnts w' B (.slice A1 o.ents.length k1) o.ents∧OwnIds w' B (.slice A2 o.pars.length k2) o.pars
 | none=>e = .returned (.tuple #[.agg zObj, .bool false])
set_option maxRecDepth 100000 in
set_option maxHeartbeats 4000000 in
theorem zB8 (s:Txt) (hs:s.length≤5000) (w:World):Calls Tryz.prog 74 #[.string (B s)] w fun e w'=>DecG (decO s) w.heap.size w' e∧Below w.heap.size w w':=by
 have hzv:=zeroObj
 have hz72:zObj.size=72:=zAF
 obtain ⟨W0,hW0⟩ : ∃ W0,w.alloc (.cells zObj 68)=W0:=⟨_,rfl⟩
 have hz0:Blk W0 w.heap.size 68 zObj:=by rw [←hW0];exact Blk.new _ _ _
 have b0:Below w.heap.size w W0:=by rw [←hW0];exact (Below.refl _ _).alloc (Nat.le_refl _) _
 have hrb:=fun W=>run_build (P:=Tryz.prog) W _ _ _ zBu
 have hone:=zCG
 have hsz:=zES
 have hz0W:w.heap.size<W0.heap.size:=hz0.lt
 cases s with
 | nil=>
   have hD:DecG (decO []) w.heap.size (W0.setRow w.heap.size zObj) (.returned (.tuple #[.agg zObj, .bool false])):=rfl
   have hD:=Lib.hid hD
   go_enter Tryz.func74,Tryz.ntmps74
   go_wp2_with (first
    | (refine wpList_store_row rfl 68 (.tmp 2) (.tmp 9) rfl w.heap.size zObj rfl rfl _ _ hz0 hsz rfl hone ?_))
   refine bodyPost_ret (zAg rfl _ _ w.heap.size _ _ _ _ rfl (setRow_heap _ _ _ _ _ _ hz0) Tryz.underlying68 rfl hsz) rfl ⟨?_,zAa b0 (Nat.le_refl _) _⟩
   exact hD.out
 | cons c q=>
   simp only [List.length_cons] at hs
   have hg:=Lib.hid (guess_calls c q (by omega) W0)
   have hsm:=guess_small c q (by omega)
   have hds:=Lib.hid (dec_same c q)
   generalize guessL c q=o at *
   have hcm:Hid (∀ W,(if encO o=some (c::q) then some o else none)=(none:Option ObjL)→DecG (decO (c::q)) w.heap.size W (.returned (.tuple #[.agg zObj, .bool false]))):=fun W h=>by rw [hds.out,h];rfl
   obtain ⟨tt,bb,hval,htold⟩ : ∃ tt bb,encD o = .tuple #[.string (B tt), .bool bb]∧Hid ((bb=true∧encO o=some tt)∨(bb=false∧encO o=none)):=by
    cases hq:encO o with
    | none=>exact ⟨[],false,zDy hq, .inr ⟨rfl,rfl⟩⟩
    | some t=>exact ⟨t,true,encD_some hq, .inl ⟨rfl,rfl⟩⟩
   go_enter Tryz.func74,Tryz.ntmps74
   go_upto_region 4 with (first
    | ((with_reducible refine hg.out.mono ?_);rintro e w1 ⟨⟨A1,A2,k1,k2,rfl,hv1,he1,hp1⟩,hb1⟩
       have hz1:=hz0.below hb1 hz0.lt
       have b1:=bthen b0 b0.size hb1
       have hc72:(objC o (.slice A1 o.ents.length k1) (.slice A2 o.pars.length k2)).toArray.size=72:=by rw [List.size_toArray,zAy hv1.ok]
       have hcone:=zAv o A1 A2 o.ents.length k1 o.pars.length k2
       clear hg hz0 b0)
    | ((with_reducible refine lit_new 68 (.tmp 4) (.tmp 11) (objC o (.slice A1 o.ents.length k1) (.slice A2 o.pars.length k2)).toArray 72 szObj hc72 hcone _ ?_ ?_ ?_ ?_)
       ·first | exact hz72 | rfl
       ·rfl
       ·rfl
       intro W2 hb2 hbl2
       have hz2:=hz1.below hbl2 hz1.lt
       have b2:=bthen b1 b1.size hbl2
       have hv2:=hv1.below hbl2
       have he2:=zAd he1 hbl2
       have hp2:=zAd hp1 hbl2
       have hO2:ObjB W2 w1.heap.size o (.slice A1 o.ents.length k1) (.slice A2 o.pars.length k2):=⟨hb2,hv1.ok.tree,hv1.ok.target⟩
       have hq2:=zAX hO2 hv1.ok
       have hre:=zCU o hsm A1 A2 k1 k2 W2 hv2
       rw [hval] at hre
       have hre:=Lib.hid hre))
   have hok:=hv1.ok
   have hlt1:w.heap.size<w1.heap.size:=hz1.lt
   have hwW:w.heap.size<W0.heap.size:=hz0W
   clear hW0 hv1 hz1 b1 hsm hval hb2
   have hfin:Hid (∀ W,ObjV W (.slice A1 o.ents.length k1) (.slice A2 o.pars.length k2) o→OwnEnts W w.heap.size (.slice A1 o.ents.length k1) o.ents→OwnIds W w.heap.size (.slice A2 o.pars.length k2) o.pars→encO o=some (c::q)→DecG (decO (c::q)) w.heap.size W (.returned (.tuple #[.agg (objC o (.slice A1 o.ents.length k1) (.slice A2 o.pars.length k2)).toArray, .bool true]))):=fun W h1 h3 h4 h2=>by
    rw [hds.out,if_pos h2]
    exact ⟨A1,A2,k1,k2,rfl,h1,h3,h4⟩
   have hqq : ∀ W,ObjB W w1.heap.size o (.slice A1 o.ents.length k1) (.slice A2 o.pars.length k2)→(ldvO ⟨w1.heap.size,0,none⟩).run Tryz.prog W = .ok (.agg (objC o (.slice A1 o.ents.length k1) (.slice A2 o.pars.length k2)).toArray) W:=fun W h=>zAX h hok
   generalize hcs:(objC o (.slice A1 o.ents.length k1) (.slice A2 o.pars.length k2)).toArray=cs at *
   clear hcs
   generalize w1.heap.size=g1 at *
   rcases htold.out with ⟨rfl,henc⟩ | ⟨rfl,henc⟩
   ·by_cases hne:tt=c::q
    ·have hDn:=Lib.hid (fun W h h3 h4=>hfin.out W h h3 h4 (by rw [henc,hne]))
     subst hne
     clear htold henc hds hcm hfin
     go_wp2_with (first
      | ((with_reducible refine hre.out.mono ?_);rintro e w3 ⟨rfl,hb3⟩
         have hz3:=hz2.below hb3 hz2.lt
         have b3:=bthen b2 b2.size hb3
         have hO3:=hO2.below hb3
         have he3:=zAd he2 hb3
         have hp3:=zAd hp2 hb3
         have hq3:=hqq w3 hO3
         clear hre hq2)
      | (refine wpList_store_row rfl 68 (.tmp 2) (.tmp 25) rfl w.heap.size cs rfl rfl _ _ hz3 (by rw [hc72];exact szObj) (by rw [hc72];rfl) hcone ?_))
     refine bodyPost_ret (zAg rfl _ _ w.heap.size _ _ _ _ rfl (setRow_heap _ _ _ _ _ _ hz3) Tryz.underlying68 rfl (by rw [hc72];exact szObj)) rfl ⟨?_,zAa b3 (Nat.le_refl _) _⟩
     exact hDn.out _ (zCE hok he3 hp3 hwW cs) (zAx (own_row he3 hwW cs) (Nat.le_of_lt hwW)) (zAx (own_row hp3 hwW cs) (Nat.le_of_lt hwW))
    ·have hDn:=Lib.hid (fun W=>hcm.out W (by rw [if_neg (by rw [henc];intro h;injection h with h;exact hne h)]))
     have hbq:(tt==c::q)=false:=by simpa using hne
     clear htold henc hds hcm hfin hO2 hv2 hne
     go_wp2_with (first
      | ((with_reducible refine hre.out.mono ?_);rintro e w3 ⟨rfl,hb3⟩
         have hz3:=hz2.below hb3 hz2.lt
         have b3:=bthen b2 b2.size hb3
         clear hre hq2)
      | (refine wpList_store_row rfl 68 (.tmp 2) (.tmp 24) rfl w.heap.size zObj rfl rfl _ _ hz3 hsz rfl hone ?_))
     refine bodyPost_ret (zAg rfl _ _ w.heap.size _ _ _ _ rfl (setRow_heap _ _ _ _ _ _ hz3) Tryz.underlying68 rfl hsz) rfl ⟨?_,zAa b3 (Nat.le_refl _) _⟩
     exact hDn.out _
   ·have hDn:=Lib.hid (fun W=>hcm.out W (by rw [if_neg (by rw [henc];intro h;cases h)]))
    clear htold henc hds hcm hfin hO2 hv2
    go_wp2_with (first
     | ((with_reducible refine hre.out.mono ?_);rintro e w3 ⟨rfl,hb3⟩
        have hz3:=hz2.below hb3 hz2.lt
        have b3:=bthen b2 b2.size hb3
        clear hre hq2)
     | (refine wpList_store_row rfl 68 (.tmp 2) (.tmp 24) rfl w.heap.size zObj rfl rfl _ _ hz3 hsz rfl hone ?_))
    refine bodyPost_ret (zAg rfl _ _ w.heap.size _ _ _ _ rfl (setRow_heap _ _ _ _ _ _ hz3) Tryz.underlying68 rfl hsz) rfl ⟨?_,zAa b3 (Nat.le_refl _) _⟩
    exact hDn.out _
end
theorem and31 (k:Int) (h0 : -31≤k) (h1:k ≤ -1):bits .and .u64 (IntKind.u64.wrap k) 31=32+k:=by
 have h : ∀ m:Fin 31,bits .and .u64 (IntKind.u64.wrap (-((m.val:Int)+1))) 31=31-(m.val:Int):=by decide +kernel
 have:=h ⟨(-k-1).toNat,by omega⟩
 simp only at this
 rw [show -((((-k-1).toNat:Nat):Int)+1)=k from by omega] at this
 rw [this]
 omega
theorem rot_bits (x n:Nat) (hx:x<4294967296) (h0:1≤n) (h1:n≤31):bits .or .u32 ((x:Int)*2 ^ (32-n)%4294967296) ((x:Int) / 2 ^ n)=((rotr x n:Nat):Int):=by
 have hp:(2:Nat) ^ (32-n)*2 ^ n=4294967296:=by rw [←Nat.pow_add,show 32-n+n=32 from by omega]
 have e1:(x:Int)*2 ^ (32-n)%4294967296=((x*2 ^ (32-n)%4294967296:Nat):Int):=by simp
 have e2:(x:Int) / 2 ^ n=((x / 2 ^ n:Nat):Int):=by simp
 have hd:x / 2 ^ n<2 ^ (32-n):=Nat.div_lt_of_lt_mul (by rw [Nat.mul_comm,hp];exact hx)
 have hm:x*2 ^ (32-n)%4294967296=2 ^ (32-n)*(x%2 ^ n):=by
  rw [←hp,Nat.mul_comm x,Nat.mul_mod_mul_left]
 have hlt:x / 2 ^ n<4294967296:=Nat.lt_of_le_of_lt (Nat.div_le_self _ _) hx
 rw [e1,e2,u32_or_nat _ _ (Nat.mod_lt _ (by omega)) hlt,rotr,hm,←Nat.two_pow_add_eq_or_of_lt hd,Nat.add_comm]
set_option maxRecDepth 100000 in
set_option maxHeartbeats 800000 in
theorem rot_calls (x:Nat) (k:Int) (hx:x<4294967296) (h0 : -31≤k) (h1:k ≤ -1) (w:World) :
 Calls Tryz.prog 150 #[.int .u32 x, .int .i64 k] w fun e w'=>e = .returned (.int .u32 (rotr x (-k).toNat))∧w=w':=by
 have hb:=and31 k h0 h1
 have hs0:0≤32+k:=by omega
 have hs1:32+k≤32:=by omega
 go_enter Tryz.func150,Tryz.ntmps150
 go_wp2
 go_ret
 refine ⟨congrArg (fun n:Int=>Ending.returned (.int .u32 n)) ?_,rfl⟩
 have:=rot_bits x (-k).toNat hx (by omega) (by omega)
 rw [show 32-(-k).toNat=(32+k).toNat from by omega,show (-k).toNat=(32-(32+k)).toNat from by omega] at this
 rw [show (-k).toNat=(32-(32+k)).toNat from by omega]
 exact this
theorem rot_at (x:Nat) (k:Int) (n:Nat) (hk:k = -(n:Int)) (hx:x<4294967296) (h0:1≤n) (h1:n≤31) (w:World) :
 Calls Tryz.prog 150 #[.int .u32 x, .int .i64 k] w fun e w'=>e = .returned (.int .u32 (rotr x n))∧w=w':=by
 subst hk
 have:=rot_calls x (-(n:Int)) hx (by omega) (by omega) w
 rwa [show (- -(n:Int)).toNat=n from by omega] at this
def u32s (l:List Nat):Array Value:=(l.map fun n=>Value.int .u32 (n:Nat)).toArray
theorem zBl (l:List Nat):(u32s l).size=l.length:=by simp [u32s]
theorem zA5 (l:List Nat) (i:Nat) (h:i<l.length):(u32s l)[i]?=some (.int .u32 (l.getD i 0:Nat)):=by
 simp [u32s,List.getD,List.getElem?_eq_getElem h]
theorem zCd (l:List Nat) (i x:Nat):(u32s l).setIfInBounds i (.int .u32 (x:Nat))=u32s (l.set i x):=by
 apply Array.ext'
 simp [u32s,List.map_set]
theorem or_byte (x:Nat) (c:UInt8) (hx:x<16777216):bits .or .u32 ((x:Int)*256) ((c.toNat:Int)%4294967296)=((x*256%4294967296+c.toNat:Nat):Int):=by
 have hc:=c.toNat_lt
 have e1:(x:Int)*256=((2 ^ 8*x:Nat):Int):=by omega
 have e2:(c.toNat:Int)%4294967296=((c.toNat:Nat):Int):=by omega
 rw [e1,e2,u32_or_nat _ _ (by omega) (by omega),←Nat.two_pow_add_eq_or_of_lt (by omega)]
 omega
theorem zEZ {w:World} {g i j:Nat} {v x:Value} (h:w.cell? ⟨g,j,none⟩=some v) (hne:j≠i):((w.setCell ⟨g,i,none⟩ x).drew).cell? ⟨g,j,none⟩=some v:=by
 have:(w.setCell ⟨g,i,none⟩ x).cell? ⟨g,j,none⟩=w.cell? ⟨g,j,none⟩:=World.cell?_setCell_other w _ _ _ (fun e=>hne (by injection e with _ e;exact e.symm))
 exact this.trans h
theorem blk_new2 (w:World) (o:Obj) (t:TypeId) (cs:Array Value):Blk ((w.alloc o).alloc (.cells cs t)) (w.heap.size+1) t cs:=by
 have:=Blk.new (w.alloc o) t cs
 rwa [show (w.alloc o).heap.size=w.heap.size+1 from by simp] at this
theorem sz64 : (Tryz.prog.info? 177).map (·.size)=some 64:=by kernel_rfl
set_option maxRecDepth 100000 in
set_option maxHeartbeats 2000000 in
theorem words_calls (b:List UInt8) (hb:b.length=64) (w:World) :
 Calls Tryz.prog 151 #[.string (B b)] w fun e w'=>e = .returned (.agg (u32s (wordsOf b)))∧Below w.heap.size w w':=by
 go_enter Tryz.func151,Tryz.ntmps151
 go_wp2
 go_loopw [9] (fun i wr => ∃ k:Nat,i = .int .i64 k∧k≤64∧Blk wr (w.heap.size+1) 177 (u32s (parts b k))∧Blk wr w.heap.size 177 (u32s (List.replicate 64 0))∧Below w.heap.size w wr) (fun i _=>64-(intOf i).toNat)
 case atStart=>exact ⟨0,rfl,by omega,by rw [parts_zero];exact blk_new2 _ _ _ _,(Blk.new w _ _).alloc _,((Below.refl _ _).alloc (Nat.le_refl _) _).alloc (by simp) _⟩
 case round=>
  obtain ⟨k,rfl,hk,h1,h2,hbel⟩:=hrel
  have hbs:=h1.lt
  by_cases hlt:k<64
  ·have hki:(k:Int)<64:=by omega
   have hq0:(0:Int)≤(k:Int) / 4:=by omega
   have hq1:(k:Int) / 4<64:=by omega
   have hq2:(k:Int)<(b.length:Int):=by omega
   have hc:=h1.cell (k / 4)
   rw [zA5 _ _ (by rw [parts_length];omega),parts_get _ _ _ (by omega)] at hc
   have hf:=h1.frozen (k / 4)
   have hbk:b[k]'(by omega)=b.getD k 0:=by simp [List.getD,List.getElem?_eq_getElem (show k<b.length by omega)]
   have hst:=parts_step b k
   rw [parts_get _ _ _ (by omega)] at hst
   unfold byteAt at hst
   have hx:=(part4_here b k).2
   generalize part4 b k (k / 4)=x at *
   generalize b.getD k 0=c at *
   have hor:=or_byte x c hx
   generalize x*256%4294967296+c.toNat=y at *
   have hsth:=Lib.hid hst
   clear hst
   go_wp2
   go_region
   have hn1:Blk ((wr.setCell ⟨w.heap.size+1,k / 4,none⟩ (.int .u32 (y:Int))).drew) (w.heap.size+1) 177 (u32s (parts b (k+1))):=by
    have:=(h1.set_ (k / 4) (.int .u32 (y:Int)))
    rw [zCd,hsth.out] at this
    exact this.drew
   have hn2:=(h2.far (p:=⟨w.heap.size+1,k / 4,none⟩) (by simp) (.int .u32 (y:Int))).drew
   have hn3:=(hbel.setCell (p:=⟨w.heap.size+1,k / 4,none⟩) (by simp) (.int .u32 (y:Int))).drew
   go_wp2
   go_roundw
   case rel=>exact ⟨k+1,by go_num,by omega,hn1,hn2,hn3⟩
   case measure=>simp [intOf];omega
  ·have hk64:k=64:=by omega
   have hki : ¬ (k:Int)<64:=by omega
   rw [hk64,parts_all] at h1
   clear hk64
   have hgoal:Hid (sched 48 (first b 16)=wordsOf b):=rfl
   go_wp2
   go_loopw [6] (fun i wr => ∃ (t:Nat) (l:List Nat),i = .int .i64 t∧16≤t∧t≤64∧Hid (l.length=t)∧Hid (Fit32 l)∧Hid (sched (64-t) l=wordsOf b)∧Blk wr (w.heap.size+1) 177 (u32s (l++List.replicate (64-t) 0))∧Blk wr w.heap.size 177 (u32s (List.replicate 64 0))∧Below w.heap.size w wr) (fun i _=>64-(intOf i).toNat)
   case atStart=>exact ⟨16,first b 16,rfl,by omega,by omega,zBK b 16,first_fit b 16,hgoal,h1,h2,hbel⟩
   case round=>
    obtain ⟨t,l,rfl,ht0,ht1,hlen,hfit,hsc,h1,h2,hbel⟩:=hrel
    by_cases hlt:t<64
    ·have hti:(t:Int)<64:=by omega
     have get (j:Nat) (hj:j<t):wr.cell? ⟨w.heap.size+1,j,none⟩=some (.int .u32 (l.getD j 0:Nat)):=by
      rw [h1.cell,zA5 _ _ (by rw [List.length_append,hlen.out,List.length_replicate];omega),getD_left (by rw [hlen.out];exact hj)]
     have c16:=get (t-16) (by omega)
     have c15:=get (t-15) (by omega)
     have c7:=get (t-7) (by omega)
     have c2:=get (t-2) (by omega)
     have ct:wr.cell? ⟨w.heap.size+1,t,none⟩=some (.int .u32 ((l++List.replicate (64-t) 0).getD t 0:Nat)):=by
      rw [h1.cell,zA5 _ _ (by rw [List.length_append,hlen.out,List.length_replicate];omega)]
     have hft:=h1.frozen t
     have b16:=hfit.out (t-16)
     have b15:=hfit.out (t-15)
     have b7:=hfit.out (t-7)
     have b2:=hfit.out (t-2)
     have hnext:Hid (nextW l=(l.getD (t-16) 0+l.getD (t-7) 0+sig0 (l.getD (t-15) 0)+sig1 (l.getD (t-2) 0))%4294967296):=by
      unfold nextW;rw [hlen.out];rfl
     clear get
     generalize l.getD (t-16) 0=x16 at *
     generalize l.getD (t-15) 0=x15 at *
     generalize l.getD (t-7) 0=x7 at *
     generalize l.getD (t-2) 0=x2 at *
     generalize (l++List.replicate (64-t) 0).getD t 0=old at *
     obtain ⟨u16,i16,v16⟩ : ∃ u:Nat,IntKind.i64.wrap ((t:Int)-16)=(u:Int)∧u=t-16:=⟨t-16,by rw [IntWalk.i64_in _ (by omega)];omega,rfl⟩
     rw [←v16] at c16
     have m16:(u16:Int)<64:=by omega
     have n16:u16<64:=by omega
     have v16h:=Lib.hid v16
     clear v16
     obtain ⟨u15,i15,v15⟩ : ∃ u:Nat,IntKind.i64.wrap ((t:Int)-15)=(u:Int)∧u=t-15:=⟨t-15,by rw [IntWalk.i64_in _ (by omega)];omega,rfl⟩
     rw [←v15] at c15
     have m15:(u15:Int)<64:=by omega
     have n15:u15<64:=by omega
     have v15h:=Lib.hid v15
     clear v15
     obtain ⟨u7,i7,v7⟩ : ∃ u:Nat,IntKind.i64.wrap ((t:Int)-7)=(u:Int)∧u=t-7:=⟨t-7,by rw [IntWalk.i64_in _ (by omega)];omega,rfl⟩
     rw [←v7] at c7
     have m7:(u7:Int)<64:=by omega
     have n7:u7<64:=by omega
     have v7h:=Lib.hid v7
     clear v7
     obtain ⟨u2,i2,v2⟩ : ∃ u:Nat,IntKind.i64.wrap ((t:Int)-2)=(u:Int)∧u=t-2:=⟨t-2,by rw [IntWalk.i64_in _ (by omega)];omega,rfl⟩
     rw [←v2] at c2
     have m2:(u2:Int)<64:=by omega
     have n2:u2<64:=by omega
     have v2h:=Lib.hid v2
     clear v2
     go_wp2
     go_quiet (fail)
     go_wp2
     have r1:=rotr_lt (n:=7) b15 (by omega) (by omega)
     have r2:=rotr_lt (n:=18) b15 (by omega) (by omega)
     have r3:=rotr_lt (n:=17) b2 (by omega) (by omega)
     have r4:=rotr_lt (n:=19) b2 (by omega) (by omega)
     have e1:bits .xor .u32 (rotr x15 7:Int) (rotr x15 18:Int)=((rotr x15 7 ^^^ rotr x15 18:Nat):Int):=u32_xor_nat _ _ r1 r2
     have e2:bits .xor .u32 ((rotr x15 7 ^^^ rotr x15 18:Nat):Int) ((x15:Int) / 8)=((sig0 x15:Nat):Int):=by
      rw [show (x15:Int) / 8=((x15 / 8:Nat):Int) from by omega];exact u32_xor_nat _ _ (xor_lt r1 r2) (by omega)
     have e3:bits .xor .u32 (rotr x2 17:Int) (rotr x2 19:Int)=((rotr x2 17 ^^^ rotr x2 19:Nat):Int):=u32_xor_nat _ _ r3 r4
     have e4:bits .xor .u32 ((rotr x2 17 ^^^ rotr x2 19:Nat):Int) ((x2:Int) / 1024)=((sig1 x2:Nat):Int):=by
      rw [show (x2:Int) / 1024=((x2 / 1024:Nat):Int) from by omega];exact u32_xor_nat _ _ (xor_lt r3 r4) (by omega)
     have c16d:(wr.drewN nq).cell? ⟨w.heap.size+1,u16,none⟩=some (.int .u32 (x16:Int)):=c16
     have c7d:(wr.drewN nq).cell? ⟨w.heap.size+1,u7,none⟩=some (.int .u32 (x7:Int)):=c7
     have ctd:(wr.drewN nq).cell? ⟨w.heap.size+1,t,none⟩=some (.int .u32 (old:Int)):=ct
     have h1d:=h1.drewN nq
     have h2d:=h2.drewN nq
     have hbeld:=bdrewN hbel nq
     have hftd:(wr.drewN nq).frozen? ⟨w.heap.size+1,t,none⟩=false:=hft
     clear h1 h2 hbel hft c16 c15 c7 c2 ct
     generalize wr.drewN nq=wo at *
     obtain ⟨nx,hval,hnx⟩ : ∃ nx:Nat,IntKind.u32.wrap (IntKind.u32.wrap (IntKind.u32.wrap ((x16:Int)+(x7:Int))+((sig0 x15:Nat):Int))+((sig1 x2:Nat):Int))=(nx:Int)∧nx=nextW l:=by
      refine ⟨nextW l,?_,rfl⟩
      rw [hnext.out,IntKind.wrap_u32,IntKind.wrap_u32,IntKind.wrap_u32]
      omega
     have hnxh:=Lib.hid hnx
     clear hnx
     have ne16:u16≠t:=by have:=v16h.out;omega
     have ne7:u7≠t:=by have:=v7h.out;omega
     go_region_held3 (fun w'=>w'.cell? ⟨w.heap.size+1,u16,none⟩=some (.int .u32 (x16:Int))∧w'.cell? ⟨w.heap.size+1,u7,none⟩=some (.int .u32 (x7:Int))) (first | exact ⟨c16d,c7d⟩ | exact ⟨zEZ c16d ne16,zEZ c7d ne7⟩ | go_keep)
      (first
        | (go_at_call 150;(with_reducible refine (rot_at x15 (-7) 7 rfl b15 (by omega) (by omega) _).mono ?_);rintro e w1 ⟨rfl,rfl⟩)
        | (go_at_call 150;(with_reducible refine (rot_at x15 (-18) 18 rfl b15 (by omega) (by omega) _).mono ?_);rintro e w1 ⟨rfl,rfl⟩)
        | (go_at_call 150;(with_reducible refine (rot_at x2 (-17) 17 rfl b2 (by omega) (by omega) _).mono ?_);rintro e w1 ⟨rfl,rfl⟩)
        | (go_at_call 150;(with_reducible refine (rot_at x2 (-19) 19 rfl b2 (by omega) (by omega) _).mono ?_);rintro e w1 ⟨rfl,rfl⟩))
     have hn1:Blk ((wo.setCell ⟨w.heap.size+1,t,none⟩ (.int .u32 (nx:Int))).drew) (w.heap.size+1) 177 (u32s ((l++[nx])++List.replicate (64-(t+1)) 0)):=by
      have:=(h1d.set_ t (.int .u32 (nx:Int)))
      have hs:=zEn l (64-t) nx (by omega)
      rw [hlen.out] at hs
      rw [zCd,hs,show 64-t-1=64-(t+1) from by omega] at this
      exact this.drew
     have hn2:=(h2d.far (p:=⟨w.heap.size+1,t,none⟩) (by simp) (.int .u32 (nx:Int))).drew
     have hn3:=(hbeld.setCell (p:=⟨w.heap.size+1,t,none⟩) (by simp) (.int .u32 (nx:Int))).drew
     have hnlen:Hid ((l++[nx]).length=t+1):=by rw [List.length_append,hlen.out];rfl
     have hnfit:Hid (Fit32 (l++[nx])):=hfit.out.append (by rw [hnxh.out];exact nextW_lt l)
     have hnsc:Hid (sched (64-(t+1)) (l++[nx])=wordsOf b):=by
      rw [←hsc.out,show 64-t=(64-(t+1))+1 from by omega,sched,←hnxh.out];rfl
     go_wp2
     go_roundw
     case rel=>exact ⟨t+1,l++[nx],by go_num,by omega,by omega,hnlen,hnfit,hnsc,hn1,hn2,hn3⟩
     case measure=>simp [intOf];omega
    ·have ht64:t=64:=by omega
     have hti : ¬ (t:Int)<64:=by omega
     have hl:l=wordsOf b:=by have:=hsc.out;rw [ht64] at this;exact this
     rw [ht64,hl,List.replicate_zero,List.append_nil] at h1
     clear ht64 hl hsc hfit hlen
     have hwf : ∀ v∈u32s (wordsOf b),v.oneCell'=true:=by
      intro v hv
      obtain ⟨n, -,rfl⟩:=by simpa [u32s] using hv
      rfl
     have hsz:(u32s (wordsOf b)).size=64:=by rw [zBl,zCi]
     have hi:=sz64
     rw [←hsz] at hi
     have hi':=Lib.hid hi
     clear hi
     have hold:(u32s (List.replicate 64 0)).size=(u32s (wordsOf b)).size:=by rw [hsz,zBl];simp
     have hall:=Array.all_eq_true_iff_forall_mem.2 hwf
     have hsz':=Lib.hid hsz
     clear hsz
     go_wp2_with (first
      | (refine wpList_load_row rfl 177 (.tmp 3) rfl (w.heap.size+1) rfl _ _ _ _ h1 Tryz.underlying177 rfl hi'.out ?_)
      | (refine wpList_store_row rfl 177 (.tmp 2) (.tmp 71) rfl w.heap.size (u32s (wordsOf b)) rfl rfl _ _ h2 hi'.out hold hall ?_))
     exact bodyPost_ret (results_cell_row rfl _ _ w.heap.size _ _ _ _ rfl (setRow_heap _ _ _ _ _ _ h2) Tryz.underlying177 rfl hi'.out) rfl ⟨rfl,zAa hbel (Nat.le_refl _) _⟩
section
attribute [local go_sem ↓] Go.wp_at_zero Go.wp_at_succ
structure TabK (w:World):Prop where
 pos:0<w.heap.size
 at_ : ∀ t,t<64→w.cell? ⟨0,t,none⟩=some (.int .u32 (K256.getD t 0:Nat))
theorem TabK.below {w w':World} (h:TabK w) (hb:Below w.heap.size w w'):TabK w':=
 ⟨Nat.lt_of_lt_of_le h.pos hb.size,fun t ht=>(hb.cell (p:=⟨0,t,none⟩) h.pos).trans (h.at_ t ht)⟩
theorem run_index_words (l:List Nat) (hl:l.length=64) (t:Nat) (ht:t<64) (w:World) :
 (Instr.index 177 (.agg (u32s l)) (.int .i64 (t:Int))).run Tryz.prog w = .ok (.int .u32 (l.getD t 0:Nat)) w:=by
 have hu:Tryz.prog.underlying 177=some (.array 64 66):=by kernel_rfl
 have h0:(0:Int)≤(t:Int)∧(t:Int)<((64:Nat):Int):=by omega
 have h64 : ¬ 64≤t:=by omega
 have hg:=zA5 l t (by omega)
 have ha:(isAgg 66).run Tryz.prog w = .ok false w:=by kernel_rfl
 have hz:(sizeOf 66).run Tryz.prog w = .ok 1 w:=by kernel_rfl
 simp only [Instr.index,asIntOf,Sem.run_bind,Sem.run_pure,Result.andThen_ok,run_underlying hu]
 rw [if_pos h0]
 simp only [Sem.run_bind,Sem.run_pure,Result.andThen_ok,hz,part,ha,Int.toNat_natCast,Nat.mul_one,hg]
 rfl
theorem blk_new3 (w:World) (o1 o2:Obj) (t:TypeId) (cs:Array Value):Blk (((w.alloc o1).alloc o2).alloc (.cells cs t)) (w.heap.size+2) t cs:=by
 have:=Blk.new ((w.alloc o1).alloc o2) t cs
 rwa [show ((w.alloc o1).alloc o2).heap.size=w.heap.size+2 from by simp] at this
theorem sz8 : (Tryz.prog.info? 176).map (·.size)=some 8:=by kernel_rfl
theorem zBA (l:List Nat):(u32s l).all (·.oneCell')=true:=by
 refine Array.all_eq_true_iff_forall_mem.2 fun v hv=>?_
 obtain ⟨n, -,rfl⟩:=by simpa [u32s] using hv
 rfl
theorem zAs (s:H8):(u32s s.list).size=8:=rfl
theorem copy_up (wp:World) (g xa xb xc xd xe xf xg xh:Nat) (h:Blk wp g 176 (u32s [xa,xb,xc,xd,xe,xf,xg,xh])) :
 (Builtin.copy_ #[227,227] 3 #[.slice (some ⟨g,1,none⟩) 7 7, .slice (some ⟨g,0,none⟩) 7 8]).run Tryz.prog wp = .ok (goInt 7) (wp.setRow g (u32s [xa,xa,xb,xc,xd,xe,xf,xg])):=by
 have:=run_copy_row (P:=Tryz.prog) wp 227 227 3 66 g 1 7 7 ⟨g,0,none⟩ 7 8 (u32s [xa,xb,xc,xd,xe,xf,xg,xh]) 176 (u32s [xa,xb,xc,xd,xe,xf,xg]).toList (by kernel_rfl) (by kernel_rfl) h rfl (fun j v hj=>by
  rw [Addr.add_mid,Nat.zero_add,h.cell]
  have hlt:j<7:=by
   have:=(List.getElem?_eq_some_iff.1 hj).1
   simpa [u32s] using this
  rw [←hj]
  match j,hlt with
  | 0,_ | 1,_ | 2,_ | 3,_ | 4,_ | 5,_ | 6,_=>rfl) (by simp [u32s]) (fun v hv=>by
  obtain ⟨n, -,rfl⟩:=by simpa only [u32s,List.mem_map] using hv
  rfl)
 exact this
set_option maxRecDepth 100000 in
set_option maxHeartbeats 2000000 in
theorem block_calls (s0:H8) (hs0:s0.Fit) (b:List UInt8) (hb:b.length=64) (w:World) (hK:TabK w) :
 Calls Tryz.prog 127 #[.agg (u32s s0.list), .string (B b)] w fun e w'=>e = .returned (.agg (u32s (blockOf s0 b).list))∧Below w.heap.size w w':=by
 go_enter Tryz.func127,Tryz.ntmps127
 have hbox:Blk ((w.alloc (.cells (u32s s0.list) 176)).alloc (.cells (u32s (List.replicate 8 0)) 176)) w.heap.size 176 (u32s s0.list):=(Blk.new w _ _).alloc _
 have hv0:=blk_new3 w (.cells (u32s s0.list) 176) (.cells (u32s (List.replicate 8 0)) 176) 176 (u32s (List.replicate 8 0))
 have hi8:(Tryz.prog.info? 176).map (·.size)=some (u32s s0.list).size:=by rw [zAs];exact sz8
 have hall:=zBA s0.list
 have hold:(u32s (List.replicate 8 0)).size=(u32s s0.list).size:=by rw [zAs];rfl
 obtain ⟨R,hR⟩ : ∃ R,Hid (blockOf s0 b=R):=⟨_,rfl⟩
 go_wp2_with (first
  | (refine wpList_load_row rfl 176 (.tmp 2) rfl w.heap.size rfl _ _ _ _ hbox Tryz.underlying176 rfl hi8 ?_)
  | (refine wpList_store_row rfl 176 (.tmp 6) (.tmp 14) rfl (w.heap.size+2) (u32s s0.list) rfl rfl _ _ hv0 hi8 hold hall ?_)
  | (go_at_call 151;go_must (refine (words_calls b hb _).mono ?_);rintro e w1 ⟨rfl,hb1⟩))
 have hv1:Blk w1 (w.heap.size+1+1) 176 (u32s s0.list):=Blk.below (w:=World.setRow _ (w.heap.size+2) _) (setRow_heap _ _ _ _ _ _ hv0) hb1 (by simp)
 have hbx1:Blk w1 w.heap.size 176 (u32s s0.list):=Blk.below (w:=World.setRow _ (w.heap.size+2) _) (by unfold Blk;rw [setRow_other _ _ _ _ (by omega)];exact hbox.alloc _) hb1 (by simp;omega)
 have hr1:Blk w1 (w.heap.size+1) 176 (u32s (List.replicate 8 0)):=Blk.below (w:=World.setRow _ (w.heap.size+2) _) (by unfold Blk;rw [setRow_other _ _ _ _ (by omega)];exact (blk_new2 w _ _ _).alloc _) hb1 (by simp)
 have hbl1:Below w.heap.size w w1:=(zAa ((((Below.refl _ _).alloc (Nat.le_refl _) _).alloc (by simp) _).alloc (by simp;omega) _) (by omega) _).trans (hb1.mono (by simp;omega))
 clear hb1 hbox hv0
 go_loopw [17] (fun i wr => ∃ (t:Nat) (s:H8),i = .int .i64 t∧t≤64∧Hid (s=after (wordsOf b) s0 t)∧s.Fit∧Blk wr (w.heap.size+1+1) 176 (u32s s.list)∧Blk wr w.heap.size 176 (u32s s0.list)∧Blk wr (w.heap.size+1) 176 (u32s (List.replicate 8 0))∧Below w.heap.size w wr) (fun i _=>64-(intOf i).toNat)
 case atStart=>exact ⟨0,s0,rfl,by omega,rfl,hs0,hv1,hbx1,hr1,hbl1⟩
 case round=>
  obtain ⟨t,s,rfl,ht,hst,hfit,h1,h2,h3,hbel⟩:=hrel
  have hbs:=h1.lt
  by_cases hlt:t<64
  ·have hti:(t:Int)<64:=by omega
   have hidx:=run_index_words (wordsOf b) (zCi b) t hlt
   have hnext:Hid (after (wordsOf b) s0 (t+1)=rnd s (K256.getD t 0) ((wordsOf b).getD t 0)):=by rw [hst.out];rfl
   have bw:=wordsOf_fit b t
   have bk:=K256_fit t
   have ck:wr.cell? ⟨0,t,none⟩=some (.int .u32 (K256.getD t 0:Nat)):=(hbel.cell (p:=⟨0,t,none⟩) hK.pos).trans (hK.at_ t hlt)
   generalize (wordsOf b).getD t 0=wt at *
   generalize K256.getD t 0=kt at *
   obtain ⟨xa,xb,xc,xd,xe,xf,xg,xh⟩:=s
   obtain ⟨ba,bb,bc,bd,be,bf,bg,bh⟩:=hfit
   simp only at ba bb bc bd be bf bg bh
   have c0:wr.cell? ⟨w.heap.size+1+1,0,none⟩=some (.int .u32 (xa:Int)):=h1.cell 0
   have c1:wr.cell? ⟨w.heap.size+1+1,1,none⟩=some (.int .u32 (xb:Int)):=h1.cell 1
   have c2:wr.cell? ⟨w.heap.size+1+1,2,none⟩=some (.int .u32 (xc:Int)):=h1.cell 2
   have c3:wr.cell? ⟨w.heap.size+1+1,3,none⟩=some (.int .u32 (xd:Int)):=h1.cell 3
   have c4:wr.cell? ⟨w.heap.size+1+1,4,none⟩=some (.int .u32 (xe:Int)):=h1.cell 4
   have c5:wr.cell? ⟨w.heap.size+1+1,5,none⟩=some (.int .u32 (xf:Int)):=h1.cell 5
   have c6:wr.cell? ⟨w.heap.size+1+1,6,none⟩=some (.int .u32 (xg:Int)):=h1.cell 6
   have c7:wr.cell? ⟨w.heap.size+1+1,7,none⟩=some (.int .u32 (xh:Int)):=h1.cell 7
   go_wp2
   go_quiet (fail)
   go_wp2
   obtain ⟨wo,hwo⟩ : ∃ wo:World,wo=wr.drewN nq:=⟨_,rfl⟩
   rw [←hwo]
   have d0:wo.cell? ⟨w.heap.size+1+1,0,none⟩=some (.int .u32 (xa:Int)):=by rw [hwo];exact c0
   have d1:wo.cell? ⟨w.heap.size+1+1,1,none⟩=some (.int .u32 (xb:Int)):=by rw [hwo];exact c1
   have d2:wo.cell? ⟨w.heap.size+1+1,2,none⟩=some (.int .u32 (xc:Int)):=by rw [hwo];exact c2
   have d3:wo.cell? ⟨w.heap.size+1+1,3,none⟩=some (.int .u32 (xd:Int)):=by rw [hwo];exact c3
   have d4:wo.cell? ⟨w.heap.size+1+1,4,none⟩=some (.int .u32 (xe:Int)):=by rw [hwo];exact c4
   have d5:wo.cell? ⟨w.heap.size+1+1,5,none⟩=some (.int .u32 (xf:Int)):=by rw [hwo];exact c5
   have d6:wo.cell? ⟨w.heap.size+1+1,6,none⟩=some (.int .u32 (xg:Int)):=by rw [hwo];exact c6
   have d7:wo.cell? ⟨w.heap.size+1+1,7,none⟩=some (.int .u32 (xh:Int)):=by rw [hwo];exact c7
   have dk:wo.cell? ⟨0,t,none⟩=some (.int .u32 (kt:Int)):=by rw [hwo];exact ck
   have h1d:=h1.drewN nq
   have h2d:=h2.drewN nq
   have h3d:=h3.drewN nq
   have hbeld:=bdrewN hbel nq
   rw [←hwo] at h1d h2d h3d hbeld
   clear h1 h2 h3 hbel c0 c1 c2 c3 c4 c5 c6 c7 ck hwo
   have r6:=rotr_lt (n:=6) be (by omega) (by omega)
   have r11:=rotr_lt (n:=11) be (by omega) (by omega)
   have r25:=rotr_lt (n:=25) be (by omega) (by omega)
   have r2:=rotr_lt (n:=2) ba (by omega) (by omega)
   have r13:=rotr_lt (n:=13) ba (by omega) (by omega)
   have r22:=rotr_lt (n:=22) ba (by omega) (by omega)
   have e1:bits .xor .u32 (rotr xe 6:Int) (rotr xe 11:Int)=((rotr xe 6 ^^^ rotr xe 11:Nat):Int):=u32_xor_nat _ _ r6 r11
   have e2:bits .xor .u32 ((rotr xe 6 ^^^ rotr xe 11:Nat):Int) (rotr xe 25:Int)=((sum1 xe:Nat):Int):=u32_xor_nat _ _ (xor_lt r6 r11) r25
   have e3:bits .and .u32 (xe:Int) (xf:Int)=((xe &&& xf:Nat):Int):=u32_and_nat _ _ be bf
   have e4:bits .xor .u32 IntKind.u32.max (xe:Int)=((4294967295 ^^^ xe:Nat):Int):=u32_xor_nat 4294967295 _ (by omega) be
   have bn:4294967295 ^^^ xe<4294967296:=xor_lt (by omega) be
   have e5:bits .and .u32 ((4294967295 ^^^ xe:Nat):Int) (xg:Int)=(((4294967295 ^^^ xe) &&& xg:Nat):Int):=u32_and_nat _ _ bn bg
   have e6:bits .xor .u32 ((xe &&& xf:Nat):Int) (((4294967295 ^^^ xe) &&& xg:Nat):Int)=(((xe &&& xf) ^^^ ((4294967295 ^^^ xe) &&& xg):Nat):Int):=u32_xor_nat _ _ (and_lt bf) (and_lt bg)
   obtain ⟨X,hX,hXe⟩ : ∃ X:Nat,IntKind.u32.wrap (IntKind.u32.wrap (IntKind.u32.wrap (IntKind.u32.wrap ((xh:Int)+((sum1 xe:Nat):Int))+(((xe &&& xf) ^^^ ((4294967295 ^^^ xe) &&& xg):Nat):Int))+(kt:Int))+(wt:Int))=(X:Int)∧X=rndX ⟨xa,xb,xc,xd,xe,xf,xg,xh⟩ kt wt:=by
    refine ⟨_,?_,rfl⟩
    unfold rndX
    generalize ((xe &&& xf) ^^^ ((4294967295 ^^^ xe) &&& xg))=ch
    simp only [IntKind.wrap_u32]
    omega
   have hXh:=Lib.hid hXe
   clear hXe
   have f1:bits .xor .u32 (rotr xa 2:Int) (rotr xa 13:Int)=((rotr xa 2 ^^^ rotr xa 13:Nat):Int):=u32_xor_nat _ _ r2 r13
   have f2:bits .xor .u32 ((rotr xa 2 ^^^ rotr xa 13:Nat):Int) (rotr xa 22:Int)=((sum0 xa:Nat):Int):=u32_xor_nat _ _ (xor_lt r2 r13) r22
   have f3:bits .and .u32 (xa:Int) (xb:Int)=((xa &&& xb:Nat):Int):=u32_and_nat _ _ ba bb
   have f4:bits .and .u32 (xa:Int) (xc:Int)=((xa &&& xc:Nat):Int):=u32_and_nat _ _ ba bc
   have f5:bits .and .u32 (xb:Int) (xc:Int)=((xb &&& xc:Nat):Int):=u32_and_nat _ _ bb bc
   have f6:bits .xor .u32 ((xa &&& xb:Nat):Int) ((xa &&& xc:Nat):Int)=(((xa &&& xb) ^^^ (xa &&& xc):Nat):Int):=u32_xor_nat _ _ (and_lt bb) (and_lt bc)
   have f7:bits .xor .u32 (((xa &&& xb) ^^^ (xa &&& xc):Nat):Int) ((xb &&& xc:Nat):Int)=(((xa &&& xb) ^^^ (xa &&& xc) ^^^ (xb &&& xc):Nat):Int):=u32_xor_nat _ _ (xor_lt (and_lt bb) (and_lt bc)) (and_lt bc)
   obtain ⟨Y,hY,hYe⟩ : ∃ Y:Nat,IntKind.u32.wrap (((sum0 xa:Nat):Int)+(((xa &&& xb) ^^^ (xa &&& xc) ^^^ (xb &&& xc):Nat):Int))=(Y:Int)∧Y=rndY ⟨xa,xb,xc,xd,xe,xf,xg,xh⟩:=by
    refine ⟨_,?_,rfl⟩
    unfold rndY
    generalize (xa &&& xb) ^^^ (xa &&& xc) ^^^ (xb &&& xc)=mj
    simp only [IntKind.wrap_u32]
    omega
   have hYh:=Lib.hid hYe
   clear hYe
   go_region_held3 (fun w'=>w'.cell? ⟨w.heap.size+1+1,7,none⟩=some (.int .u32 (xh:Int))∧w'.cell? ⟨w.heap.size+1+1,5,none⟩=some (.int .u32 (xf:Int))∧w'.cell? ⟨w.heap.size+1+1,6,none⟩=some (.int .u32 (xg:Int))∧w'.cell? ⟨0,t,none⟩=some (.int .u32 (kt:Int))) (first | exact ⟨d7,d5,d6,dk⟩ | go_keep)
    (first
      | (go_at_call 150;(with_reducible refine (rot_at xe (-6) 6 rfl be (by omega) (by omega) _).mono ?_);rintro e w1 ⟨rfl,rfl⟩)
      | (go_at_call 150;(with_reducible refine (rot_at xe (-11) 11 rfl be (by omega) (by omega) _).mono ?_);rintro e w1 ⟨rfl,rfl⟩)
      | (go_at_call 150;(with_reducible refine (rot_at xe (-25) 25 rfl be (by omega) (by omega) _).mono ?_);rintro e w1 ⟨rfl,rfl⟩))
   go_wp2
   have d1':wo.drew.cell? ⟨w.heap.size+1+1,1,none⟩=some (.int .u32 (xb:Int)):=d1
   have d2':wo.drew.cell? ⟨w.heap.size+1+1,2,none⟩=some (.int .u32 (xc:Int)):=d2
   go_region_held3 (fun w'=>w'.cell? ⟨w.heap.size+1+1,1,none⟩=some (.int .u32 (xb:Int))∧w'.cell? ⟨w.heap.size+1+1,2,none⟩=some (.int .u32 (xc:Int))) (first | exact ⟨d1',d2'⟩ | exact ⟨d1,d2⟩ | go_keep)
    (first
      | (go_at_call 150;(with_reducible refine (rot_at xa (-2) 2 rfl ba (by omega) (by omega) _).mono ?_);rintro e w1 ⟨rfl,rfl⟩)
      | (go_at_call 150;(with_reducible refine (rot_at xa (-13) 13 rfl ba (by omega) (by omega) _).mono ?_);rintro e w1 ⟨rfl,rfl⟩)
      | (go_at_call 150;(with_reducible refine (rot_at xa (-22) 22 rfl ba (by omega) (by omega) _).mono ?_);rintro e w1 ⟨rfl,rfl⟩))
   go_wp2
   have g1:=h1d.drew.drew
   have g2:=h2d.drew.drew
   have g3:=h3d.drew.drew
   have gbel:=hbeld.drew.drew
   have gsz:w.heap.size+1+1<wo.drew.drew.heap.size:=g1.lt
   clear h1d h2d h3d hbeld d0 d1 d2 d3 d4 d5 d6 d7 dk d1' d2' e1 e2 e3 e4 e5 e6 f1 f2 f3 f4 f5 f6 f7 hX hY r2 r13 r22 r6 r11 r25
   generalize wo.drew.drew=wp at *
   obtain ⟨wq,hcp,hwq⟩ : ∃ wq,(Builtin.copy_ #[227,227] 3 #[.slice (some ⟨w.heap.size+1+1,1,none⟩) 7 7, .slice (some ⟨w.heap.size+1+1,0,none⟩) 7 8]).run Tryz.prog wp.drew = .ok (goInt 7) wq∧wq=wp.drew.setRow (w.heap.size+1+1) (u32s [xa,xa,xb,xc,xd,xe,xf,xg]):=⟨_,copy_up _ _ _ _ _ _ _ _ _ _ g1.drew,rfl⟩
   have q1:Blk wq (w.heap.size+1+1) 176 (u32s [xa,xa,xb,xc,xd,xe,xf,xg]):=by rw [hwq];exact setRow_heap _ _ _ _ _ _ g1.drew
   have q2:Blk wq w.heap.size 176 (u32s s0.list):=by rw [hwq];unfold Blk;rw [setRow_other _ _ _ _ (by omega)];exact g2.drew
   have q3:Blk wq (w.heap.size+1) 176 (u32s (List.replicate 8 0)):=by rw [hwq];unfold Blk;rw [setRow_other _ _ _ _ (by omega)];exact g3.drew
   have qbel:Below w.heap.size w wq:=by rw [hwq];exact zAa gbel.drew (by omega) _
   clear g1 g2 g3 gbel hwq
   go_region
   clear hcp
   have c4:wq.cell? ⟨w.heap.size+1+1,4,none⟩=some (.int .u32 (xd:Int)):=q1.cell 4
   have c0:wq.cell? ⟨w.heap.size+1+1,0,none⟩=some (.int .u32 (xa:Int)):=q1.cell 0
   have z4:=q1.frozen 4
   have z0:=q1.frozen 0
   obtain ⟨D,hD,hDe⟩ : ∃ D:Nat,IntKind.u32.wrap ((xd:Int)+(X:Int))=(D:Int)∧D=(xd+X)%4294967296:=⟨_,by rw [IntKind.wrap_u32];omega,rfl⟩
   obtain ⟨A0,hA,hAe⟩ : ∃ A0:Nat,IntKind.u32.wrap ((X:Int)+(Y:Int))=(A0:Int)∧A0=(X+Y)%4294967296:=⟨_,by rw [IntKind.wrap_u32];omega,rfl⟩
   have hDh:=Lib.hid hDe
   have hAh:=Lib.hid hAe
   clear hDe hAe
   go_wp2
   go_roundw
   case rel=>
    refine ⟨t+1,⟨A0,xa,xb,xc,D,xe,xf,xg⟩,by go_num,by omega,?_,⟨?_,ba,bb,bc,?_,be,bf,bg⟩,?_,?_,?_,?_⟩
    ·show _=_
     rw [hnext.out,rnd,←hXh.out,←hYh.out,←hDh.out,←hAh.out]
    ·have:=hAh.out;show A0<_;omega
    ·have:=hDh.out;show D<_;omega
    ·have:=((q1.set_ 4 (.int .u32 (D:Int))).set_ 0 (.int .u32 (A0:Int)))
     rw [zCd,zCd] at this
     exact this
    ·exact (q2.far (p:=⟨w.heap.size+1+1,4,none⟩) (by simp;omega) _).far (p:=⟨w.heap.size+1+1,0,none⟩) (by simp;omega) _
    ·exact (q3.far (p:=⟨w.heap.size+1+1,4,none⟩) (by simp) _).far (p:=⟨w.heap.size+1+1,0,none⟩) (by simp) _
    ·exact (qbel.setCell (p:=⟨w.heap.size+1+1,4,none⟩) (by simp;omega) _).setCell (p:=⟨w.heap.size+1+1,0,none⟩) (by simp;omega) _
   case measure=>simp [intOf];omega
  ·have ht64:t=64:=by omega
   have hti : ¬ (t:Int)<64:=by omega
   have hsv:Hid (R=s.plus s0):=by show _=_;rw [←hR.out,blockOf,←ht64,←hst.out]
   clear ht64 hst
   go_wp2
   go_loopw [96] (fun i wr => ∃ i':Nat,i = .int .i64 i'∧i'≤8∧Blk wr (w.heap.size+1+1) 176 (u32s (mixed s.list s0.list i'))∧Blk wr w.heap.size 176 (u32s s0.list)∧Blk wr (w.heap.size+1) 176 (u32s (List.replicate 8 0))∧Below w.heap.size w wr) (fun i _=>8-(intOf i).toNat)
   case atStart=>exact ⟨0,rfl,by omega,h1,h2,h3,hbel⟩
   case round=>
    obtain ⟨i,rfl,hi,h1,h2,h3,hbel⟩:=hrel
    have hbs:=h1.lt
    by_cases hi8:i<8
    ·have hii:(i:Int)<8:=by omega
     have ml:(mixed s.list s0.list i).length=8:=zEs s.list s0.list rfl i hi
     have cv:wr.cell? ⟨w.heap.size+1+1,i,none⟩=some (.int .u32 (s.list.getD i 0:Nat)):=by
      rw [h1.cell,zA5 _ _ (by omega),mixed_get s.list s0.list rfl i hi8]
     have cs:wr.cell? ⟨w.heap.size,i,none⟩=some (.int .u32 (s0.list.getD i 0:Nat)):=by
      rw [h2.cell,zA5 _ _ hi8]
     have zv:=h1.frozen i
     have hms:=Lib.hid (mixed_step s.list s0.list rfl i hi8)
     unfold add32 at hms
     generalize s.list.getD i 0=xv at *
     generalize s0.list.getD i 0=xs at *
     obtain ⟨N,hN,hNe⟩ : ∃ N:Nat,IntKind.u32.wrap ((xv:Int)+(xs:Int))=(N:Int)∧N=(xv+xs)%4294967296:=⟨_,by rw [IntKind.wrap_u32];omega,rfl⟩
     have hNh:=Lib.hid hNe
     clear hNe
     go_wp2
     go_region
     go_wp2
     go_roundw
     case rel=>
      refine ⟨i+1,by go_num,by omega,?_,?_,?_,?_⟩
      ·have:=(h1.set_ i (.int .u32 (N:Int))).drew
       rw [zCd,hNh.out,hms.out] at this
       rw [hNh.out]
       exact this
      ·exact (h2.far (p:=⟨w.heap.size+1+1,i,none⟩) (by simp;omega) _).drew
      ·exact (h3.far (p:=⟨w.heap.size+1+1,i,none⟩) (by simp) _).drew
      ·exact (hbel.setCell (p:=⟨w.heap.size+1+1,i,none⟩) (by simp;omega) _).drew
     case measure=>simp [intOf];omega
    ·have hi8':i=8:=by omega
     have hii : ¬ (i:Int)<8:=by omega
     rw [hi8',mixed_all,←hsv.out] at h1
     clear hi8'
     have hi':(Tryz.prog.info? 176).map (·.size)=some (u32s R.list).size:=by rw [zAs];exact sz8
     have hall':=zBA R.list
     have hold':(u32s (List.replicate 8 0)).size=(u32s R.list).size:=by rw [zAs];rfl
     go_wp2_with (first
      | (refine wpList_load_row rfl 176 (.tmp 6) rfl (w.heap.size+1+1) rfl _ _ _ _ h1 Tryz.underlying176 rfl hi' ?_)
      | (refine wpList_store_row rfl 176 (.tmp 4) (.tmp 108) rfl (w.heap.size+1) (u32s R.list) rfl rfl _ _ h3 hi' hold' hall' ?_))
     exact bodyPost_ret (results_cell_row rfl _ _ (w.heap.size+1) _ _ _ _ rfl (setRow_heap _ _ _ _ _ _ h3) Tryz.underlying176 rfl hi') rfl ⟨by rw [hR.out],zAa hbel (by omega) _⟩
end
end Go.Proofs.YtbcbmjdmlcldjaaGreatDoor
