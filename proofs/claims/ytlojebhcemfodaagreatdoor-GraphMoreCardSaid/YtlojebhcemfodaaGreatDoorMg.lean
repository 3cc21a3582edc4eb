/- Texts of this claim, laid together: RdC, GsP, RdD, RdE, GsW, StoO, GraM. -/
import Derived.Test.YtlojebhcemfodaaGreatDoorMf
import Derived.Deep.CutBlock
namespace Go.Proofs.YtlojebhcemfodaaGreatDoor
open Go.RowKit
theorem rPars_end {f:Nat} {r:Rd} {acc:List Txt} (h:f=0∨r.2=true):rPars f r acc=(acc,r):=by
 rcases h with rfl | h
 ·rfl
 ·cases f with
  | zero=>rfl
  | succ f=>rw [rPars,if_pos h]
theorem rPars_step {f:Nat} {s:Txt} {acc:List Txt}:rPars (f+1) (s,false) acc=rPars f (rId (s,false)).2 (acc++[(rId (s,false)).1]):=by
 rw [rPars,if_neg (by simp)]
theorem rPars_le : ∀ (f:Nat) (r:Rd) (acc:List Txt),(rPars f r acc).2.1.length≤r.1.length
 | 0,r,acc=>Nat.le_refl _
 | f+1,r,acc=>by
   rw [rPars]
   split
   ·exact Nat.le_refl _
   ·exact Nat.le_trans (rPars_le f _ _) (rId_le r)
/-- The loop over the parents, as it ends. -/
structure ParI (w:World) (gO gR:Nat) (o:ObjL) (r:Rd) (acc:List Txt) (vp:Value) (w':World):Prop where
 obj:ObjB w' gO { o with pars:=acc } (.slice none 0 0) vp
 own:OwnIds w' w.heap.size vp acc
 rd:RdB w' gR r
 far:Far [some gO,some gR] w w'
set_option maxRecDepth 100000 in
set_option maxHeartbeats 4000000 in
theorem commit_calls (k:Nat) (r:Rd) (hr:r.1.length≤100000) (gO gR:Nat) (hne:gO≠gR) (w:World) (hO:ObjB w gO (nObj k) (.slice none 0 0) (.slice none 0 0)) (hR:RdB w gR r) :
 Calls Tryz.prog 77 #[.pointer (some ⟨gR,0,none⟩), .pointer (some ⟨gO,0,none⟩)] w fun e w'=>e = .returned (.tuple #[])∧Did w gO gR w.heap.size (rCommit k r) w':=by
 have hi32:=rId_len r
 have hil:=rId_le r
 have hnl:=rNum_le (rId r).2
 have hnm:=rNum_num (rId r).2
 have hpl:=rPars_le (rNum (rId r).2).1 (badIf (decide (8<(rNum (rId r).2).1)) (rNum (rId r).2).2) []
 rw [badIf_le] at hpl
 have hic:=Lib.hid (ri_calls r hr gR w hR)
 have hnc:=fun W hW=>Lib.hid (rn_calls (rId r).2 (by omega) gR W hW)
 have hgO:some gO ∉ [some gR]:=by simp;omega
 have hltO:gO<w.heap.size:=hO.blk.lt
 have hltR:gR<w.heap.size:=Blk.lt hR
 have hS : ∀ k,some k∈[some gR]→some k∈[some gO,some gR]:=by simp
 have hend:Hid (rCommit k r=((⟨k,[],[],(rId r).1,(rPars (rNum (rId r).2).1 (badIf (decide (8<(rNum (rId r).2).1)) (rNum (rId r).2).2) []).1,(rNum (rPars (rNum (rId r).2).1 (badIf (decide (8<(rNum (rId r).2).1)) (rNum (rId r).2).2) []).2).1%4294967296,(rText (badIf (decide (4294967295<(rNum (rPars (rNum (rId r).2).1 (badIf (decide (8<(rNum (rId r).2).1)) (rNum (rId r).2).2) []).2).1)) (rNum (rPars (rNum (rId r).2).1 (badIf (decide (8<(rNum (rId r).2).1)) (rNum (rId r).2).2) []).2).2)).1,noId,0,[]⟩:ObjL),
  (rText (badIf (decide (4294967295<(rNum (rPars (rNum (rId r).2).1 (badIf (decide (8<(rNum (rId r).2).1)) (rNum (rId r).2).2) []).2).1)) (rNum (rPars (rNum (rId r).2).1 (badIf (decide (8<(rNum (rId r).2).1)) (rNum (rId r).2).2) []).2).2)).2)):=rfl
 generalize rId r=I at *
 generalize rNum I.2=N at *
 obtain ⟨C0,hC0⟩ : ∃ C0,Hid (rCommit k r=C0):=⟨_,Lib.hid rfl⟩
 rw [hC0.out] at hend
 rw [hC0.out]
 obtain ⟨X,hX⟩ : ∃ X,Hid (rPars N.1 (badIf (decide (8<N.1)) N.2) []=X):=⟨_,Lib.hid rfl⟩
 rw [hX.out] at hend hpl
 have hntc:=fun W hW=>Lib.hid (rn_calls X.2 (by omega) gR W hW)
 have htl:=rNum_le X.2
 have htm:=rNum_num X.2
 generalize rNum X.2=T at *
 have hbl:=badIf_le (decide (4294967295<T.1)) T.2
 have hxc:=fun W hW=>Lib.hid (rt_calls (badIf (decide (4294967295<T.1)) T.2) (by rw [hbl];omega) gR W hW)
 generalize hR4:badIf (decide (4294967295<T.1)) T.2=R4 at *
 have HR4:=Lib.hid hR4
 generalize rText R4=Y at *
 clear hR4 hC0 hbl
 have hstart:OwnIds w w.heap.size (.slice none 0 0) []:=World.ownsRow_nil _ _ _ _
 go_enter Tryz.func77,Tryz.ntmps77
 go_upto_if 15 with (first
  | ((with_reducible refine hic.out.mono ?_);rintro e w1 ⟨rfl,hr1,hf1⟩
     have hO1:=hO.far hf1 hgO
     have ht1:=hO1.there 3 32 (by omega)
     have hf1:=(hf1.mono (T:=[some gO,some gR]) hS)
     clear hic hR hO)
  | ((with_reducible refine lit_store_id (.tmp 11) (.tmp 9) gO 3 I.1 hi32 ht1 ?_ ?_ ?_);rfl;rfl
     have hO2:=hO1.setTree I.1 hi32
     have hr2:=hr1.cells_ hne (u8s I.1).toList 3
     have hf2:=Far.cells (S:=[some gO,some gR]) (g:=gO) (.inl (List.mem_cons_self ..)) (u8s I.1).toList 3 _ hf1
     clear hO1 hr1 hf1 ht1)
  | ((with_reducible refine (hnc _ hr2).out.mono ?_);rintro e w3 ⟨rfl,hr3,hf3⟩
     have hO3:=hO2.far hf3 hgO
     have hfar3:=hf2.trans (hf3.mono hS)
     clear hnc hr2 hO2 hf2 hf3))
 have hc1:=hr3.c1
 have hfr1:=hr3.f 1
 generalize hR2:badIf (decide (8<N.1)) N.2=R2 at *
 have hbl2:R2.1=N.2.1:=by rw [←hR2];exact badIf_le _ _
 have hbt:Hid (8<N.1→R2=(N.2.1,true)):=fun h=>by rw [←hR2,decide_eq_true h];rfl
 have hbf:Hid (¬ 8<N.1→R2=N.2):=fun h=>by rw [←hR2,decide_eq_false h];rfl
 clear hR2
 go_cut [] from 15 to 18 (fun wx=>RdB wx gR R2∧ObjB wx gO { nObj k with tree:=I.1 } (.slice none 0 0) (.slice none 0 0)∧Far [some gO,some gR] w wx)
 case first=>
  by_cases h8:8<N.1
  ·have h8i:(8:Int)<(N.1:Int):=by omega
   have e2:=Lib.hid (hbt.out h8)
   clear hbt hbf hbl2
   go_wp2_with (fail)
   go_meet
   case rel=>exact ⟨by rw [e2.out];exact hr3.bad,hO3.far (S:=[some gR]) ((Far.refl _ _).set_ (p:=⟨gR,1,none⟩) (.inl (by simp)) _) hgO,hfar3.set_ (.inl (by simp)) _⟩
  ·have h8i : ¬ (8:Int)<(N.1:Int):=by omega
   have e2:=Lib.hid (hbf.out h8)
   clear hbt hbf hbl2
   go_wp2_with (fail)
   go_meet
   case rel=>exact ⟨by rw [e2.out];exact hr3,hO3,hfar3⟩
 obtain ⟨hrX,hOX,hfX⟩:=hcut
 clear hr3 hO3 hfar3 hc1 hfr1
 have hb8:Hid (R2.2=false→N.1≤8):=fun h=>by
  by_cases h8:8<N.1
  ·rw [hbt.out h8] at h;cases h
  ·omega
 clear hbt hbf
 have hR2l:R2.1.length≤100000:=by rw [hbl2];omega
 have hownX:OwnIds wc w.heap.size (.slice none 0 0) []:=World.ownsRow_nil _ _ _ _
 have hn0:N.1≤0+N.1:=by omega
 have hn1:0+N.1≤N.1:=by omega
 have hpi0:ParI w gO gR { nObj k with tree:=I.1 } R2 [] (.slice none 0 0) wc:=⟨hOX,hownX,hrX,hfX⟩
 generalize N.1=n at *
 clear hOX hownX hrX hfX
 go_upto_block 0 with (fail)
 go_cut [] from 5 to 41 (fun wx => ∃ vp,ParI w gO gR { nObj k with tree:=I.1 } X.2 X.1 vp wx)
 case first=>
  go_wp2_with (fail)
  go_loopg [5] n (fun f vi wr => ∃ (j:Nat) (r':Rd) (acc:List Txt) (vp:Value),vi = .int .u64 j∧j+f≤n∧n≤j+f∧acc.length≤j∧Hid (r'.2=false→n≤8)∧Hid (rPars f r' acc=X)∧r'.1.length≤100000∧ParI w gO gR { nObj k with tree:=I.1 } r' acc vp wr)
  case atStart=>exact ⟨0,R2,[], .slice none 0 0,rfl,hn1,hn0,by simp,hb8,hX,hR2l,hpi0⟩
  case round=>
   obtain ⟨j,r',acc,vp,rfl,hj1,hj2,hacc,h8,hrel,hlen,hpi⟩:=hrel
   clear hX hb8 hpi0 hn0 hn1 hR2l hbl2
   have c1:=hpi.rd.c1
   by_cases hex:gk=0∨r'.2=true
   ·have hx:Hid ((acc,r')=X):=by show _=_;rw [←hrel.out];exact (rPars_end hex).symm
    have hfi:ParI w gO gR { nObj k with tree:=I.1 } X.2 X.1 vp wr:=by rw [←hx.out];exact hpi
    clear hrel h8 hx hpi
    cases hX2:r'.2 with
    | true=>
      rw [hX2] at c1
      clear hX2 hex
      by_cases hjn:j<n
      ·have hjn1:(j:Int)<(n:Int):=by omega
       go_wp2_with (fail)
       all_goals try (exfalso;omega)
       go_meet
       case rel=>exact ⟨vp,hfi⟩
      ·have hjn1 : ¬ (j:Int)<(n:Int):=by omega
       go_wp2_with (fail)
       all_goals try (exfalso;omega)
       go_meet
       case rel=>exact ⟨vp,hfi⟩
    | false=>
      rw [hX2] at c1 hex
      have hg0:gk=0:=by simpa using hex
      have hjn1 : ¬ (j:Int)<(n:Int):=by omega
      clear hX2 hex hg0
      go_wp2_with (fail)
      all_goals try (exfalso;omega)
      go_meet
      case rel=>exact ⟨vp,hfi⟩
   ·have hb0:r'.2=false:=by cases hq:r'.2<;>simp_all
    cases gk with
    | zero=>exact absurd (.inl rfl) hex
    | succ f=>
    have hn8:=h8.out hb0
    have hjn1:(j:Int)<(n:Int):=by omega
    have hj8:(j:Int)<8:=by omega
    obtain ⟨s,b⟩:=r'
    simp only at hb0 c1 hlen
    subst hb0
    rw [rPars_step] at hrel
    have hj32:=rId_len (s,false)
    have hjl:=rId_le (s,false)
    simp only at hjl
    have hIc0:=fun W (hW:RdB W gR (s,false))=>Lib.hid (ri_calls (s,false) hlen gR W hW)
    generalize rId (s,false)=J at *
    have h8':Hid (J.2.2=false→n≤8):=fun _=>hn8
    clear h8 hex
    go_upto_region 7 with (fail)
    all_goals try (exfalso;omega)
    obtain ⟨hOb,hown,hRb,hfar⟩:=hpi
    have hotr:=hOb.tr
    have hota:=hOb.ta
    have hF1:F1 w.heap.size gO 54 (objC { nObj k with tree:=I.1,pars:=acc } (.slice none 0 0) vp).toArray 42 32 vp acc.length (rowsOf idC acc) (Far [some gO,some gR] w) (fun _=>True) wr.drew:=⟨hOb.blk.drew,hown,hfar.drew,trivial,Nat.le_trans hfar.size (Nat.le_refl _)⟩
    have hA1:RdB wr.drew gR (if false=true then J.2 else (s,false)):=hRb.drewN 1
    have hcO:(objC { nObj k with tree:=I.1,pars:=acc } (.slice none 0 0) vp).toArray.size=72:=by rw [List.size_toArray];unfold objC;simp only [List.length_cons,List.length_append,u8s_len,hotr,hota,List.length_nil]
    have hve:(objC { nObj k with tree:=I.1,pars:=acc } (.slice none 0 0) vp).toArray[35]?=some vp:=by rw [List.getElem?_toArray];exact obj_pars (o:={ nObj k with tree:=I.1,pars:=acc }) hotr
    have hset:Hid (∀ v':Value,(objC { nObj k with tree:=I.1,pars:=acc } (.slice none 0 0) vp).toArray.setIfInBounds 35 v'=(objC { nObj k with tree:=I.1,pars:=acc++[J.1] } (.slice none 0 0) v').toArray):=fun v'=>by
     rw [List.setIfInBounds_toArray]
     congr 1
     show _::_::_::((u8s I.1).toList++_).set 32 _=_
     rw [set_app (by rw [u8s_len];exact hi32) (Nat.le_refl _)];rfl
    have hrow:Hid (rowsOf idC acc++idC J.1=rowsOf idC (acc++[J.1])):=by show _=_;rw [rowsOf_append,rowsOf_one]
    have hm1:acc.length+1≤9223372036854775807:=by omega
    have hm2:(acc.length+1)*32≤140737488355328:=by omega
    have hIb:=fun w1 w2 (h:Far [some gO,some gR] w w1) (hb:Below w1.heap.size w1 w2)=>h.more hb
    have hIB:=fun w1 w2 (h:Far [some gO,some gR] w w1) (hb:Below w.heap.size w1 w2)=>h.low hb
    have hIs:=fun v w1 (h:Far [some gO,some gR] w w1)=>h.set_ (p:=⟨gO,35,none⟩) (.inl (by simp)) v
    have hIf:=fun w1 w2 (h:Far [some gO,some gR] w w1) (hb:Far [some gR] w1 w2)=>h.trans (hb.mono hS)
    have hIc:=fun W (hW:RdB W gR (if false=true then J.2 else (s,false)))=>hIc0 W hW
    have hAt:=fun W (hW:RdB W gR J.2)=>(hW:RdB W gR (if true=true then J.2 else (s,false)))
    have hAb:=fun b w1 w2 (h:RdB w1 gR (if b=true then J.2 else (s,false))) (hb:Below w1.heap.size w1 w2)=>h.below hb
    have hAB:=fun b w1 w2 (h:RdB w1 gR (if b=true then J.2 else (s,false))) (hb:Below w.heap.size w1 w2)=>((hb.block gR hltR).trans h:RdB w2 gR (if b=true then J.2 else (s,false)))
    have hAs:=fun b v w1 (h:RdB w1 gR (if b=true then J.2 else (s,false)))=>RdB.set_ (p:=⟨gO,35,none⟩) h (fun e=>hne e.symm) v
    have hJb:=fun (w1 w2:World) (_:True) (_:Below w1.heap.size w1 w2)=>trivial
    have hSB : ∀ k,some k∈[some gR]→k<w.heap.size:=fun k hk=>by simp at hk;omega
    have hgOB:=hltO
    clear hOb hown hRb hfar hIc0 c1
    generalize (objC { nObj k with tree:=I.1,pars:=acc } (.slice none 0 0) vp).toArray=cO at *
    obtain ⟨n',hn'⟩ : ∃ n',Hid (acc.length=n'):=⟨_,Lib.hid rfl⟩
    rw [hn'.out] at hF1 hm1 hm2
    obtain ⟨xs,hxs⟩ : ∃ xs,Hid (rowsOf idC acc=xs):=⟨_,Lib.hid rfl⟩
    rw [hxs.out] at hF1
    obtain ⟨II,hII⟩ : ∃ II,Hid (Far [some gO,some gR] w=II):=⟨_,Lib.hid rfl⟩
    rw [hII.out] at hF1
    have hIb : ∀ w1 w2,II w1→Below w1.heap.size w1 w2→II w2:=hII.out▸hIb
    have hIB : ∀ w1 w2,II w1→Below w.heap.size w1 w2→II w2:=hII.out▸hIB
    have hIf : ∀ w1 w2,II w1→Far [some gR] w1 w2→II w2:=hII.out▸hIf
    have hIs : ∀ v w1,II w1→II (w1.setCell ⟨gO,35,none⟩ v):=hII.out▸hIs
    obtain ⟨BB,hBB⟩ : ∃ BB,Hid (w.heap.size=BB):=⟨_,Lib.hid rfl⟩
    rw [hBB.out] at hF1 hIB hgOB hAB hSB
    obtain ⟨AA,hAA⟩ : ∃ AA:Bool→World→Prop,AA=fun b W=>RdB W gR (if b=true then J.2 else (s,false)):=⟨_,rfl⟩
    have hAe : ∀ W,AA true W→RdB W gR J.2:=fun W h=>by rw [hAA] at h;exact h
    have hA1:AA false wr.drew:=by rw [hAA];exact hA1
    have hIc : ∀ W,AA false W→_:=fun W h=>hIc W (by rw [hAA] at h;exact h)
    have hAt : ∀ W,RdB W gR J.2→AA true W:=fun W h=>by rw [hAA];exact h
    have hAb : ∀ b w1 w2,AA b w1→Below w1.heap.size w1 w2→AA b w2:=fun b w1 w2 h hb=>by rw [hAA] at *;exact hAb b w1 w2 h hb
    have hAB : ∀ b w1 w2,AA b w1→Below BB w1 w2→AA b w2:=fun b w1 w2 h hb=>by rw [hAA] at *;exact hAB b w1 w2 h hb
    have hAs : ∀ b v w1,AA b w1→AA b (w1.setCell ⟨gO,35,none⟩ v):=fun b v w1 h=>by rw [hAA] at *;exact hAs b v w1 h
    clear hAA
    obtain ⟨V,hV⟩ : ∃ V:Nat→Value,V=fun i=>[(.pointer (some ⟨gO,0,none⟩)),(.pointer (some ⟨gO,0,none⟩)),(.pointer (some ⟨gO,0,none⟩)),(.pointer (some ⟨gO,35,none⟩)),vp,(.pointer (some ⟨gR,0,none⟩)),(.agg (u8s J.1)),undef,undef,(.pointer (some ⟨gO,0,none⟩)),(.pointer (some ⟨gO,35,none⟩)),undef].getD i undef:=⟨_,rfl⟩
    have v0:V 0=(.pointer (some ⟨gO,0,none⟩)):=by rw [hV];rfl
    have v1:V 1=(.pointer (some ⟨gO,0,none⟩)):=by rw [hV];rfl
    have v2:V 2=(.pointer (some ⟨gO,0,none⟩)):=by rw [hV];rfl
    have v3:V 3=(.pointer (some ⟨gO,35,none⟩)):=by rw [hV];rfl
    have v4:V 4=vp:=by rw [hV];rfl
    have v5:V 5=(.pointer (some ⟨gR,0,none⟩)):=by rw [hV];rfl
    have v6:V 6=(.agg (u8s J.1)):=by rw [hV];rfl
    have v9:V 9=(.pointer (some ⟨gO,0,none⟩)):=by rw [hV];rfl
    have v10:V 10=(.pointer (some ⟨gO,35,none⟩)):=by rw [hV];rfl
    have v11:V 11=undef:=by rw [hV];rfl
    clear hV
    refine wp_region_listed (C:=fun listed w=>Stage 8 11 (F1 BB gO 54 cO 42 32 vp n' xs II (fun _=>True)) (F2 BB gO 54 cO II) (F3 BB gO 35 54 cO 42 32 n' xs (idC J.1) II) listed w∧AA (listed.getD 6 false) w) (R:=StR V 7 8 (LitR BB 42 vp (idC J.1)) (AppR BB 42 32 n' xs (idC J.1))) (by kernel_rfl) (by kernel_rfl) (by kernel_rfl) ?_ ?_ ?_ ?_
    ·exact sizes_spec (n:=59) (by kernel_rfl)
    ·exact ⟨Stage.start hF1,by rw [getD_none];exact hA1⟩
    ·intro i o listed a w1 ho hi hL
     have hin:=(ready_spec hi).1
     have hsz:listed.size=12:=hL.size
     match i,ho with
     | 0,ho=>
       obtain rfl:=(Option.some.inj ho).symm
       have e0:a.tmps[1]?.getD undef=(.pointer (some ⟨gO,0,none⟩)):=(slot_eval a 1).trans (hL.get_old hi (by kernel_rfl))
       have hc:=Stage.same (i:=0) hL.cls.1 (by decide) (by decide)
       have hcx:=hL.cls.2
       rw [←getD_other (i:=0) (j:=6) (l:=listed) (by decide)] at hcx
       have hc:=And.intro hc hcx
       clear hcx
       refine step_wp rfl rfl ?_
       clear hi ho hL hin
       refine wp_val (v:=(.pointer (some ⟨gO,0,none⟩))) ?_ ⟨_,rfl,StR.mk (by decide) (by decide) v0.symm,hc,fun _ _ _ h=>h⟩
       clear v0 v1 v2 v3 v4 v5 v6 v9 v10 v11 hc
       unfold execOp
       go_simp
     | 1,ho=>
       obtain rfl:=(Option.some.inj ho).symm
       have e0:a.tmps[1]?.getD undef=(.pointer (some ⟨gO,0,none⟩)):=(slot_eval a 1).trans (hL.get_old hi (by kernel_rfl))
       have hc:=Stage.same (i:=1) hL.cls.1 (by decide) (by decide)
       have hcx:=hL.cls.2
       rw [←getD_other (i:=1) (j:=6) (l:=listed) (by decide)] at hcx
       have hc:=And.intro hc hcx
       clear hcx
       refine step_wp rfl rfl ?_
       clear hi ho hL hin
       refine wp_val (v:=(.pointer (some ⟨gO,0,none⟩))) ?_ ⟨_,rfl,StR.mk (by decide) (by decide) v1.symm,hc,fun _ _ _ h=>h⟩
       clear v0 v1 v2 v3 v4 v5 v6 v9 v10 v11 hc
       unfold execOp
       go_simp
     | 2,ho=>
       obtain rfl:=(Option.some.inj ho).symm
       have e0:a.tmps[32]?.getD undef=(.pointer (some ⟨gO,0,none⟩)):=(slot_eval a 32).trans (((hL.get_new (j:=1) hi (by kernel_rfl)).at_ (by decide) (by decide)).trans v1)
       have hc:=Stage.same (i:=2) hL.cls.1 (by decide) (by decide)
       have hcx:=hL.cls.2
       rw [←getD_other (i:=2) (j:=6) (l:=listed) (by decide)] at hcx
       have hc:=And.intro hc hcx
       clear hcx
       refine step_wp rfl rfl ?_
       clear hi ho hL hin
       refine wp_val (v:=(.pointer (some ⟨gO,0,none⟩))) ?_ ⟨_,rfl,StR.mk (by decide) (by decide) v2.symm,hc,fun _ _ _ h=>h⟩
       clear v0 v1 v2 v3 v4 v5 v6 v9 v10 v11 hc
       unfold execOp
       go_simp
     | 3,ho=>
       obtain rfl:=(Option.some.inj ho).symm
       have e0:a.tmps[33]?.getD undef=(.pointer (some ⟨gO,0,none⟩)):=(slot_eval a 33).trans (((hL.get_new (j:=2) hi (by kernel_rfl)).at_ (by decide) (by decide)).trans v2)
       have hc:=Stage.same (i:=3) hL.cls.1 (by decide) (by decide)
       have hcx:=hL.cls.2
       rw [←getD_other (i:=3) (j:=6) (l:=listed) (by decide)] at hcx
       have hc:=And.intro hc hcx
       clear hcx
       refine step_wp rfl rfl ?_
       clear hi ho hL hin
       refine wp_val (v:=(.pointer (some ⟨gO,35,none⟩))) ?_ ⟨_,rfl,StR.mk (by decide) (by decide) v3.symm,hc,fun _ _ _ h=>h⟩
       clear v0 v1 v2 v3 v4 v5 v6 v9 v10 v11 hc
       unfold execOp
       go_simp
     | 4,ho=>
       obtain rfl:=(Option.some.inj ho).symm
       have hla:listed.getD 8 false=false:=hL.later (j:=8) hi (by kernel_rfl)
       have hls:listed.getD 11 false=false:=hL.later2 hla (by kernel_rfl)
       have hc1:=Stage.one hL.cls.1 hla hls
       have e0:a.tmps[34]?.getD undef=(.pointer (some ⟨gO,35,none⟩)):=(slot_eval a 34).trans (((hL.get_new (j:=3) hi (by kernel_rfl)).at_ (by decide) (by decide)).trans v3)
       have hc:=Stage.same (i:=4) hL.cls.1 (by decide) (by decide)
       have hcx:=hL.cls.2
       rw [←getD_other (i:=4) (j:=6) (l:=listed) (by decide)] at hcx
       have hc:=And.intro hc hcx
       clear hcx
       refine step_wp rfl rfl ?_
       clear hi ho hL hin
       refine wp_val (v:=vp) ?_ ⟨_,rfl,StR.mk (by decide) (by decide) v4.symm,hc,fun _ _ _ h=>h⟩
       have f0:w1.cell? ⟨gO,35,none⟩=some vp:=by rw [hc1.blk.cell];exact hve
       clear hc1
       clear v0 v1 v2 v3 v4 v5 v6 v9 v10 v11 hc
       unfold execOp
       go_simp
     | 5,ho=>
       obtain rfl:=(Option.some.inj ho).symm
       have e0:a.tmps[0]?.getD undef=(.pointer (some ⟨gR,0,none⟩)):=(slot_eval a 0).trans (hL.get_old hi (by kernel_rfl))
       have hc:=Stage.same (i:=5) hL.cls.1 (by decide) (by decide)
       have hcx:=hL.cls.2
       rw [←getD_other (i:=5) (j:=6) (l:=listed) (by decide)] at hcx
       have hc:=And.intro hc hcx
       clear hcx
       refine step_wp rfl rfl ?_
       clear hi ho hL hin
       refine wp_val (v:=(.pointer (some ⟨gR,0,none⟩))) ?_ ⟨_,rfl,StR.mk (by decide) (by decide) v5.symm,hc,fun _ _ _ h=>h⟩
       clear v0 v1 v2 v3 v4 v5 v6 v9 v10 v11 hc
       unfold execOp
       go_simp
     | 6,ho=>
       obtain rfl:=(Option.some.inj ho).symm
       have hla:listed.getD 8 false=false:=hL.later (j:=8) hi (by kernel_rfl)
       have hls:listed.getD 11 false=false:=hL.later2 hla (by kernel_rfl)
       have hc1:=Stage.one hL.cls.1 hla hls
       have e0:a.tmps[36]?.getD undef=(.pointer (some ⟨gR,0,none⟩)):=(slot_eval a 36).trans (((hL.get_new (j:=5) hi (by kernel_rfl)).at_ (by decide) (by decide)).trans v5)
       refine step_wp rfl rfl ?_
       have hl6:listed.getD 6 false=false:=(getD_of_size (by rw [hsz];exact hin)).trans (ready_spec hi).2.1
       have hl7:listed.getD 7 false=false:=hL.later (j:=7) hi (by kernel_rfl)
       have hA:=hL.cls.2
       rw [hl6] at hA
       have hcl:=hIc w1 hA
       have hcj:=fun j u (hj:listed.getD j false=true) (h:StR V 7 8 (LitR BB 42 vp (idC J.1)) (AppR BB 42 32 n' xs (idC J.1)) j u w1) (w2:World)=>(StR.keepN (fun e=>by rw [e,hl7] at hj;cases hj) (fun e=>by rw [e,hla] at hj;cases hj) h:StR V 7 8 (LitR BB 42 vp (idC J.1)) (AppR BB 42 32 n' xs (idC J.1)) j u w2)
       refine call_step rfl (vals := #[.pointer (some ⟨gR,0,none⟩)]) (map1 ((slot_eval a 36).symm.trans e0)) (by go_simp) hcl.out ?_
       rintro e w2 ⟨rfl,hr2,hf2⟩
       exact ⟨_,rfl,_,rfl,StR.mk (by decide) (by decide) v6.symm,⟨Stage.to1 (hc1.far hf2 hgO hSB (hIf _ _ hc1.inv hf2) trivial) hla hls (by decide) (by decide),by rw [getD_here (by rw [hsz];decide)];exact hAt _ hr2⟩,fun j u hj h=>hcj j u hj h w2⟩
     | 7,ho=>
       obtain rfl:=(Option.some.inj ho).symm
       have hla:listed.getD 8 false=false:=hL.later (j:=8) hi (by kernel_rfl)
       have hls:listed.getD 11 false=false:=hL.later2 hla (by kernel_rfl)
       have hc1:=Stage.one hL.cls.1 hla hls
       have e0:a.tmps[37]?.getD undef=(.agg (u8s J.1)):=(slot_eval a 37).trans (((hL.get_new (j:=6) hi (by kernel_rfl)).at_ (by decide) (by decide)).trans v6)
       refine step_wp rfl rfl ?_
       have hbA:Below w1.heap.size w1 (w1.alloc (.cells (idC J.1).toArray 42)):=(Below.refl _ _).alloc (Nat.le_refl _) _
       refine slice_step rfl Tryz.idsTy (by decide) (idC_len hj32) (.inl (idC_agg ((slot_eval a 37).symm.trans e0))) ⟨_,rfl,StR.mkLit ⟨w1.heap.size,rfl,Blk.new _ _ _,hc1.size,fun h=>by have:=(World.ownsRow.lt hc1.own _ h).2;omega⟩,⟨Stage.to1 (hc1.below hbA (hIb _ _ hc1.inv hbA) (hJb _ _ hc1.pre hbA)) hla hls (by decide) (by decide),by rw [getD_other (by decide)];exact hAb _ _ _ hL.cls.2 hbA⟩,fun j u _ h=>StR.keep (fun _ h=>h.below hbA) (fun _ h=>h.below hbA) j u h⟩
     | 8,ho=>
       obtain rfl:=(Option.some.inj ho).symm
       have hla:listed.getD 8 false=false:=(getD_of_size (by rw [hsz];exact hin)).trans (ready_spec hi).2.1
       have hls:listed.getD 11 false=false:=hL.later2 hla (by kernel_rfl)
       have hc1:=Stage.one hL.cls.1 hla hls
       have hx:=(hL.get_new (j:=7) (t:=38) hi (by kernel_rfl)).lit
       have hs:a.eval (.tmp 35)=vp:=((hL.get_new (j:=4) hi (by kernel_rfl)).at_ (by decide) (by decide)).trans v4
       refine step_wp rfl rfl ?_
       refine app_step rfl Tryz.idsTy hc1 hgOB hx (idC_len hj32) (idC_one J.1) hm1 hm2 (fun w2 hb=>hIB _ _ hc1.inv hb) hs rfl ?_
       intro v2 w2 hf2 ha2 hk2 hb2
       exact ⟨_,rfl,StR.mkApp ha2 (by decide),⟨Stage.to2 hf2 hls (by rw [hsz];decide) (by decide),by rw [getD_other (by decide)];exact hAB _ _ _ hL.cls.2 hb2⟩,fun j u hj h=>StR.keepL hk2 (fun e=>by rw [e,hla] at hj;cases hj) h⟩
     | 9,ho=>
       obtain rfl:=(Option.some.inj ho).symm
       have e0:a.tmps[31]?.getD undef=(.pointer (some ⟨gO,0,none⟩)):=(slot_eval a 31).trans (((hL.get_new (j:=0) hi (by kernel_rfl)).at_ (by decide) (by decide)).trans v0)
       have hc:=Stage.same (i:=9) hL.cls.1 (by decide) (by decide)
       have hcx:=hL.cls.2
       rw [←getD_other (i:=9) (j:=6) (l:=listed) (by decide)] at hcx
       have hc:=And.intro hc hcx
       clear hcx
       refine step_wp rfl rfl ?_
       clear hi ho hL hin
       refine wp_val (v:=(.pointer (some ⟨gO,0,none⟩))) ?_ ⟨_,rfl,StR.mk (by decide) (by decide) v9.symm,hc,fun _ _ _ h=>h⟩
       clear v0 v1 v2 v3 v4 v5 v6 v9 v10 v11 hc
       unfold execOp
       go_simp
     | 10,ho=>
       obtain rfl:=(Option.some.inj ho).symm
       have e0:a.tmps[40]?.getD undef=(.pointer (some ⟨gO,0,none⟩)):=(slot_eval a 40).trans (((hL.get_new (j:=9) hi (by kernel_rfl)).at_ (by decide) (by decide)).trans v9)
       have hc:=Stage.same (i:=10) hL.cls.1 (by decide) (by decide)
       have hcx:=hL.cls.2
       rw [←getD_other (i:=10) (j:=6) (l:=listed) (by decide)] at hcx
       have hc:=And.intro hc hcx
       clear hcx
       refine step_wp rfl rfl ?_
       clear hi ho hL hin
       refine wp_val (v:=(.pointer (some ⟨gO,35,none⟩))) ?_ ⟨_,rfl,StR.mk (by decide) (by decide) v10.symm,hc,fun _ _ _ h=>h⟩
       clear v0 v1 v2 v3 v4 v5 v6 v9 v10 v11 hc
       unfold execOp
       go_simp
     | 11,ho=>
       obtain rfl:=(Option.some.inj ho).symm
       have hla:listed.getD 8 false=true:=hL.before hi (by kernel_rfl)
       have hls:listed.getD 11 false=false:=(getD_of_size (by rw [hsz];exact hin)).trans (ready_spec hi).2.1
       have hc2:=Stage.two hL.cls.1 hla hls
       have e0:a.tmps[41]?.getD undef=(.pointer (some ⟨gO,35,none⟩)):=(slot_eval a 41).trans (((hL.get_new (j:=10) hi (by kernel_rfl)).at_ (by decide) (by decide)).trans v10)
       have hv:=(hL.get_new (j:=8) (t:=39) hi (by kernel_rfl)).app (by decide)
       obtain ⟨vA,vK,hvv⟩:=own_form' hv
       rw [hvv] at hv
       have e1:a.tmps[39]?.getD undef=_:=(slot_eval a 39).trans hvv
       have c0:(w1.cell? ⟨gO,35,none⟩).isSome=true:=(hc2.blk.there (o:=35) (n:=1) (by rw [hcO];decide) 0 (by decide)).1
       obtain ⟨c0v,c0⟩:=Option.isSome_iff_exists.1 c0
       have f0:=hc2.blk.frozen 35
       have hR:=fun u=>AppR.set_ (p:=⟨gO,35,none⟩) (hv) hgOB u
       have h3:=Stage.to3 (ap:=8) (P1:=(F1 BB gO 54 cO 42 32 vp n' xs II (fun _=>True))) (P2:=(F2 BB gO 54 cO II)) (hc2.stored (off:=35) hv hgOB (hIs _ _ hc2.inv)) (listed:=listed) (st:=11) (by rw [hsz];decide)
       have hcx : ∀ u,AA ((listed.setIfInBounds 11 true).getD 6 false) (w1.setCell ⟨gO,35,none⟩ u):=fun u=>by rw [getD_other (by decide)];exact hAs _ u _ hL.cls.2
       refine step_wp rfl rfl ?_
       clear hi ho hL hin hc2
       refine wp_skip (w':=w1.setCell ⟨gO,35,none⟩ _) ?_ ⟨_,rfl,StR.mk (by decide) (by decide) v11.symm,⟨h3,hcx _⟩,fun j u _ h=>StR.keep (fun _ h=>h.set_ hgOB _) (fun _ h=>AppR.set_ h hgOB _) j u h⟩
       clear v0 v1 v2 v3 v4 v5 v6 v9 v10 v11 h3
       unfold execOp
       go_simp
     | (n+12),ho=>exact absurd hin (by simp)
    ·intro a w1 listed hL hall
     obtain ⟨v3,hb3,ho3,hi3,_⟩:=Stage.three hL.cls.1 (hall 11 (by decide))
     have hrd:=hL.cls.2
     rw [hall 6 (by decide)] at hrd
     have hrd:=hAe _ hrd
     rw [←hII.out] at hi3
     rw [hset.out] at hb3
     have hob3:ObjB w1 gO { nObj k with tree:=I.1,pars:=acc++[J.1] } (.slice none 0 0) v3:=⟨hb3,hotr,hota⟩
     rw [←hxs.out,←hn'.out,←hBB.out,hrow.out] at ho3
     have hown3:OwnIds w1 w.heap.size v3 (acc++[J.1]):=by unfold OwnIds;rw [List.length_append];exact ho3
     have hl3:(acc++[J.1]).length≤j+1:=by rw [List.length_append];simp only [List.length_cons,List.length_nil];omega
     have hlJ:J.2.1.length≤100000:=by omega
     have hpi3:ParI w gO gR { nObj k with tree:=I.1 } J.2 (acc++[J.1]) v3 w1:=⟨hob3,hown3,hrd,hi3⟩
     obtain ⟨vs,rfl,hR⟩:=hL.frame (by kernel_rfl) (sizes_spec (n:=59) (by kernel_rfl)) hall
     clear hL hall hR hF1 hIb hIB hIs hIf hIc hAt hAb hAB hAs hAe hA1 hJb hII hset hrow hxs hn' hBB hm1 hm2 hb3 ho3 hi3 hve hcO hob3 hown3 hrd hSB
     simp only [putAll,Act.put,List.setIfInBounds_toArray,List.set_cons_zero,List.set_cons_succ]
     go_wp2_with (fail)
     go_roundg f
     case rel=>exact ⟨j+1,J.2,acc++[J.1],v3,by go_num,by omega,by omega,hl3,h8',hrel,hlJ,hpi3⟩
     case measure=>exact Nat.lt_succ_self f
 clear hpi0 hn0 hn1 hX hb8 hstart hR2l hbl2 hf1
 obtain ⟨vp,hpi⟩:=hcut
 obtain ⟨hOb,hown,hRb,hfar⟩:=hpi
 go_upto_if 45 with (first
  | ((with_reducible refine (hntc _ hRb).out.mono ?_);rintro e w5 ⟨rfl,hr5,hf5⟩
     have hO5:=hOb.far hf5 hgO
     have hown5:=hf5.own hown (fun k hk=>by have:=(World.ownsRow.lt hown k hk).1;simp;omega)
     have hfar5:=hfar.trans (hf5.mono hS)
     have c1:=hr5.c1
     have fr1:=hr5.f 1
     clear hOb hown hfar hRb hntc hf5))
 have hpi5:ParI w gO gR { nObj k with tree:=I.1 } T.2 X.1 vp w5:=⟨hO5,hown5,hr5,hfar5⟩
 go_cut [] from 45 to 48 (fun wx=>ParI w gO gR { nObj k with tree:=I.1 } R4 X.1 vp wx)
 case first=>
  clear hxc hend
  by_cases h4:4294967295<T.1
  ·have h4i:(4294967295:Int)<(T.1:Int):=by omega
   have e4:Hid (R4=(T.2.1,true)):=by show _=_;rw [←HR4.out,decide_eq_true h4];rfl
   have hown6:OwnIds (w5.setCell ⟨gR,1,none⟩ (.bool true)) w.heap.size vp X.1:=own_set hown5 hltR _
   clear hpi5 HR4
   go_wp2_with (fail)
   go_meet
   case rel=>exact ⟨hO5.far (S:=[some gR]) ((Far.refl _ _).set_ (p:=⟨gR,1,none⟩) (.inl (by simp)) _) hgO,hown6,by rw [e4.out];exact hr5.bad,hfar5.set_ (.inl (by simp)) _⟩
  ·have h4i : ¬ (4294967295:Int)<(T.1:Int):=by omega
   have e4:Hid (R4=T.2):=by show _=_;rw [←HR4.out,decide_eq_false h4];rfl
   clear HR4
   go_wp2_with (fail)
   go_meet
   case rel=>rw [e4.out];exact hpi5
 obtain ⟨hO6,hown6,hr6,hf6⟩:=hcut
 clear hpi5 hO5 hown5 hr5 hfar5 c1 fr1 HR4
 have f36:=hO6.fr 36
 have c36:=hO6.time
 have hO7:=hO6.setTime (T.1%4294967296)
 have hown7:=own_set (p:=⟨gO,36,none⟩) hown6 hltO (.int .u32 (T.1%4294967296:Nat))
 have hr7:=hr6.set_ (p:=⟨gO,36,none⟩) (fun e=>hne e.symm) (.int .u32 (T.1%4294967296:Nat))
 have hf7:=hf6.set_ (p:=⟨gO,36,none⟩) (.inl (by simp)) (.int .u32 (T.1%4294967296:Nat))
 clear hO6 hown6 hr6 hf6
 have hend2:Hid (C0=((⟨k,[],[],I.1,X.1,T.1%4294967296,Y.1,noId,0,[]⟩:ObjL),Y.2)):=hend
 have hcast:((T.1%4294967296:Nat):Int)=(T.1:Int)%4294967296:=by omega
 have e36:Value.int .u32 ((T.1%4294967296:Nat):Int) = .int .u32 ((T.1:Int)%4294967296):=by rw [hcast]
 rw [e36] at hO7 hown7 hr7 hf7
 clear hend hcast e36
 go_wp2_with (first
  | ((with_reducible refine (hxc _ hr7).out.mono ?_);rintro e w8 ⟨rfl,hr8,hf8⟩
     clear f36 c36
     have hO8:=hO7.far hf8 hgO
     have hown8:=hf8.own hown7 (fun k hk=>by have:=(World.ownsRow.lt hown7 k hk).1;simp;omega)
     have hf8:=hf7.trans (hf8.mono hS)
     have f37:=hO8.fr 37
     have c37:=hO8.text
     have hO9:=hO8.setText Y.1
     have hown9:=own_set (p:=⟨gO,37,none⟩) hown8 hltO (.string (B Y.1))
     have hr9:=hr8.set_ (p:=⟨gO,37,none⟩) (fun e=>hne e.symm) (.string (B Y.1))
     have hf9:=hf8.set_ (p:=⟨gO,37,none⟩) (.inl (by simp)) (.string (B Y.1))
     clear hO7 hown7 hr7 hf7 hxc hO8 hown8 hr8 hf8))
 go_end0
 refine ⟨rfl,?_⟩
 rw [hend2.out]
 exact ⟨_,_,⟨hO9,World.ownsRow_nil _ _ _ _,hown9,hr9,hf9⟩⟩
end Go.Proofs.YtlojebhcemfodaaGreatDoor
namespace Go.Proofs.YtlojebhcemfodaaGreatDoor
open Go.RowKit
def idG (s:Txt):Txt:=s.take 32++List.replicate (32-s.length) 0
theorem idG_len (s:Txt):(idG s).length=32:=by unfold idG;simp;omega
def gEnt (d:UInt8) (t:Txt):EntL:=⟨(takeN t).1,d.toNat,idG (t.drop (takeN t).2)⟩
def gTree : Nat→Txt→List EntL→List EntL
 | f+1,d::t,acc=>gTree f ((t.drop (takeN t).2).drop 32) (acc++[gEnt d t])
 | _,_,acc=>acc
def gPars : Nat→Txt→List Txt→List Txt×Txt
 | 0,t,acc=>(acc,t)
 | n+1,t,acc=>gPars n (t.drop 32) (acc++[idG t])
def gCommit (t:Txt):ObjL:=
 let a:=t.drop 32
 let b:=a.drop (getN a).2
 let p:=gPars (min (getN a).1 9) b []
 ⟨3,[],[],idG t,p.1,(getN p.2).1%4294967296,(takeN (p.2.drop (getN p.2).2)).1,noId,0,[]⟩
def gTag (t:Txt):ObjL:=⟨4,[],[],noId,[],0,[],idG (t.drop 1),(t.headD 0).toNat,(takeN ((t.drop 1).drop 32)).1⟩
def zeroO : ObjL:=⟨0,[],[],noId,[],0,[],noId,0,[]⟩
def guessB (k:Nat) (t:Txt):ObjL:=if k=1 then ⟨1,t,[],noId,[],0,[],noId,0,[]⟩ else if k=2 then ⟨2,[],gTree 65 t [],noId,[],0,[],noId,0,[]⟩ else if k=3 then gCommit t else if k=4 then gTag t else nObj k
/-- The object that bytes may be the encoding of. -/
def guessL (c:UInt8) (q:Txt):ObjL:=if (takeN q).2=0 then zeroO else guessB c.toNat (takeN q).1
theorem put_pos (n:Nat):0<(put n).length:=putF_pos 9 n
theorem getN_app (n:Nat) (hn:n≤18446744073709551615) (b:Txt):getN (put n++b)=(n,(put n).length):=by unfold getN;rw [get_put n hn b];rfl
theorem takeN_app (t b:Txt) (ht:t.length≤18446744073709551615):takeN (textE t++b)=(t,(textE t).length):=by
 have hg:getN (textE t++b)=(t.length,(put t.length).length):=by
  unfold textE
  rw [List.append_assoc,getN_app _ ht]
 have hp:=put_pos t.length
 unfold takeN
 rw [hg]
 simp only
 rw [if_neg]
 ·unfold textE
  rw [List.append_assoc,List.drop_left,List.take_left,List.length_append]
 ·unfold textE
  simp only [List.length_append]
  omega
theorem idG_app (i b:Txt) (hi:i.length=32):idG (i++b)=i:=by
 unfold idG
 rw [show 32-(i++b).length=0 from by simp;omega,←hi,List.take_left]
 simp
theorem drop32 (i b:Txt) (hi:i.length=32):(i++b).drop 32=b:=by rw [←hi,List.drop_left]
theorem gTree_app : ∀ (l:List EntL) (f:Nat) (acc:List EntL),(∀ e∈l,(e.kind=1∨e.kind=2)∧e.id.length=32∧e.name.length≤18446744073709551615)→l.length≤f→gTree f (entsE l) acc=acc++l
 | [],0,acc,_,_=>by simp [gTree]
 | [],f+1,acc,_,_=>by simp [gTree,entsE]
 | e::l,0,acc,_,hf=>by simp at hf
 | e::l,f+1,acc,h,hf=>by
   obtain ⟨h1,h2,h3⟩:=h e (by simp)
   have he:entsE (e::l)=byteK e.kind::(textE e.name++(e.id++entsE l)):=by simp [entsE,entE]
   have ht:=takeN_app e.name (e.id++entsE l) h3
   rw [he,gTree,gEnt,ht]
   simp only [List.drop_left]
   rw [drop32 e.id _ h2,idG_app e.id _ h2,gTree_app l f _ (fun x hx=>h x (by simp [hx])) (by simp at hf;omega)]
   have:=byteK_nat (k:=e.kind) (by omega) (by omega)
   rw [this]
   simp
theorem gPars_app (b:Txt) : ∀ (l:List Txt) (acc:List Txt),(∀ p∈l,p.length=32)→gPars l.length (l.flatten++b) acc=(acc++l,b)
 | [],acc,_=>by simp [gPars]
 | p::l,acc,h=>by
   have hp:=h p (by simp)
   rw [List.length_cons,gPars,List.flatten_cons,List.append_assoc,idG_app p _ hp,drop32 p _ hp,gPars_app b l _ (fun x hx=>h x (by simp [hx]))]
   simp
theorem guess_enc (o:ObjL) (hm:mayB o=true) (hs:Sound o) (hl:(bodyO o).length≤4096):guessB (byteK o.kind).toNat (bodyO o)=o:=by
 obtain ⟨htr,hta,he,hp,htm⟩:=hs
 have ha:=may_alone hm
 unfold aloneB at ha
 rcases may_kind hm with hk | hk | hk | hk
 ·rw [hk] at ha
  simp at ha
  obtain ⟨c1,c2,c3,c4⟩:=commit_all ha.1.2
  obtain ⟨t1,t2,t3⟩:=tag_all ha.2
  have e1:=tree_nil ha.1.1
  have hb:bodyO o=o.data:=by unfold bodyO;rw [if_pos hk]
  rw [hb,hk]
  show guessB 1 _=_
  unfold guessB
  rw [if_pos rfl]
  obtain ⟨kind,data,ents,tree,pars,time,text,target,of_,name⟩:=o
  simp only at *
  subst hk c1 c2 c3 c4 t1 t2 t3 e1
  rfl
 ·have hf:entsB o.ents=true:=by
   unfold mayB at hm
   rw [if_pos hk] at hm
   simp at hm
   exact hm.2
  rw [hk] at ha
  simp at ha
  obtain ⟨c1,c2,c3,c4⟩:=commit_all ha.1.2
  obtain ⟨t1,t2,t3⟩:=tag_all ha.2
  have e1:=blob_nil ha.1.1
  have hb:bodyO o=entsE o.ents:=by unfold bodyO;rw [if_neg (by omega),if_pos hk]
  rw [hb,hk]
  show guessB 2 _=_
  unfold guessB
  rw [if_neg (by omega),if_pos rfl]
  have hfine:=(ents_fine hf).2
  have:=gTree_app o.ents 65 [] (fun e hx=>⟨(hfine e hx).2,he e hx,by have:=name_len (hfine e hx).1;omega⟩) (by have:=(ents_fine hf).1;omega)
  simp only [this,List.nil_append]
  obtain ⟨kind,data,ents,tree,pars,time,text,target,of_,name⟩:=o
  simp only at *
  subst hk c1 c2 c3 c4 t1 t2 t3 e1
  rfl
 ·have hp8:o.pars.length≤8:=by
   unfold mayB at hm
   rw [if_neg (by omega),if_pos hk] at hm
   simp at hm
   exact hm.2
  rw [hk] at ha
  simp at ha
  obtain ⟨t1,t2,t3⟩:=tag_all ha.2
  have e1:=blob_nil ha.1.1
  have e2:=tree_nil ha.1.2
  have hb:bodyO o=commitE o:=by unfold bodyO;rw [if_neg (by omega),if_neg (by omega),if_pos hk]
  rw [hb] at hl ⊢
  rw [hk]
  show guessB 3 _=_
  unfold guessB
  rw [if_neg (by omega),if_neg (by omega),if_pos rfl]
  have htx:o.text.length≤18446744073709551615:=by
   unfold commitE textE at hl
   simp only [List.length_append] at hl
   omega
  have hc:commitE o=o.tree++(put o.pars.length++(o.pars.flatten++(put o.time++(textE o.text++[])))):=by unfold commitE;simp
  rw [hc]
  unfold gCommit
  simp only [idG_app o.tree _ htr,drop32 o.tree _ htr,getN_app o.pars.length (by omega),List.drop_left,show min o.pars.length 9=o.pars.length from by omega,gPars_app _ o.pars [] hp,getN_app o.time (by omega),takeN_app o.text [] htx,List.nil_append]
  rw [Nat.mod_eq_of_lt htm]
  obtain ⟨kind,data,ents,tree,pars,time,text,target,of_,name⟩:=o
  simp only at *
  subst hk t1 t2 t3 e1 e2
  rfl
 ·have hfn:kindB o.of_=true∧nameB o.name=true:=by
   unfold mayB at hm
   rw [if_neg (by omega),if_neg (by omega),if_pos hk] at hm
   simp at hm
   exact ⟨hm.1.2,hm.2⟩
  rw [hk] at ha
  simp at ha
  obtain ⟨c1,c2,c3,c4⟩:=commit_all ha.2
  have e1:=blob_nil ha.1.1
  have e2:=tree_nil ha.1.2
  have hb:bodyO o=tagE o:=by unfold bodyO;rw [if_neg (by omega),if_neg (by omega),if_neg (by omega),if_pos hk]
  rw [hb,hk]
  show guessB 4 _=_
  unfold guessB
  rw [if_neg (by omega),if_neg (by omega),if_neg (by omega),if_pos rfl]
  have hnl:=name_len hfn.2
  have hof:1≤o.of_∧o.of_≤4:=by
   have:=hfn.1
   unfold kindB at this
   simp at this
   exact this
  have hc:tagE o=byteK o.of_::(o.target++(textE o.name++[])):=by unfold tagE;simp
  rw [hc]
  unfold gTag
  have hbk:=byteK_nat (k:=o.of_) (by omega) (by omega)
  simp only [List.drop_succ_cons,List.drop_zero,List.headD_cons,idG_app o.target _ hta,drop32 o.target _ hta,takeN_app o.name [] (by omega),hbk]
  obtain ⟨kind,data,ents,tree,pars,time,text,target,of_,name⟩:=o
  simp only at *
  subst hk c1 c2 c3 c4 e1 e2
  rfl
theorem guess_whole (o:ObjL) (hm:mayB o=true) (hs:Sound o) (hl:(bodyO o).length≤4096):guessL (byteK o.kind) (textE (bodyO o))=o:=by
 have ht:=takeN_app (bodyO o) [] (by omega)
 rw [List.append_nil] at ht
 unfold guessL
 rw [ht,if_neg (show ¬ (textE (bodyO o)).length=0 from by unfold textE;have:=put_pos (bodyO o).length;rw [List.length_append];omega)]
 exact guess_enc o hm hs hl
theorem gTree_sound : ∀ (f:Nat) (t:Txt) (acc:List EntL),(∀ e∈acc,e.id.length=32) → ∀ e∈gTree f t acc,e.id.length=32
 | 0,t,acc,h=>by rw [gTree];exact h;intro a b c hc;cases hc
 | f+1,[],acc,h=>by rw [gTree];exact h;intro a b c hc hd;cases hd
 | f+1,d::t,acc,h=>by
   rw [gTree]
   refine gTree_sound f _ _ ?_
   intro e he
   rcases List.mem_append.1 he with he | he
   ·exact h e he
   ·obtain rfl:=List.mem_singleton.1 he
    exact idG_len _
theorem gPars_sound : ∀ (n:Nat) (t:Txt) (acc:List Txt),(∀ e∈acc,e.length=32) → ∀ e∈(gPars n t acc).1,e.length=32
 | 0,t,acc,h=>h
 | n+1,t,acc,h=>by
   rw [gPars]
   refine gPars_sound n _ _ ?_
   intro e he
   rcases List.mem_append.1 he with he | he
   ·exact h e he
   ·obtain rfl:=List.mem_singleton.1 he
    exact idG_len _
theorem guess_sound (c:UInt8) (q:Txt):Sound (guessL c q):=by
 unfold guessL guessB
 repeat' split
 ·exact ⟨noId_len,noId_len,(by intro p hp;cases hp),(by intro p hp;cases hp),by show 0<_;omega⟩
 ·exact ⟨noId_len,noId_len,(by intro p hp;cases hp),(by intro p hp;cases hp),by show 0<_;omega⟩
 ·exact ⟨noId_len,noId_len,gTree_sound _ _ _ (by simp),(by intro p hp;cases hp),by show 0<_;omega⟩
 ·exact ⟨idG_len _,noId_len,(by intro p hp;cases hp),gPars_sound _ _ _ (by simp),Nat.mod_lt _ (by omega)⟩
 ·exact ⟨noId_len,idG_len _,(by intro p hp;cases hp),(by intro p hp;cases hp),by show 0<_;omega⟩
 ·exact ⟨noId_len,noId_len,(by intro p hp;cases hp),(by intro p hp;cases hp),by show 0<_;omega⟩
/-- The document's decoding is ours. -/
theorem dec_same (c:UInt8) (q:Txt):decO (c::q)=if encO (guessL c q)=some (c::q) then some (guessL c q) else none:=by
 split
 ·rename_i h
  have hs:=guess_sound c q
  exact (dec_enc h hs.tree hs.target hs.ents hs.pars hs.time).1
 ·rename_i h
  cases hd:decO (c::q) with
  | none=>rfl
  | some o=>
    exfalso
    apply h
    obtain ⟨h1,hs⟩:=dec_back hd
    have hm:=(dec_len hd).2
    have h2:=h1
    unfold encO at h2
    split at h2
    ·rename_i hc
     injection h2 with h2
     have hw:wholeO o=byteK o.kind::textE (bodyO o):=rfl
     rw [hw] at h2 hc
     have hbl:(bodyO o).length≤4096:=by have:=hc.2;unfold textE at this;simp at this;omega
     injection h2 with h3 h4
     have hg:=guess_whole o hm hs hbl
     rw [h3,h4] at hg
     rw [hg]
     exact h1
    ·cases h2
end Go.Proofs.YtlojebhcemfodaaGreatDoor
namespace Go.Proofs.YtlojebhcemfodaaGreatDoor
open Go.RowKit
attribute [local go_sem ↓] ldvO_eq
theorem rKind_lt (r:Rd):(rKind r).1<256:=by
 unfold rKind
 split
 ·show (0:Nat)<256
  omega
 ·exact UInt8.toNat_lt _
theorem rEnt_ok (r:Rd) (h:r.1.length≤1000000):EntOk (rEnt r).1:=by
 have h1:=rKind_lt r
 have h2:=rText_len (rKind r).2
 have h3:=rKind_le r
 exact ⟨rId_len _,by show (rText (rKind r).2).1.length≤_;omega,by show _≤((rKind r).1:Int);omega,by show ((rKind r).1:Int)≤_;omega⟩
theorem rEnt_le (r:Rd):(rEnt r).2.1.length≤r.1.length:=Nat.le_trans (rId_le _) (Nat.le_trans (rText_le _) (rKind_le _))
theorem rTree_ok : ∀ (f:Nat) (r:Rd) (acc:List EntL),r.1.length≤1000000→(∀ e∈acc,EntOk e) → ∀ e∈(rTree f r acc).1,EntOk e
 | 0,r,acc,_,h=>h
 | f+1,r,acc,hl,h=>by
   rw [rTree]
   split
   ·exact h
   ·refine rTree_ok f _ _ (Nat.le_trans (rEnt_le r) hl) ?_
    intro e he
    rcases List.mem_append.1 he with he | he
    ·exact h e he
    ·obtain rfl:=List.mem_singleton.1 he
     exact rEnt_ok r hl
theorem readO_ok (k:Nat) (hk:k<256) (r:Rd) (hr:r.1.length≤100000):ObjOk (readO k r).1:=by
 have hs:=readO_sound k r
 have h0:([]:Txt).length≤9223372036854775807:=by simp
 have hkk:=readO_kind k r
 refine ⟨hs.tree,hs.target,?_,hs.pars,?_,?_,?_,hs.time,by rw [hkk];omega,by rw [hkk];omega,?_,?_⟩
 all_goals
  unfold readO
  split
  ·first
    | exact rTree_ok _ _ _ (by omega) (by simp)
    | exact h0
    | (show (-9223372036854775808:Int)≤0;omega)
    | (show (0:Int)≤9223372036854775807;omega)
  ·split
   ·first
     | exact h0
     | (intro e he;cases he;done)
     | (refine Nat.le_trans (rText_len _) ?_
        rw [badIf_le]
        refine Nat.le_trans (Nat.le_trans (rNum_le _) (Nat.le_trans (rPars_le _ _ _) ?_)) (Nat.le_trans hr (by omega))
        rw [badIf_le]
        exact Nat.le_trans (rNum_le _) (rId_le _))
     | (show (-9223372036854775808:Int)≤0;omega)
     | (show (0:Int)≤9223372036854775807;omega)
   ·split
    ·first
      | exact h0
      | (intro e he;cases he;done)
      | (refine Nat.le_trans (rText_len _) (Nat.le_trans (Nat.le_trans (rId_le _) (rKind_le _)) (by omega)))
      | (have:=rKind_lt r;show (-9223372036854775808:Int)≤((rKind r).1:Int);omega)
      | (have:=rKind_lt r;show ((rKind r).1:Int)≤9223372036854775807;omega)
    ·first
      | exact h0
      | (intro e he;cases he;done)
      | (show (rBytes r.1.length r).1.length≤_
         rcases bytes_or (n:=r.1.length) r with h | h
         ·rw [h];exact h0
         ·rw [h];omega)
      | (show (-9223372036854775808:Int)≤0;omega)
      | (show (0:Int)≤9223372036854775807;omega)
theorem built_kobj (k:Int):Tryz.prog.built 54 [(0, .int .i64 k)]=some (objC ⟨k,[],[],noId,[],0,[],noId,0,[]⟩ (.slice none 0 0) (.slice none 0 0)).toArray:=by kernel_rfl
theorem built_rd (t:Txt):Tryz.prog.built 144 [(0, .string (B t))]=some #[.string (B t), .bool false]:=by kernel_rfl
/-- What Decode returns. -/
def DecR (x:Option ObjL) (B:Nat) (w':World) (e:Ending):Prop:=match x with
 | some o => ∃ A1 A2 k1 k2,e = .returned (.tuple #[.agg (objC o (.slice A1 o.ents.length k1) (.slice A2 o.pars.length k2)).toArray, .int .i64 0])∧ObjV w' (.slice A1 o.ents.length k1) (.slice A2 o.pars.length k2) o∧OwnEnts w' B (.slice A1 o.ents.length k1) o.ents∧OwnIds w' B (.slice A2 o.pars.length k2) o.pars
 | none=>e = .returned (.tuple #[.agg zObj, .int .i64 2])
theorem Did.val {w w':World} {gO gR:Nat} {x:ObjL×Rd} {ve vp:Value} (h:Been w gO gR w.heap.size x.1 x.2 ve vp w') (ho:ObjOk x.1) : ∃ A1 A2 k1 k2,ve = .slice A1 x.1.ents.length k1∧vp = .slice A2 x.1.pars.length k2∧ObjV w' ve vp x.1:=by
 have he:Ents w' ve x.1.ents:=SliceAt.of_own (fun e h=>entC_len (ho.ents e h)) h.ents
 have hp:Ids w' vp x.1.pars:=SliceAt.of_own (fun e h=>idC_len (ho.pars e h)) h.pars
 have he':=he
 have hp':=hp
 obtain ⟨A1,k1,e1,_⟩:=he'
 obtain ⟨A2,k2,e2,_⟩:=hp'
 exact ⟨A1,A2,k1,k2,e1,e2,ho,he,hp⟩
theorem own_row {w:World} {B g:Nat} {e:TypeId} {k m:Nat} {v:Value} {zs:List Value} (h:w.ownsRow B e k v m zs) (hg:g<B) (cs:Array Value):(w.setRow g cs).ownsRow B e k v m zs:=
 Far.own (S:=[some g]) (Far.row (Far.refl _ w) (.inl (by simp)) cs) h fun q hq=>by
  have:=(World.ownsRow.lt h q hq).1
  simp;omega
theorem objV_row {w:World} {B g:Nat} {ve vp:Value} {o:ObjL} (ho:ObjOk o) (he:OwnEnts w B ve o.ents) (hp:OwnIds w B vp o.pars) (hg:g<B) (cs:Array Value):ObjV (w.setRow g cs) ve vp o:=
 ⟨ho,SliceAt.of_own (fun e h=>entC_len (ho.ents e h)) (own_row he hg cs),SliceAt.of_own (fun e h=>idC_len (ho.pars e h)) (own_row hp hg cs)⟩
theorem objC_all (o:ObjL) (A1 A2:Option Addr) (a b c d:Nat):(objC o (.slice A1 a b) (.slice A2 c d)).toArray.all (·.oneCell')=true:=by
 refine all_oneCell_toArray ?_
 intro v hv
 unfold objC at hv
 simp only [List.mem_cons,List.mem_append] at hv
 have h8 : ∀ l:Txt,v∈(u8s l).toList→v.oneCell'=true:=fun l h=>u8v_one l v (by simpa [u8s] using h)
 rcases hv with rfl | rfl | rfl | hv | rfl | rfl | rfl | hv | rfl | rfl | hv
 ·rfl
 ·rfl
 ·rfl
 ·exact h8 _ hv
 ·rfl
 ·rfl
 ·rfl
 ·exact h8 _ hv
 ·rfl
 ·rfl
 ·cases hv
set_option maxRecDepth 100000 in
set_option maxHeartbeats 2000000 in
theorem decode_no (s:Txt) (hs:s.length≤4611686018427387904) (h:s=[]∨4096<s.length∨takeP (s.drop 1)=none ∨ ∃ t c q,takeP (s.drop 1)=some (t,c::q)) (w:World) :
 Calls Tryz.prog 55 #[.string (B s)] w fun e w'=>e = .returned (.tuple #[.agg zObj, .int .i64 2])∧Below w.heap.size w w':=by
 have hzv:=zeroObj
 obtain ⟨W0,hW0⟩ : ∃ W0,w.alloc (.cells zObj 54)=W0:=⟨_,rfl⟩
 have hz0:Blk W0 w.heap.size 54 zObj:=by rw [←hW0];exact Blk.new _ _ _
 have b0:Below w.heap.size w W0:=by rw [←hW0];exact (Below.refl _ _).alloc (Nat.le_refl _) _
 have hrb:=fun W=>run_build (P:=Tryz.prog) W _ _ _ built_zObj
 have hone:=zObj_one
 have hsz:=sizedObj
 by_cases h1:s=[]∨4096<s.length
 ·clear h
  rcases h1 with rfl | h1
  ·go_enter Tryz.func55,Tryz.ntmps55
   go_wp2_with (first
    | (refine wpList_store_row rfl 54 (.tmp 2) (.tmp 17) rfl w.heap.size zObj rfl rfl _ _ hz0 hsz rfl hone ?_))
   refine bodyPost_ret (results_row_tmp rfl _ _ w.heap.size _ _ _ _ rfl (setRow_heap _ _ _ _ _ _ hz0) Tryz.underlying54 rfl hsz) rfl ⟨rfl,below_setRow b0 (Nat.le_refl _) _⟩
  ·match s,h1,hs with
   | c::q,h1,hs=>
     simp only [List.length_cons] at h1 hs
     have i1:(4096:Int)<(q.length:Int)+1:=by omega
     go_enter Tryz.func55,Tryz.ntmps55
     go_wp2_with (first
      | (refine wpList_store_row rfl 54 (.tmp 2) (.tmp 17) rfl w.heap.size zObj rfl rfl _ _ hz0 hsz rfl hone ?_))
     refine bodyPost_ret (results_row_tmp rfl _ _ w.heap.size _ _ _ _ rfl (setRow_heap _ _ _ _ _ _ hz0) Tryz.underlying54 rfl hsz) rfl ⟨rfl,below_setRow b0 (Nat.le_refl _) _⟩
 ·match s,h1,hs,h with
  | [],h1,_,_=>exact absurd (.inl rfl) h1
  | c::q,h1,hs,h=>
    simp only [List.length_cons,List.drop_succ_cons,List.drop_zero,reduceCtorEq,false_or] at h1 hs h
    have hex:(B (c::q)).extract 1 (q.length+1)=B q:=by
     rw [extract_B]
     simp
    have i1 : ¬ (4096:Int)<((q.length:Int)+1):=by omega
    have ht:=take_calls q (by omega) W0
    rcases h with h | h | ⟨t,c2,q2,h⟩
    ·omega
    ·rw [takeV_none h] at ht
     have ht:=Lib.hid ht
     clear h h1
     go_enter Tryz.func55,Tryz.ntmps55
     go_wp2_with (first
      | ((with_reducible refine ht.out.mono ?_);rintro e w1 ⟨rfl,nq,rfl⟩
         have hz1:=hz0.drewN nq)
      | (refine wpList_store_row rfl 54 (.tmp 2) (.tmp 31) rfl w.heap.size zObj rfl rfl _ _ hz1 hsz rfl hone ?_))
     refine bodyPost_ret (results_row_tmp rfl _ _ w.heap.size _ _ _ _ rfl (setRow_heap _ _ _ _ _ _ hz1) Tryz.underlying54 rfl hsz) rfl ⟨rfl,below_setRow (bdrewN b0 nq) (Nat.le_refl _) _⟩
    ·rw [takeV_some h] at ht
     have ht:=Lib.hid ht
     clear h h1
     go_enter Tryz.func55,Tryz.ntmps55
     go_wp2_with (first
      | ((with_reducible refine ht.out.mono ?_);rintro e w1 ⟨rfl,nq,rfl⟩
         have hz1:=hz0.drewN nq)
      | (refine wpList_store_row rfl 54 (.tmp 2) (.tmp 31) rfl w.heap.size zObj rfl rfl _ _ hz1 hsz rfl hone ?_))
     refine bodyPost_ret (results_row_tmp rfl _ _ w.heap.size _ _ _ _ rfl (setRow_heap _ _ _ _ _ _ hz1) Tryz.underlying54 rfl hsz) rfl ⟨rfl,below_setRow (bdrewN b0 nq) (Nat.le_refl _) _⟩
set_option maxRecDepth 100000 in
set_option maxHeartbeats 4000000 in
theorem decode_yes (c:UInt8) (q t:Txt) (hs:q.length≤4095) (h:takeP q=some (t,[])) (w:World) :
 Calls Tryz.prog 55 #[.string (B (c::q))] w fun e w'=>DecR (decO (c::q)) w.heap.size w' e∧Below w.heap.size w w':=by
 have hzv:=zeroObj
 obtain ⟨W0,hW0⟩ : ∃ W0,w.alloc (.cells zObj 54)=W0:=⟨_,rfl⟩
 have hz0:Blk W0 w.heap.size 54 zObj:=by rw [←hW0];exact Blk.new _ _ _
 have b0:Below w.heap.size w W0:=by rw [←hW0];exact (Below.refl _ _).alloc (Nat.le_refl _) _
 have hrb:=fun W=>run_build (P:=Tryz.prog) W _ _ _ built_zObj
 have hone:=zObj_one
 have hsz:=sizedObj
 have hex:(B (c::q)).extract 1 (q.length+1)=B q:=by
  rw [extract_B]
  simp
 have i1 : ¬ (4096:Int)<((q.length:Int)+1):=by omega
 have hlt:t.length≤100000:=by
  have:=takeP_back h
  rw [this] at hs
  unfold textE at hs
  simp only [List.length_append] at hs
  omega
 have ht:=take_calls q (by omega) W0
 rw [takeV_some h] at ht
 have ht:=Lib.hid ht
 have hdec:Hid (decO (c::q)=if (readO c.toNat (t,false)).2.2=true∨(readO c.toNat (t,false)).2.1≠[]∨mayB (readO c.toNat (t,false)).1=false then none else some (readO c.toNat (t,false)).1):=by
  show _=_
  unfold decO
  simp only [h]
  rw [if_neg (by simp only [List.length_cons];omega),if_neg (by simp)]
 have hk256:c.toNat<256:=c.toNat_lt
 have hc0:0≤(c.toNat:Int):=by omega
 have hc1:(c.toNat:Int)<256:=by omega
 have hrok:=readO_ok c.toNat hk256 (t,false) hlt
 have hbd:=built_kobj (c.toNat:Int)
 have hbr:=built_rd t
 have e72:(objC ⟨c.toNat,[],[],noId,[],0,[],noId,0,[]⟩ (.slice none 0 0) (.slice none 0 0)).toArray.size=72:=by rw [List.size_toArray];unfold objC;simp only [List.length_cons,List.length_append,u8s_len,noId_len,List.length_nil]
 have eone:(objC ⟨c.toNat,[],[],noId,[],0,[],noId,0,[]⟩ (.slice none 0 0) (.slice none 0 0)).toArray.all (·.oneCell')=true:=by kernel_rfl
 obtain ⟨D,hD⟩ : ∃ D,Hid (decO (c::q)=D):=⟨_,Lib.hid rfl⟩
 rw [hD.out] at hdec ⊢
 have hread:Hid (∀ W gO gR,gO≠gR→ObjB W gO (nObj c.toNat) (.slice none 0 0) (.slice none 0 0)→RdB W gR (t,false)→Calls Tryz.prog (if c.toNat=2 then 76 else if c.toNat=3 then 77 else if c.toNat=4 then 78 else 75) #[.pointer (some ⟨gR,0,none⟩), .pointer (some ⟨gO,0,none⟩)] W fun e w'=>e = .returned (.tuple #[])∧Did W gO gR W.heap.size (readO c.toNat (t,false)) w'):=fun W gO gR hne hO hR=>by
  unfold readO
  split
  ·exact tree_calls c.toNat (t,false) hlt gO gR hne W hO hR
  ·split
   ·exact commit_calls c.toNat (t,false) hlt gO gR hne W hO hR
   ·split
    ·exact tag_calls c.toNat (t,false) hlt gO gR hne W hO hR
    ·exact blob_calls c.toNat (t,false) hlt gO gR hne W hO hR
 generalize hX:readO c.toNat (t,false)=X at *
 clear hX h
 go_enter Tryz.func55,Tryz.ntmps55
 go_upto_region 9 with (first
  | ((with_reducible refine ht.out.mono ?_);rintro e w1 ⟨rfl,nq,rfl⟩
     have hz1:=hz0.drewN nq
     have b1:=bdrewN b0 nq
     clear ht)
  | ((with_reducible refine lit_build1 hbd ?_ ?_);rfl)
  | ((with_reducible refine lit_build1 hbr ?_ ?_);rfl)
  | ((with_reducible refine lit_new 54 (.tmp 7) (.tmp 35) (objC ⟨c.toNat,[],[],noId,[],0,[],noId,0,[]⟩ (.slice none 0 0) (.slice none 0 0)).toArray 72 szObj e72 eone _ ?_ ?_ ?_ ?_);rfl;rfl;rfl;intro W2 hb2 hbl2
     have hz2:=hz1.below hbl2 hz1.lt
     have b2:=bthen b1 b1.size hbl2
     clear hz1 b1))
 have hO2:ObjB W2 W0.heap.size (nObj c.toNat) (.slice none 0 0) (.slice none 0 0):=⟨hb2,noId_len,noId_len⟩
 obtain ⟨W3,hW3⟩ : ∃ W3,W2.alloc (.cells #[.string (B t), .bool false] 144)=W3:=⟨_,rfl⟩
 have hR3:RdB W3 W2.heap.size (t,false):=by rw [←hW3];exact Blk.new _ _ _
 have hb3:Below W2.heap.size W2 W3:=by rw [←hW3];exact (Below.refl _ _).alloc (Nat.le_refl _) _
 have hO3:=hO2.below hb3
 have hz3:=hz2.below hb3 hz2.lt
 have b3:=bthen b2 b2.size hb3
 have hb2:Blk W2 W0.heap.size 54 _:=hb2
 have hne:W0.heap.size≠W2.heap.size:=by have:=hb2.lt;omega
 have hsO:w.heap.size<W0.heap.size:=by rw [←hW0];simp
 have hsR:w.heap.size<W2.heap.size:=by have:=hb2.lt;omega
 have hrd:=hread.out W3 _ _ hne hO3 hR3
 have ck:W3.cell? ⟨W0.heap.size,0,none⟩=some (.int .i64 c.toNat):=hO3.kind
 clear hO2 hb2 hz2 b2 hb3 hread hO3 hR3
 rw [hW3]
 clear hW3 hW0 hz0 b0
 generalize W2.heap.size=gR at *
 generalize W0.heap.size=gO at *
 clear ht hbd hbr e72 eone
 have hXk : ∀ W ve vp,ObjB W gO X.1 ve vp→(ldvO ⟨gO,0,none⟩).run Tryz.prog W = .ok (.agg (objC X.1 ve vp).toArray) W:=fun W ve vp h=>run_ldvO h hrok
 have hzlt:w.heap.size<W3.heap.size:=hz3.lt
 have hgz:some w.heap.size ∉ [some gO,some gR]:=by simp;omega
 have hgB : ∀ k,some k∈[some gO,some gR]→w.heap.size≤k:=fun k hk=>by simp at hk;omega
 have hszB:w.heap.size≤W3.heap.size:=Nat.le_of_lt hzlt
 by_cases k2:c.toNat=2
 ·have e2:((c.toNat:Int)==2)=true:=by simp;omega
  rw [if_pos k2] at hrd
  have hrd:=Lib.hid hrd
  clear k2 hne
  by_cases hb1:X.2.2=true
  ·have hDn:Hid (D=none):=by show _=_;rw [hdec.out,if_pos (.inl hb1)]
   clear hdec hD
   go_wp2_with (first
    | ((with_reducible refine hrd.out.mono ?_);rintro e w4 ⟨rfl,ve,vp,hbe⟩
       have c0:=hbe.rd.c0
       have c1:=hbe.rd.c1
       obtain ⟨A1,A2,n1,n2,rfl,rfl,hv⟩:=Did.val hbe hrok
       have hq4:=hXk w4 _ _ hbe.obj
       have hz4:=hbe.far.blk hz3 hgz
       have b4:=b3.trans (hbe.far.below (B:=w.heap.size) hszB hgB)
       rw [hb1] at c1
       clear hq4 hv c0 hb1
       clear hrd hbe)
    | (refine wpList_store_row rfl 54 (.tmp 2) (.tmp 66) rfl w.heap.size zObj rfl rfl _ _ hz4 hsz rfl hone ?_))
   refine bodyPost_ret (results_row_tmp rfl _ _ w.heap.size _ _ _ _ rfl (setRow_heap _ _ _ _ _ _ hz4) Tryz.underlying54 rfl hsz) rfl ⟨by rw [hDn.out];rfl,below_setRow b4 (Nat.le_refl _) _⟩
  ·by_cases hb2:X.2.1=[]
   ·cases hM:mayB X.1 with
    | false=>
      have hDn:Hid (D=none):=by show _=_;rw [hdec.out,if_pos (.inr (.inr hM))]
      clear hdec hD
      have hb1:X.2.2=false:=by simpa using hb1
      go_wp2_with (first
       | ((with_reducible refine hrd.out.mono ?_);rintro e w4 ⟨rfl,ve,vp,hbe⟩
          have c0:=hbe.rd.c0
          have c1:=hbe.rd.c1
          obtain ⟨A1,A2,n1,n2,rfl,rfl,hv⟩:=Did.val hbe hrok
          have hq4:=hXk w4 _ _ hbe.obj
          have hz4:=hbe.far.blk hz3 hgz
          have b4:=b3.trans (hbe.far.below (B:=w.heap.size) hszB hgB)
          rw [hb1] at c1
          rw [hb2] at c0
          have hmay:=may_calls X.1 A1 A2 n1 n2 w4 hv
          rw [hM] at hmay
          have hmay:=Lib.hid hmay
          clear hv hb1 hb2 hM
          clear hrd hbe)
       | ((with_reducible refine hmay.out.mono ?_);rintro e w5 ⟨rfl,hb5⟩
          have hz5:=hz4.below hb5 hz4.lt
          have b5:=bthen b4 b4.size hb5
          skip
          clear hmay)
       | (refine wpList_store_row rfl 54 (.tmp 2) (.tmp 66) rfl w.heap.size zObj rfl rfl _ _ hz5 hsz rfl hone ?_))
      refine bodyPost_ret (results_row_tmp rfl _ _ w.heap.size _ _ _ _ rfl (setRow_heap _ _ _ _ _ _ hz5) Tryz.underlying54 rfl hsz) rfl ⟨by rw [hDn.out];rfl,below_setRow b5 (Nat.le_refl _) _⟩
    | true=>
      have hDn:Hid (D=some X.1):=by
       show _=_
       rw [hdec.out,if_neg]
       rintro (h | h | h)
       ·exact hb1 h
       ·exact h hb2
       ·rw [hM] at h;cases h
      clear hdec hD
      have hb1:X.2.2=false:=by simpa using hb1
      go_wp2_with (first
       | ((with_reducible refine hrd.out.mono ?_);rintro e w4 ⟨rfl,ve,vp,hbe⟩
          have c0:=hbe.rd.c0
          have c1:=hbe.rd.c1
          obtain ⟨A1,A2,n1,n2,rfl,rfl,hv⟩:=Did.val hbe hrok
          have hq4:=hXk w4 _ _ hbe.obj
          have hz4:=hbe.far.blk hz3 hgz
          have b4:=b3.trans (hbe.far.below (B:=w.heap.size) hszB hgB)
          rw [hb1] at c1
          rw [hb2] at c0
          have hmay:=may_calls X.1 A1 A2 n1 n2 w4 hv
          rw [hM] at hmay
          have hmay:=Lib.hid hmay
          have hO4:=hbe.obj
          have hoe:=hbe.ents
          have hop:=hbe.pars
          have hc72:(objC X.1 (.slice A1 X.1.ents.length n1) (.slice A2 X.1.pars.length n2)).toArray.size=72:=by rw [List.size_toArray,objC_len hrok]
          have hcone:=objC_all X.1 A1 A2 X.1.ents.length n1 X.1.pars.length n2
          clear hb1 hb2 hM
          clear hrd hbe)
       | ((with_reducible refine hmay.out.mono ?_);rintro e w5 ⟨rfl,hb5⟩
          have hz5:=hz4.below hb5 hz4.lt
          have b5:=bthen b4 b4.size hb5
          have hO5:=hO4.below hb5
          have hoe5:=own_below hoe hb5
          have hop5:=own_below hop hb5
          have hv5:=hv.below hb5
          have hq5:=hXk w5 _ _ hO5
          generalize hcs:(objC X.1 (.slice A1 X.1.ents.length n1) (.slice A2 X.1.pars.length n2)).toArray=cs at *
          have HCS:=Lib.hid hcs
          clear hcs hq4
          clear hmay)
       | (refine wpList_store_row rfl 54 (.tmp 2) (.tmp 67) rfl w.heap.size cs rfl rfl _ _ hz5 (by rw [hc72];exact szObj) (by rw [hc72];rfl) hcone ?_))
      refine bodyPost_ret (results_row_tmp rfl _ _ w.heap.size _ _ _ _ rfl (setRow_heap _ _ _ _ _ _ hz5) Tryz.underlying54 rfl (by rw [hc72];exact szObj)) rfl ⟨?_,below_setRow b5 (Nat.le_refl _) _⟩
      rw [hDn.out]
      exact ⟨A1,A2,n1,n2,by rw [HCS.out];rfl,objV_row hrok hoe5 hop5 hzlt _,own_low' (own_row hoe5 hzlt _) (Nat.le_of_lt hzlt),own_low' (own_row hop5 hzlt _) (Nat.le_of_lt hzlt)⟩
   ·have hDn:Hid (D=none):=by show _=_;rw [hdec.out,if_pos (.inr (.inl hb2))]
    clear hdec hD
    have hb1:X.2.2=false:=by simpa using hb1
    obtain ⟨x,xs,hx⟩ : ∃ x xs,X.2.1=x::xs:=by
     cases hq:X.2.1 with
     | nil=>exact absurd hq hb2
     | cons x xs=>exact ⟨x,xs,rfl⟩
    clear hb2
    go_wp2_with (first
     | ((with_reducible refine hrd.out.mono ?_);rintro e w4 ⟨rfl,ve,vp,hbe⟩
        have c0:=hbe.rd.c0
        have c1:=hbe.rd.c1
        obtain ⟨A1,A2,n1,n2,rfl,rfl,hv⟩:=Did.val hbe hrok
        have hq4:=hXk w4 _ _ hbe.obj
        have hz4:=hbe.far.blk hz3 hgz
        have b4:=b3.trans (hbe.far.below (B:=w.heap.size) hszB hgB)
        rw [hb1] at c1
        rw [hx] at c0
        clear hq4 hv hb1 hx
        clear hrd hbe)
     | (refine wpList_store_row rfl 54 (.tmp 2) (.tmp 66) rfl w.heap.size zObj rfl rfl _ _ hz4 hsz rfl hone ?_))
    refine bodyPost_ret (results_row_tmp rfl _ _ w.heap.size _ _ _ _ rfl (setRow_heap _ _ _ _ _ _ hz4) Tryz.underlying54 rfl hsz) rfl ⟨by rw [hDn.out];rfl,below_setRow b4 (Nat.le_refl _) _⟩
 ·have e2:((c.toNat:Int)==2)=false:=by simp;omega
  rw [if_neg k2] at hrd
  by_cases k3:c.toNat=3
  ·have e3:((c.toNat:Int)==3)=true:=by simp;omega
   rw [if_pos k3] at hrd
   have hrd:=Lib.hid hrd
   clear k2 k3 hne
   by_cases hb1:X.2.2=true
   ·have hDn:Hid (D=none):=by show _=_;rw [hdec.out,if_pos (.inl hb1)]
    clear hdec hD
    go_wp2_with (first
     | ((with_reducible refine hrd.out.mono ?_);rintro e w4 ⟨rfl,ve,vp,hbe⟩
        have c0:=hbe.rd.c0
        have c1:=hbe.rd.c1
        obtain ⟨A1,A2,n1,n2,rfl,rfl,hv⟩:=Did.val hbe hrok
        have hq4:=hXk w4 _ _ hbe.obj
        have hz4:=hbe.far.blk hz3 hgz
        have b4:=b3.trans (hbe.far.below (B:=w.heap.size) hszB hgB)
        rw [hb1] at c1
        clear hq4 hv c0 hb1
        clear hrd hbe)
     | (refine wpList_store_row rfl 54 (.tmp 2) (.tmp 66) rfl w.heap.size zObj rfl rfl _ _ hz4 hsz rfl hone ?_))
    refine bodyPost_ret (results_row_tmp rfl _ _ w.heap.size _ _ _ _ rfl (setRow_heap _ _ _ _ _ _ hz4) Tryz.underlying54 rfl hsz) rfl ⟨by rw [hDn.out];rfl,below_setRow b4 (Nat.le_refl _) _⟩
   ·by_cases hb2:X.2.1=[]
    ·cases hM:mayB X.1 with
     | false=>
       have hDn:Hid (D=none):=by show _=_;rw [hdec.out,if_pos (.inr (.inr hM))]
       clear hdec hD
       have hb1:X.2.2=false:=by simpa using hb1
       go_wp2_with (first
        | ((with_reducible refine hrd.out.mono ?_);rintro e w4 ⟨rfl,ve,vp,hbe⟩
           have c0:=hbe.rd.c0
           have c1:=hbe.rd.c1
           obtain ⟨A1,A2,n1,n2,rfl,rfl,hv⟩:=Did.val hbe hrok
           have hq4:=hXk w4 _ _ hbe.obj
           have hz4:=hbe.far.blk hz3 hgz
           have b4:=b3.trans (hbe.far.below (B:=w.heap.size) hszB hgB)
           rw [hb1] at c1
           rw [hb2] at c0
           have hmay:=may_calls X.1 A1 A2 n1 n2 w4 hv
           rw [hM] at hmay
           have hmay:=Lib.hid hmay
           clear hv hb1 hb2 hM
           clear hrd hbe)
        | ((with_reducible refine hmay.out.mono ?_);rintro e w5 ⟨rfl,hb5⟩
           have hz5:=hz4.below hb5 hz4.lt
           have b5:=bthen b4 b4.size hb5
           skip
           clear hmay)
        | (refine wpList_store_row rfl 54 (.tmp 2) (.tmp 66) rfl w.heap.size zObj rfl rfl _ _ hz5 hsz rfl hone ?_))
       refine bodyPost_ret (results_row_tmp rfl _ _ w.heap.size _ _ _ _ rfl (setRow_heap _ _ _ _ _ _ hz5) Tryz.underlying54 rfl hsz) rfl ⟨by rw [hDn.out];rfl,below_setRow b5 (Nat.le_refl _) _⟩
     | true=>
       have hDn:Hid (D=some X.1):=by
        show _=_
        rw [hdec.out,if_neg]
        rintro (h | h | h)
        ·exact hb1 h
        ·exact h hb2
        ·rw [hM] at h;cases h
       clear hdec hD
       have hb1:X.2.2=false:=by simpa using hb1
       go_wp2_with (first
        | ((with_reducible refine hrd.out.mono ?_);rintro e w4 ⟨rfl,ve,vp,hbe⟩
           have c0:=hbe.rd.c0
           have c1:=hbe.rd.c1
           obtain ⟨A1,A2,n1,n2,rfl,rfl,hv⟩:=Did.val hbe hrok
           have hq4:=hXk w4 _ _ hbe.obj
           have hz4:=hbe.far.blk hz3 hgz
           have b4:=b3.trans (hbe.far.below (B:=w.heap.size) hszB hgB)
           rw [hb1] at c1
           rw [hb2] at c0
           have hmay:=may_calls X.1 A1 A2 n1 n2 w4 hv
           rw [hM] at hmay
           have hmay:=Lib.hid hmay
           have hO4:=hbe.obj
           have hoe:=hbe.ents
           have hop:=hbe.pars
           have hc72:(objC X.1 (.slice A1 X.1.ents.length n1) (.slice A2 X.1.pars.length n2)).toArray.size=72:=by rw [List.size_toArray,objC_len hrok]
           have hcone:=objC_all X.1 A1 A2 X.1.ents.length n1 X.1.pars.length n2
           clear hb1 hb2 hM
           clear hrd hbe)
        | ((with_reducible refine hmay.out.mono ?_);rintro e w5 ⟨rfl,hb5⟩
           have hz5:=hz4.below hb5 hz4.lt
           have b5:=bthen b4 b4.size hb5
           have hO5:=hO4.below hb5
           have hoe5:=own_below hoe hb5
           have hop5:=own_below hop hb5
           have hv5:=hv.below hb5
           have hq5:=hXk w5 _ _ hO5
           generalize hcs:(objC X.1 (.slice A1 X.1.ents.length n1) (.slice A2 X.1.pars.length n2)).toArray=cs at *
           have HCS:=Lib.hid hcs
           clear hcs hq4
           clear hmay)
        | (refine wpList_store_row rfl 54 (.tmp 2) (.tmp 67) rfl w.heap.size cs rfl rfl _ _ hz5 (by rw [hc72];exact szObj) (by rw [hc72];rfl) hcone ?_))
       refine bodyPost_ret (results_row_tmp rfl _ _ w.heap.size _ _ _ _ rfl (setRow_heap _ _ _ _ _ _ hz5) Tryz.underlying54 rfl (by rw [hc72];exact szObj)) rfl ⟨?_,below_setRow b5 (Nat.le_refl _) _⟩
       rw [hDn.out]
       exact ⟨A1,A2,n1,n2,by rw [HCS.out];rfl,objV_row hrok hoe5 hop5 hzlt _,own_low' (own_row hoe5 hzlt _) (Nat.le_of_lt hzlt),own_low' (own_row hop5 hzlt _) (Nat.le_of_lt hzlt)⟩
    ·have hDn:Hid (D=none):=by show _=_;rw [hdec.out,if_pos (.inr (.inl hb2))]
     clear hdec hD
     have hb1:X.2.2=false:=by simpa using hb1
     obtain ⟨x,xs,hx⟩ : ∃ x xs,X.2.1=x::xs:=by
      cases hq:X.2.1 with
      | nil=>exact absurd hq hb2
      | cons x xs=>exact ⟨x,xs,rfl⟩
     clear hb2
     go_wp2_with (first
      | ((with_reducible refine hrd.out.mono ?_);rintro e w4 ⟨rfl,ve,vp,hbe⟩
         have c0:=hbe.rd.c0
         have c1:=hbe.rd.c1
         obtain ⟨A1,A2,n1,n2,rfl,rfl,hv⟩:=Did.val hbe hrok
         have hq4:=hXk w4 _ _ hbe.obj
         have hz4:=hbe.far.blk hz3 hgz
         have b4:=b3.trans (hbe.far.below (B:=w.heap.size) hszB hgB)
         rw [hb1] at c1
         rw [hx] at c0
         clear hq4 hv hb1 hx
         clear hrd hbe)
      | (refine wpList_store_row rfl 54 (.tmp 2) (.tmp 66) rfl w.heap.size zObj rfl rfl _ _ hz4 hsz rfl hone ?_))
     refine bodyPost_ret (results_row_tmp rfl _ _ w.heap.size _ _ _ _ rfl (setRow_heap _ _ _ _ _ _ hz4) Tryz.underlying54 rfl hsz) rfl ⟨by rw [hDn.out];rfl,below_setRow b4 (Nat.le_refl _) _⟩
  ·have e3:((c.toNat:Int)==3)=false:=by simp;omega
   rw [if_neg k3] at hrd
   by_cases k4:c.toNat=4
   ·have e4:((c.toNat:Int)==4)=true:=by simp;omega
    rw [if_pos k4] at hrd
    have hrd:=Lib.hid hrd
    clear k2 k3 k4 hne
    by_cases hb1:X.2.2=true
    ·have hDn:Hid (D=none):=by show _=_;rw [hdec.out,if_pos (.inl hb1)]
     clear hdec hD
     go_wp2_with (first
      | ((with_reducible refine hrd.out.mono ?_);rintro e w4 ⟨rfl,ve,vp,hbe⟩
         have c0:=hbe.rd.c0
         have c1:=hbe.rd.c1
         obtain ⟨A1,A2,n1,n2,rfl,rfl,hv⟩:=Did.val hbe hrok
         have hq4:=hXk w4 _ _ hbe.obj
         have hz4:=hbe.far.blk hz3 hgz
         have b4:=b3.trans (hbe.far.below (B:=w.heap.size) hszB hgB)
         rw [hb1] at c1
         clear hq4 hv c0 hb1
         clear hrd hbe)
      | (refine wpList_store_row rfl 54 (.tmp 2) (.tmp 66) rfl w.heap.size zObj rfl rfl _ _ hz4 hsz rfl hone ?_))
     refine bodyPost_ret (results_row_tmp rfl _ _ w.heap.size _ _ _ _ rfl (setRow_heap _ _ _ _ _ _ hz4) Tryz.underlying54 rfl hsz) rfl ⟨by rw [hDn.out];rfl,below_setRow b4 (Nat.le_refl _) _⟩
    ·by_cases hb2:X.2.1=[]
     ·cases hM:mayB X.1 with
      | false=>
        have hDn:Hid (D=none):=by show _=_;rw [hdec.out,if_pos (.inr (.inr hM))]
        clear hdec hD
        have hb1:X.2.2=false:=by simpa using hb1
        go_wp2_with (first
         | ((with_reducible refine hrd.out.mono ?_);rintro e w4 ⟨rfl,ve,vp,hbe⟩
            have c0:=hbe.rd.c0
            have c1:=hbe.rd.c1
            obtain ⟨A1,A2,n1,n2,rfl,rfl,hv⟩:=Did.val hbe hrok
            have hq4:=hXk w4 _ _ hbe.obj
            have hz4:=hbe.far.blk hz3 hgz
            have b4:=b3.trans (hbe.far.below (B:=w.heap.size) hszB hgB)
            rw [hb1] at c1
            rw [hb2] at c0
            have hmay:=may_calls X.1 A1 A2 n1 n2 w4 hv
            rw [hM] at hmay
            have hmay:=Lib.hid hmay
            clear hv hb1 hb2 hM
            clear hrd hbe)
         | ((with_reducible refine hmay.out.mono ?_);rintro e w5 ⟨rfl,hb5⟩
            have hz5:=hz4.below hb5 hz4.lt
            have b5:=bthen b4 b4.size hb5
            skip
            clear hmay)
         | (refine wpList_store_row rfl 54 (.tmp 2) (.tmp 66) rfl w.heap.size zObj rfl rfl _ _ hz5 hsz rfl hone ?_))
        refine bodyPost_ret (results_row_tmp rfl _ _ w.heap.size _ _ _ _ rfl (setRow_heap _ _ _ _ _ _ hz5) Tryz.underlying54 rfl hsz) rfl ⟨by rw [hDn.out];rfl,below_setRow b5 (Nat.le_refl _) _⟩
      | true=>
        have hDn:Hid (D=some X.1):=by
         show _=_
         rw [hdec.out,if_neg]
         rintro (h | h | h)
         ·exact hb1 h
         ·exact h hb2
         ·rw [hM] at h;cases h
        clear hdec hD
        have hb1:X.2.2=false:=by simpa using hb1
        go_wp2_with (first
         | ((with_reducible refine hrd.out.mono ?_);rintro e w4 ⟨rfl,ve,vp,hbe⟩
            have c0:=hbe.rd.c0
            have c1:=hbe.rd.c1
            obtain ⟨A1,A2,n1,n2,rfl,rfl,hv⟩:=Did.val hbe hrok
            have hq4:=hXk w4 _ _ hbe.obj
            have hz4:=hbe.far.blk hz3 hgz
            have b4:=b3.trans (hbe.far.below (B:=w.heap.size) hszB hgB)
            rw [hb1] at c1
            rw [hb2] at c0
            have hmay:=may_calls X.1 A1 A2 n1 n2 w4 hv
            rw [hM] at hmay
            have hmay:=Lib.hid hmay
            have hO4:=hbe.obj
            have hoe:=hbe.ents
            have hop:=hbe.pars
            have hc72:(objC X.1 (.slice A1 X.1.ents.length n1) (.slice A2 X.1.pars.length n2)).toArray.size=72:=by rw [List.size_toArray,objC_len hrok]
            have hcone:=objC_all X.1 A1 A2 X.1.ents.length n1 X.1.pars.length n2
            clear hb1 hb2 hM
            clear hrd hbe)
         | ((with_reducible refine hmay.out.mono ?_);rintro e w5 ⟨rfl,hb5⟩
            have hz5:=hz4.below hb5 hz4.lt
            have b5:=bthen b4 b4.size hb5
            have hO5:=hO4.below hb5
            have hoe5:=own_below hoe hb5
            have hop5:=own_below hop hb5
            have hv5:=hv.below hb5
            have hq5:=hXk w5 _ _ hO5
            generalize hcs:(objC X.1 (.slice A1 X.1.ents.length n1) (.slice A2 X.1.pars.length n2)).toArray=cs at *
            have HCS:=Lib.hid hcs
            clear hcs hq4
            clear hmay)
         | (refine wpList_store_row rfl 54 (.tmp 2) (.tmp 67) rfl w.heap.size cs rfl rfl _ _ hz5 (by rw [hc72];exact szObj) (by rw [hc72];rfl) hcone ?_))
        refine bodyPost_ret (results_row_tmp rfl _ _ w.heap.size _ _ _ _ rfl (setRow_heap _ _ _ _ _ _ hz5) Tryz.underlying54 rfl (by rw [hc72];exact szObj)) rfl ⟨?_,below_setRow b5 (Nat.le_refl _) _⟩
        rw [hDn.out]
        exact ⟨A1,A2,n1,n2,by rw [HCS.out];rfl,objV_row hrok hoe5 hop5 hzlt _,own_low' (own_row hoe5 hzlt _) (Nat.le_of_lt hzlt),own_low' (own_row hop5 hzlt _) (Nat.le_of_lt hzlt)⟩
     ·have hDn:Hid (D=none):=by show _=_;rw [hdec.out,if_pos (.inr (.inl hb2))]
      clear hdec hD
      have hb1:X.2.2=false:=by simpa using hb1
      obtain ⟨x,xs,hx⟩ : ∃ x xs,X.2.1=x::xs:=by
       cases hq:X.2.1 with
       | nil=>exact absurd hq hb2
       | cons x xs=>exact ⟨x,xs,rfl⟩
      clear hb2
      go_wp2_with (first
       | ((with_reducible refine hrd.out.mono ?_);rintro e w4 ⟨rfl,ve,vp,hbe⟩
          have c0:=hbe.rd.c0
          have c1:=hbe.rd.c1
          obtain ⟨A1,A2,n1,n2,rfl,rfl,hv⟩:=Did.val hbe hrok
          have hq4:=hXk w4 _ _ hbe.obj
          have hz4:=hbe.far.blk hz3 hgz
          have b4:=b3.trans (hbe.far.below (B:=w.heap.size) hszB hgB)
          rw [hb1] at c1
          rw [hx] at c0
          clear hq4 hv hb1 hx
          clear hrd hbe)
       | (refine wpList_store_row rfl 54 (.tmp 2) (.tmp 66) rfl w.heap.size zObj rfl rfl _ _ hz4 hsz rfl hone ?_))
      refine bodyPost_ret (results_row_tmp rfl _ _ w.heap.size _ _ _ _ rfl (setRow_heap _ _ _ _ _ _ hz4) Tryz.underlying54 rfl hsz) rfl ⟨by rw [hDn.out];rfl,below_setRow b4 (Nat.le_refl _) _⟩
   ·have e4:((c.toNat:Int)==4)=false:=by simp;omega
    rw [if_neg k4] at hrd
    have hrd:=Lib.hid hrd
    clear k2 k3 k4 hne
    by_cases hb1:X.2.2=true
    ·have hDn:Hid (D=none):=by show _=_;rw [hdec.out,if_pos (.inl hb1)]
     clear hdec hD
     go_wp2_with (first
      | ((with_reducible refine hrd.out.mono ?_);rintro e w4 ⟨rfl,ve,vp,hbe⟩
         have c0:=hbe.rd.c0
         have c1:=hbe.rd.c1
         obtain ⟨A1,A2,n1,n2,rfl,rfl,hv⟩:=Did.val hbe hrok
         have hq4:=hXk w4 _ _ hbe.obj
         have hz4:=hbe.far.blk hz3 hgz
         have b4:=b3.trans (hbe.far.below (B:=w.heap.size) hszB hgB)
         rw [hb1] at c1
         clear hq4 hv c0 hb1
         clear hrd hbe)
      | (refine wpList_store_row rfl 54 (.tmp 2) (.tmp 66) rfl w.heap.size zObj rfl rfl _ _ hz4 hsz rfl hone ?_))
     refine bodyPost_ret (results_row_tmp rfl _ _ w.heap.size _ _ _ _ rfl (setRow_heap _ _ _ _ _ _ hz4) Tryz.underlying54 rfl hsz) rfl ⟨by rw [hDn.out];rfl,below_setRow b4 (Nat.le_refl _) _⟩
    ·by_cases hb2:X.2.1=[]
     ·cases hM:mayB X.1 with
      | false=>
        have hDn:Hid (D=none):=by show _=_;rw [hdec.out,if_pos (.inr (.inr hM))]
        clear hdec hD
        have hb1:X.2.2=false:=by simpa using hb1
        go_wp2_with (first
         | ((with_reducible refine hrd.out.mono ?_);rintro e w4 ⟨rfl,ve,vp,hbe⟩
            have c0:=hbe.rd.c0
            have c1:=hbe.rd.c1
            obtain ⟨A1,A2,n1,n2,rfl,rfl,hv⟩:=Did.val hbe hrok
            have hq4:=hXk w4 _ _ hbe.obj
            have hz4:=hbe.far.blk hz3 hgz
            have b4:=b3.trans (hbe.far.below (B:=w.heap.size) hszB hgB)
            rw [hb1] at c1
            rw [hb2] at c0
            have hmay:=may_calls X.1 A1 A2 n1 n2 w4 hv
            rw [hM] at hmay
            have hmay:=Lib.hid hmay
            clear hv hb1 hb2 hM
            clear hrd hbe)
         | ((with_reducible refine hmay.out.mono ?_);rintro e w5 ⟨rfl,hb5⟩
            have hz5:=hz4.below hb5 hz4.lt
            have b5:=bthen b4 b4.size hb5
            skip
            clear hmay)
         | (refine wpList_store_row rfl 54 (.tmp 2) (.tmp 66) rfl w.heap.size zObj rfl rfl _ _ hz5 hsz rfl hone ?_))
        refine bodyPost_ret (results_row_tmp rfl _ _ w.heap.size _ _ _ _ rfl (setRow_heap _ _ _ _ _ _ hz5) Tryz.underlying54 rfl hsz) rfl ⟨by rw [hDn.out];rfl,below_setRow b5 (Nat.le_refl _) _⟩
      | true=>
        have hDn:Hid (D=some X.1):=by
         show _=_
         rw [hdec.out,if_neg]
         rintro (h | h | h)
         ·exact hb1 h
         ·exact h hb2
         ·rw [hM] at h;cases h
        clear hdec hD
        have hb1:X.2.2=false:=by simpa using hb1
        go_wp2_with (first
         | ((with_reducible refine hrd.out.mono ?_);rintro e w4 ⟨rfl,ve,vp,hbe⟩
            have c0:=hbe.rd.c0
            have c1:=hbe.rd.c1
            obtain ⟨A1,A2,n1,n2,rfl,rfl,hv⟩:=Did.val hbe hrok
            have hq4:=hXk w4 _ _ hbe.obj
            have hz4:=hbe.far.blk hz3 hgz
            have b4:=b3.trans (hbe.far.below (B:=w.heap.size) hszB hgB)
            rw [hb1] at c1
            rw [hb2] at c0
            have hmay:=may_calls X.1 A1 A2 n1 n2 w4 hv
            rw [hM] at hmay
            have hmay:=Lib.hid hmay
            have hO4:=hbe.obj
            have hoe:=hbe.ents
            have hop:=hbe.pars
            have hc72:(objC X.1 (.slice A1 X.1.ents.length n1) (.slice A2 X.1.pars.length n2)).toArray.size=72:=by rw [List.size_toArray,objC_len hrok]
            have hcone:=objC_all X.1 A1 A2 X.1.ents.length n1 X.1.pars.length n2
            clear hb1 hb2 hM
            clear hrd hbe)
         | ((with_reducible refine hmay.out.mono ?_);rintro e w5 ⟨rfl,hb5⟩
            have hz5:=hz4.below hb5 hz4.lt
            have b5:=bthen b4 b4.size hb5
            have hO5:=hO4.below hb5
            have hoe5:=own_below hoe hb5
            have hop5:=own_below hop hb5
            have hv5:=hv.below hb5
            have hq5:=hXk w5 _ _ hO5
            generalize hcs:(objC X.1 (.slice A1 X.1.ents.length n1) (.slice A2 X.1.pars.length n2)).toArray=cs at *
            have HCS:=Lib.hid hcs
            clear hcs hq4
            clear hmay)
         | (refine wpList_store_row rfl 54 (.tmp 2) (.tmp 67) rfl w.heap.size cs rfl rfl _ _ hz5 (by rw [hc72];exact szObj) (by rw [hc72];rfl) hcone ?_))
        refine bodyPost_ret (results_row_tmp rfl _ _ w.heap.size _ _ _ _ rfl (setRow_heap _ _ _ _ _ _ hz5) Tryz.underlying54 rfl (by rw [hc72];exact szObj)) rfl ⟨?_,below_setRow b5 (Nat.le_refl _) _⟩
        rw [hDn.out]
        exact ⟨A1,A2,n1,n2,by rw [HCS.out];rfl,objV_row hrok hoe5 hop5 hzlt _,own_low' (own_row hoe5 hzlt _) (Nat.le_of_lt hzlt),own_low' (own_row hop5 hzlt _) (Nat.le_of_lt hzlt)⟩
     ·have hDn:Hid (D=none):=by show _=_;rw [hdec.out,if_pos (.inr (.inl hb2))]
      clear hdec hD
      have hb1:X.2.2=false:=by simpa using hb1
      obtain ⟨x,xs,hx⟩ : ∃ x xs,X.2.1=x::xs:=by
       cases hq:X.2.1 with
       | nil=>exact absurd hq hb2
       | cons x xs=>exact ⟨x,xs,rfl⟩
      clear hb2
      go_wp2_with (first
       | ((with_reducible refine hrd.out.mono ?_);rintro e w4 ⟨rfl,ve,vp,hbe⟩
          have c0:=hbe.rd.c0
          have c1:=hbe.rd.c1
          obtain ⟨A1,A2,n1,n2,rfl,rfl,hv⟩:=Did.val hbe hrok
          have hq4:=hXk w4 _ _ hbe.obj
          have hz4:=hbe.far.blk hz3 hgz
          have b4:=b3.trans (hbe.far.below (B:=w.heap.size) hszB hgB)
          rw [hb1] at c1
          rw [hx] at c0
          clear hq4 hv hb1 hx
          clear hrd hbe)
       | (refine wpList_store_row rfl 54 (.tmp 2) (.tmp 66) rfl w.heap.size zObj rfl rfl _ _ hz4 hsz rfl hone ?_))
      refine bodyPost_ret (results_row_tmp rfl _ _ w.heap.size _ _ _ _ rfl (setRow_heap _ _ _ _ _ _ hz4) Tryz.underlying54 rfl hsz) rfl ⟨by rw [hDn.out];rfl,below_setRow b4 (Nat.le_refl _) _⟩
end Go.Proofs.YtlojebhcemfodaaGreatDoor
namespace Go.Proofs.YtlojebhcemfodaaGreatDoor
open Go.RowKit
theorem decode_calls (s:Txt) (hs:s.length≤4611686018427387904) (w:World):Calls Tryz.prog 55 #[.string (B s)] w fun e w'=>DecR (decO s) w.heap.size w' e∧Below w.heap.size w w':=by
 have hno:decO s=none→(s=[]∨4096<s.length∨takeP (s.drop 1)=none ∨ ∃ t c q,takeP (s.drop 1)=some (t,c::q))→Calls Tryz.prog 55 #[.string (B s)] w fun e w'=>DecR (decO s) w.heap.size w' e∧Below w.heap.size w w':=fun h1 h2=>by
  rw [h1]
  exact decode_no s hs h2 w
 match s,hs,hno with
 | [],hs,hno=>exact hno rfl (.inl rfl)
 | c::q,hs,hno=>
   by_cases h1:4096<(c::q).length
   ·exact hno (by unfold decO;simp only;rw [if_pos h1]) (.inr (.inl h1))
   ·cases ht:takeP q with
    | none=>exact hno (by unfold decO;simp only [ht];rw [if_neg h1]) (.inr (.inr (.inl ht)))
    | some p=>
      obtain ⟨t,b⟩:=p
      cases b with
      | nil=>exact decode_yes c q t (by simp only [List.length_cons] at h1;omega) ht w
      | cons x b=>exact hno (by unfold decO;simp only [ht];rw [if_neg h1,if_pos (by simp)]) (.inr (.inr (.inr ⟨t,x,b,ht⟩)))
theorem small_enc {o:ObjL} {t:Txt} (h:encO o=some t):Small o:=by
 have h1:o.data.length≤4096:=Nat.le_of_not_lt fun hc=>by rw [enc_data hc] at h;cases h
 have h2:o.text.length≤4096:=Nat.le_of_not_lt fun hc=>by rw [enc_text hc] at h;cases h
 have hm:mayB o=true:=by
  unfold encO at h
  split at h
  ·rename_i hc;exact hc.1
  ·cases h
 have ha:=may_alone hm
 unfold aloneB at ha
 have z:([]:Txt).length≤100:=by simp
 rcases may_kind hm with hk | hk | hk | hk
 ·rw [hk] at ha
  simp at ha
  obtain ⟨c1,c2,c3,c4⟩:=commit_all ha.1.2
  obtain ⟨t1,t2,t3⟩:=tag_all ha.2
  have e1:=tree_nil ha.1.1
  exact ⟨by rw [e1];simp,by rw [e1];simp,by rw [c2];simp,by omega,by omega,by rw [t3];simp⟩
 ·rw [hk] at ha
  simp at ha
  obtain ⟨c1,c2,c3,c4⟩:=commit_all ha.1.2
  obtain ⟨t1,t2,t3⟩:=tag_all ha.2
  have hf:entsB o.ents=true:=by
   unfold mayB at hm
   rw [if_pos hk] at hm
   simp at hm
   exact hm.2
  have hfine:=ents_fine hf
  exact ⟨by omega,fun e he=>by have:=name_len (hfine.2 e he).1;omega,by rw [c2];simp,by omega,by omega,by rw [t3];simp⟩
 ·have hp8:o.pars.length≤8:=by
   unfold mayB at hm
   rw [if_neg (by omega),if_pos hk] at hm
   simp at hm
   exact hm.2
  rw [hk] at ha
  simp at ha
  obtain ⟨t1,t2,t3⟩:=tag_all ha.2
  have e2:=tree_nil ha.1.2
  exact ⟨by rw [e2];simp,by rw [e2];simp,by omega,by omega,by omega,by rw [t3];simp⟩
 ·have hfn:nameB o.name=true:=by
   unfold mayB at hm
   rw [if_neg (by omega),if_neg (by omega),if_pos hk] at hm
   simp at hm
   exact hm.2
  rw [hk] at ha
  simp at ha
  obtain ⟨c1,c2,c3,c4⟩:=commit_all ha.2
  have e2:=tree_nil ha.1.2
  have:=name_len hfn
  exact ⟨by rw [e2];simp,by rw [e2];simp,by rw [c2];simp,by omega,by omega,by omega⟩
end Go.Proofs.YtlojebhcemfodaaGreatDoor
namespace Go.Proofs.YtlojebhcemfodaaGreatDoor
open Go.RowKit
def idP (s:Txt) (k:Nat):Txt:=s.take k++List.replicate (32-k) 0
theorem idP_len {s:Txt} {k:Nat} (h1:k≤32) (h2:k≤s.length):(idP s k).length=32:=by unfold idP;simp;omega
theorem idP_set {s:Txt} {k:Nat} (h1:k<32) (h2:k<s.length):(idP s k).set k s[k]=idP s (k+1):=by
 unfold idP
 have hk:(s.take k).length=k:=by rw [List.length_take];omega
 have e:s.take (k+1)=s.take k++[s[k]]:=by rw [List.take_add_one,List.getElem?_eq_getElem h2];rfl
 rw [List.set_append_right _ _ (by omega),hk,Nat.sub_self,e,List.append_assoc,show 32-k=(32-(k+1))+1 from by omega,List.replicate_succ]
 rfl
theorem idP_end {s:Txt} {k:Nat} (h:k=32∨k=s.length) (h1:k≤32) (h2:k≤s.length):idP s k=idG s:=by
 unfold idP idG
 rcases h with rfl | rfl
 ·rw [show 32-s.length=0 from by omega]
 ·rw [List.take_of_length_le (Nat.le_refl _),List.take_of_length_le h1]
theorem idP_zero (s:Txt):idP s 0=noId:=by unfold idP noId;simp
theorem built_zId : Tryz.prog.built 42 []=some (u8s noId):=by kernel_rfl
theorem zeroIdV (W:World):(zeroValue 42).run Tryz.prog W = .ok (.agg (u8s noId)) W:=by
 have h:(Tryz.prog.info? 42).map (·.zero)=some (some (.agg (u8s noId))):=by kernel_rfl
 obtain ⟨i,h1,h2⟩:=Option.map_eq_some_iff.1 h
 simp [zeroValue,typeInfo,h1,h2]
set_option maxRecDepth 100000 in
set_option maxHeartbeats 2000000 in
theorem gid_calls (s:Txt) (hs:s.length≤4611686018427387904) (w:World):Calls Tryz.prog 110 #[.string (B s)] w fun e w'=>e = .returned (.agg (u8s (idG s)))∧Below w.heap.size w w':=by
 have hzv:=zeroIdV
 have hrb:=fun W=>run_build (P:=Tryz.prog) W _ _ _ built_zId
 have hZ0:=Lib.hid (idP_zero s)
 have hzl:(u8s noId).size=32:=by rw [u8s_size,noId_len]
 have hone:=u8s_one noId
 have hZ1:u8s (idP s 0)=u8s noId:=by rw [idP_zero]
 generalize u8s noId=Z at *
 obtain ⟨W1,hW1⟩ : ∃ W1,w.alloc (.cells Z 42)=W1:=⟨_,rfl⟩
 have hx1:Blk W1 w.heap.size 42 Z:=by rw [←hW1];exact Blk.new _ _ _
 have b1:Below w.heap.size w W1:=by rw [←hW1];exact (Below.refl _ _).alloc (Nat.le_refl _) _
 have hs1:w.heap.size<W1.heap.size:=by rw [←hW1];simp
 have hHz:=Lib.hid hZ1
 clear hZ1
 go_enter Tryz.func110,Tryz.ntmps110
 go_wp2_with (first
  | ((with_reducible refine lit_new 42 (.tmp 3) (.tmp 5) Z 32 sz32 hzl hone _ ?_ ?_ ?_ ?_)
     ·exact hzl
     ·rfl
     ·rfl
     intro W2 hb2 hbl2
     have hx2:=hx1.below hbl2 hx1.lt
     have b2:=bthen b1 (Nat.le_of_lt hs1) hbl2
     clear hx1 b1))
 have hb2:Blk W2 W1.heap.size 42 (u8s (idP s 0)):=by rw [hHz.out];exact hb2
 clear hW1 hrb hzv
 generalize W1.heap.size=g at *
 go_loopw [4] (fun vi wr => ∃ k:Nat,vi = .int .i64 k∧k≤32∧k≤s.length∧Blk wr g 42 (u8s (idP s k))∧Blk wr w.heap.size 42 Z∧Below w.heap.size w wr) (fun vi _=>32-(intOf vi).toNat)
 case atStart=>exact ⟨0,rfl,by omega,by omega,hb2,hx2,b2⟩
 case round=>
  obtain ⟨k,rfl,hk1,hk2,hbk,hxk,hbel⟩:=hrel
  have hl32:=idP_len hk1 hk2
  by_cases hgo:k<32∧k<s.length
  ·obtain ⟨i1,i2⟩:=hgo
   have j1:(k:Int)<32:=by omega
   have j2:(k:Int)<(s.length:Int):=by omega
   obtain ⟨c,hc⟩ : ∃ c,s[k]=c:=⟨_,rfl⟩
   have c1:wr.cell? ⟨g,k,none⟩=some (.int .u8 (((idP s k).getD k 0).toNat:Nat)):=by rw [hbk.cell,u8s_get _ _ (by omega)]
   have f1:=hbk.frozen k
   have hb':=hbk.set_ k (.int .u8 (c.toNat:Nat))
   have he:Hid ((u8s (idP s k)).setIfInBounds k (.int .u8 (c.toNat:Nat))=u8s (idP s (k+1))):=by
    show _=_
    rw [u8s_set _ _ _ c.toNat_lt,←idP_set i1 i2,hc]
    congr 2
    simp
   rw [he.out] at hb'
   have hx':=hxk.far (p:=⟨g,k,none⟩) (by simp;omega) (.int .u8 (c.toNat:Nat))
   have hbel':=hbel.setCell (p:=⟨g,k,none⟩) (Nat.le_of_lt hs1) (.int .u8 (c.toNat:Nat))
   clear hbk hxk hbel he
   go_wp2_with (fail)
   all_goals try (exfalso;omega)
   go_roundw
   case rel=>exact ⟨k+1,by go_num,by omega,by omega,hb',hx',hbel'⟩
   case measure=>simp [intOf];omega
  ·have hend:Hid (idP s k=idG s):=idP_end (by omega) hk1 hk2
   rw [hend.out] at hbk
   have hsz:(Tryz.prog.info? 42).map (·.size)=some (u8s (idG s)).size:=by rw [u8s_size,idG_len];exact sz32
   have hone2:=u8s_one (idG s)
   have h32:(u8s (idG s)).size=32:=by rw [u8s_size,idG_len]
   obtain ⟨D,hD⟩ : ∃ D,Hid (u8s (idG s)=D):=⟨_,Lib.hid rfl⟩
   rw [hD.out] at hbk hsz hone2 h32
   by_cases i1:k<32
   ·have j1:(k:Int)<32:=by omega
    have j2 : ¬ (k:Int)<(s.length:Int):=by omega
    go_wp2_with (first
     | (refine wpList_load_row rfl 42 (.tmp 3) rfl g rfl _ _ _ _ hbk Tryz.underlying42 rfl hsz ?_)
     | (refine wpList_store_row rfl 42 (.tmp 2) (.tmp 21) rfl w.heap.size D rfl rfl _ _ hxk hsz (by rw [hzl,h32]) hone2 ?_))
    all_goals try (exfalso;omega)
    exact bodyPost_ret (results_cell_row rfl _ _ w.heap.size _ _ _ _ rfl (setRow_heap _ _ _ _ _ _ hxk) Tryz.underlying42 rfl hsz) rfl ⟨by rw [hD.out],below_setRow hbel (Nat.le_refl _) _⟩
   ·have j1 : ¬ (k:Int)<32:=by omega
    go_wp2_with (first
     | (refine wpList_load_row rfl 42 (.tmp 3) rfl g rfl _ _ _ _ hbk Tryz.underlying42 rfl hsz ?_)
     | (refine wpList_store_row rfl 42 (.tmp 2) (.tmp 21) rfl w.heap.size D rfl rfl _ _ hxk hsz (by rw [hzl,h32]) hone2 ?_))
    all_goals try (exfalso;omega)
    exact bodyPost_ret (results_cell_row rfl _ _ w.heap.size _ _ _ _ rfl (setRow_heap _ _ _ _ _ _ hxk) Tryz.underlying42 rfl hsz) rfl ⟨by rw [hD.out],below_setRow hbel (Nat.le_refl _) _⟩
set_option maxRecDepth 100000 in
set_option maxHeartbeats 1000000 in
theorem behind_calls (s:Txt) (n:Nat) (hs:s.length≤4611686018427387904) (hn:n≤4611686018427387904) (w:World):Calls Tryz.prog 109 #[.string (B s), .int .i64 n] w fun e w'=>e = .returned (.string (B (s.drop n))) ∧ ∃ q,w'=w.drewN q:=by
 by_cases h:s.length≤n
 ·have hi:(s.length:Int)≤(n:Int):=by omega
  have hd:s.drop n=[]:=List.drop_eq_nil_of_le h
  rw [hd]
  clear hd
  go_enter Tryz.func109,Tryz.ntmps109
  go_wp2
  all_goals try (exfalso;omega)
  go_ret
  exact ⟨rfl,0,rfl⟩
 ·have hi : ¬ (s.length:Int)≤(n:Int):=by omega
  have hle:n≤s.length:=by omega
  have hlei:(n:Int)≤(s.length:Int):=by omega
  have x2:(B s).extract n s.length=B (s.drop n):=extract_B_from s n
  go_enter Tryz.func109,Tryz.ntmps109
  go_wp2
  all_goals try (exfalso;omega)
  go_ret
  exact ⟨rfl,0,rfl⟩
end Go.Proofs.YtlojebhcemfodaaGreatDoor
namespace Go.Proofs.YtlojebhcemfodaaGreatDoor
open Go.RowKit
/-- The kind that is told. -/
def kindS (s:List StL) (n:Txt):Int:=match getS s n with
 | some x=>match decO x.text with | some o=>o.kind | none=>0
 | none=>0
theorem dec_kind {t:Txt} {o:ObjL} (h:decO t=some o) : ∃ c q,t=c::q∧o.kind=(c.toNat:Int):=by
 unfold decO at h
 match t,h with
 | c::q,h=>
   simp only at h
   split at h
   ·cases h
   ·split at h
    ·cases h
    ·split at h
     ·cases h
     ·split at h
      ·cases h
      ·injection h with h
       exact ⟨c,q,rfl,by rw [←h,readO_kind]⟩
theorem getS_mem {s:List StL} {n:Txt} {x:StL} (h:getS s n=some x):x∈s:=List.mem_of_find?_eq_some h
section
variable {w w':World} {base p:Nat} {vl:Value} {s:List StL}
/-- A boxed id, and its load. -/
theorem boxId (w:World) (n:Txt) (hn:n.length=32) : ∃ W1,w.alloc (.cells (u8s n) 42)=W1∧Below w.heap.size w W1∧Blk W1 w.heap.size 42 (u8s n) ∧ ∀ W,Below W1.heap.size W1 W→(ldvI ⟨w.heap.size,0,none⟩).run Tryz.prog W = .ok (.agg (u8s n)) W:=by
 have n1:Blk (w.alloc (.cells (u8s n) 42)) w.heap.size 42 (u8s n):=Blk.new _ _ _
 refine ⟨_,rfl,(Below.refl _ _).alloc (Nat.le_refl _) _,n1,fun W hW=>?_⟩
 have hsI:(Tryz.prog.info? 42).map (·.size)=some (u8s n).toList.length:=by rw [u8s_lenS,hn];exact sz32
 have:=run_loadVar_mid (P:=Tryz.prog) W w.heap.size 0 42 (u8s n).toList _ (range_blk (n1.below hW n1.lt)) Tryz.underlying42 rfl hsI
 rwa [Array.toArray_toList] at this
attribute [local go_sem ↓] ldvI_eq ldvO_eq
/-- What Object tells. -/
def ObjT (s:List StL) (n:Txt) (B0:Nat) (w':World) (e:Ending):Prop:=match getS s n with
 | some x => ∃ o A1 A2 k1 k2,decO x.text=some o∧e = .returned (.tuple #[.agg (objC o (.slice A1 o.ents.length k1) (.slice A2 o.pars.length k2)).toArray, .bool true])∧ObjV w' (.slice A1 o.ents.length k1) (.slice A2 o.pars.length k2) o∧OwnEnts w' B0 (.slice A1 o.ents.length k1) o.ents∧OwnIds w' B0 (.slice A2 o.pars.length k2) o.pars
 | none=>e = .returned (.tuple #[.agg zObj, .bool false])
set_option maxRecDepth 100000 in
set_option maxHeartbeats 2000000 in
theorem stoObject_calls (h:StoAt w base p vl s) (n:Txt) (hn:n.length=32) :
 Calls Tryz.prog 32 #[.pointer (some ⟨p,0,none⟩), .agg (u8s n)] w fun e w'=>ObjT s n w.heap.size w' e∧Below w.heap.size w w':=by
 have hzo:=zeroObj
 have hz72:=zObj_size
 have hrb:=fun W=>run_build (P:=Tryz.prog) W _ _ _ built_zObj
 have hsz : ∀ cs:Array Value,cs.size=72→(Tryz.prog.info? 54).map (·.size)=some cs.size:=fun cs h=>by rw [h];exact szObj
 have hzone:zObj.all (·.oneCell')=true:=objC_all zeroO none none 0 0 0 0
 obtain ⟨W1,hW1,b1,n1,ld⟩:=boxId w n hn
 obtain ⟨W2,hW2⟩ : ∃ W2,W1.alloc (.cells zObj 54)=W2:=⟨_,rfl⟩
 have z2:Blk W2 W1.heap.size 54 zObj:=by rw [←hW2];exact Blk.new _ _ _
 have bb2:Below W1.heap.size W1 W2:=by rw [←hW2];exact (Below.refl _ _).alloc (Nat.le_refl _) _
 have b2:=bthen b1 b1.size bb2
 have hg:=Lib.hid (stoGet_calls (h.below b2) n hn)
 have q1:=ld W2 bb2
 have hle1:=b1.size
 unfold ObjT
 generalize u8s n=NC at *
 clear ld n1
 cases hG:getS s n with
 | none=>
   have hg:Hid (Calls Tryz.prog 59 #[.pointer (some ⟨p,0,none⟩), .agg NC] W2 fun e w'=>e = .returned (.tuple #[.string (B []), .bool false])∧Below W2.heap.size W2 w'):=by
    have:=hg;unfold getV at this;rw [hG] at this;exact this
   generalize zObj=ZO at *
   clear hG
   go_enter Tryz.func32,Tryz.ntmps32
   go_wp2_with (first
    | ((with_reducible refine hg.out.mono ?_);rintro e w3 ⟨rfl,hb3⟩
       have b3:=bthen b2 b2.size hb3
       have z3:=z2.below hb3 z2.lt)
    | (refine wpList_store_row rfl 54 (.tmp 4) (.tmp 18) rfl W1.heap.size ZO rfl rfl _ _ z3 (hsz ZO hz72) rfl hzone ?_))
   refine bodyPost_ret (results_row_tmp rfl _ _ W1.heap.size _ _ _ _ rfl (setRow_heap _ _ _ _ _ _ z3) Tryz.underlying54 rfl (hsz ZO hz72)) rfl ⟨rfl,below_setRow b3 hle1 _⟩
 | some x=>
   have hg:Hid (Calls Tryz.prog 59 #[.pointer (some ⟨p,0,none⟩), .agg NC] W2 fun e w'=>e = .returned (.tuple #[.string (B x.text), .bool true])∧Below W2.heap.size W2 w'):=by
    have:=hg;unfold getV at this;rw [hG] at this;exact this
   obtain ⟨o,ho⟩:=(h.ok.each x (getS_mem hG)).2
   have hxl:=(decO_len ho).2
   have hde : ∀ W,Calls Tryz.prog 55 #[.string (B x.text)] W fun e w'=>(∃ A1 A2 k1 k2,e = .returned (.tuple #[.agg (objC o (.slice A1 o.ents.length k1) (.slice A2 o.pars.length k2)).toArray, .int .i64 0])∧ObjV w' (.slice A1 o.ents.length k1) (.slice A2 o.pars.length k2) o∧OwnEnts w' W.heap.size (.slice A1 o.ents.length k1) o.ents∧OwnIds w' W.heap.size (.slice A2 o.pars.length k2) o.pars)∧Below W.heap.size W w':=fun W=>by
    have:=decode_calls x.text (by omega) W
    rw [ho] at this
    exact this
   clear hG
   go_enter Tryz.func32,Tryz.ntmps32
   go_wp2_with (first
    | ((with_reducible refine hg.out.mono ?_);rintro e w3 ⟨rfl,hb3⟩
       have b3:=bthen b2 b2.size hb3
       have z3:=z2.below hb3 z2.lt
       have b3z:=hb3.size)
    | ((with_reducible refine (hde _).mono ?_);rintro e w4 ⟨⟨A1,A2,k1,k2,rfl,hv4,oe4,op4⟩,hb4⟩
       have b4:=bthen b3 b3.size hb4
       have z4:=z3.below hb4 z3.lt
       have hc72:(objC o (.slice A1 o.ents.length k1) (.slice A2 o.pars.length k2)).toArray.size=72:=by rw [List.size_toArray,objC_len hv4.ok]
       have hcone:=objC_all o A1 A2 o.ents.length k1 o.pars.length k2)
    | ((with_reducible refine lit_new 54 (.tmp 8) (.tmp 22) (objC o (.slice A1 o.ents.length k1) (.slice A2 o.pars.length k2)).toArray 72 szObj hc72 hcone _ ?_ ?_ ?_ ?_)
       ·first | exact hz72 | rfl
       ·rfl
       ·rfl
       intro W5 hb5 hbl5
       have b5:=bthen b4 b4.size hbl5
       have z5:=z4.below hbl5 z4.lt
       have hv5:=hv4.below hbl5
       have hO5:ObjB W5 w4.heap.size o (.slice A1 o.ents.length k1) (.slice A2 o.pars.length k2):=⟨hb5,hv4.ok.tree,hv4.ok.target⟩
       have ld5:=run_ldvO hO5 hv4.ok)
    | (refine wpList_store_row rfl 54 (.tmp 4) (.tmp 24) rfl W1.heap.size (objC o (.slice A1 o.ents.length k1) (.slice A2 o.pars.length k2)).toArray rfl rfl _ _ z5 (hsz _ hc72) (hz72.trans hc72.symm) hcone ?_))
   refine bodyPost_ret (results_row_tmp rfl _ _ W1.heap.size _ _ _ _ rfl (setRow_heap _ _ _ _ _ _ z5) Tryz.underlying54 rfl (hsz _ hc72)) rfl ⟨⟨o,A1,A2,k1,k2,ho,rfl,?_,own_low' (own_row (own_below oe4 hbl5) (Nat.lt_of_lt_of_le z2.lt b3z) _) b3.size,own_low' (own_row (own_below op4 hbl5) (Nat.lt_of_lt_of_le z2.lt b3z) _) b3.size⟩,below_setRow b5 hle1 _⟩
   exact objV_row hv4.ok (own_below oe4 hbl5) (own_below op4 hbl5) (Nat.lt_of_lt_of_le z2.lt b3z) _
attribute [local go_sem ↓] ldvStit_eq
end
attribute [local go_sem ↓] ldvI_eq ldvO_eq
end Go.Proofs.YtlojebhcemfodaaGreatDoor
namespace Go.Proofs.YtlojebhcemfodaaGreatDoor
open Go.RowKit
/-- Two slices lie in blocks that are unlike. -/
def Ap (a b:Value):Prop := ∀ k,a.ownBlock=some k→b.ownBlock≠some k
theorem Ap.symm {a b:Value} (h:Ap a b):Ap b a:=fun k hk e=>h k e hk
theorem Ap.nil_l (a b:Nat) (v:Value):Ap (.slice none a b) v:=fun k hk=>by cases hk
theorem Ap.nil_r (a b:Nat) (v:Value):Ap v (.slice none a b):=fun k _ e=>by cases e
theorem Ap.newer {w:World} {a a' b:Value} (h:Ap a b) (hn:Newer w a a') (hb : ∀ k,b.ownBlock=some k→k<w.heap.size):Ap a' b:=fun k hk e=>by
 rcases hn with h1 | h1
 ·exact h k (h1▸hk) e
 ·have:=h1 k hk;have:=hb k e;omega
theorem own_lt {w:World} {B:Nat} {e:TypeId} {size n:Nat} {v:Value} {xs:List Value} (h:w.ownsRow B e size v n xs) : ∀ k,v.ownBlock=some k→k<w.heap.size:=fun k hk=>(World.ownsRow.lt h k hk).2
theorem own_ge {w:World} {B:Nat} {e:TypeId} {size n:Nat} {v:Value} {xs:List Value} (h:w.ownsRow B e size v n xs) : ∀ k,v.ownBlock=some k→B≤k:=fun k hk=>(World.ownsRow.lt h k hk).1
structure RcM (w:World) (ve:Value) (cs todo inn out:List Txt) (vt vI vO:Value) (wr:World):Prop where
 tok : ∀ x∈todo,x.length=32
 t:OwnIds wr w.heap.size vt todo
 i:SetAt wr w.heap.size w.heap.size vI inn
 o:SetAt wr w.heap.size (w.heap.size+1) vO out
 e:OwnIds wr w.heap.size ve cs
 a1:Ap vI vO
 a2:Ap vI vt
 a3:Ap vO vt
 a4:Ap ve vI
 a5:Ap ve vO
 a6:Ap ve vt
 bel:Below w.heap.size w wr
section
variable {w wr w':World} {ve vt vI vO:Value} {cs todo inn out:List Txt} {x:Txt}
theorem RcM.below (h:RcM w ve cs todo inn out vt vI vO wr) (hb:Below wr.heap.size wr w'):RcM w ve cs todo inn out vt vI vO w':=
 ⟨h.tok,own_below h.t hb,h.i.below hb,h.o.below hb,own_below h.e hb,h.a1,h.a2,h.a3,h.a4,h.a5,h.a6,bthen h.bel h.bel.size hb⟩
theorem RcM.pop {m c:Nat} {A:Option Addr} (h:RcM w ve cs (todo++[x]) inn out (.slice A (m+1) c) vI vO wr) (hm:todo.length=m):RcM w ve cs todo inn out (.slice A m c) vI vO wr:=by
 have hob:(Value.slice A m c).ownBlock=(Value.slice A (m+1) c).ownBlock:=by cases A<;>rfl
 refine ⟨fun y hy=>h.tok y (by simp [hy]),?_,h.i,h.o,h.e,h.a1,fun k hk e=>h.a2 k hk (hob▸e),fun k hk e=>h.a3 k hk (hob▸e),h.a4,h.a5,fun k hk e=>h.a6 k hk (hob▸e),h.bel⟩
 have hk : ∀ y∈todo++[x],(idC y).length=32:=fun y hy=>idC_len (h.tok y hy)
 rcases Row.of_own hk h.t with ⟨h1,h2⟩ | ⟨g,cap,h1,hg,hr⟩
 ·simp at h2
 ·injection h1 with e1 e2 e3
  subst e1 e3
  have h3:=(hr.cut m).own (fun y hy=>hk y (List.mem_of_mem_take hy)) hg
  rw [←hm,List.take_left] at h3
  unfold OwnIds
  rw [hm] at h3
  rw [hm]
  exact h3
theorem RcM.out_ {vO':Value} {out':List Txt} (h:RcM w ve cs todo inn out vt vI vO wr) (hs:SetAt w' w.heap.size (w.heap.size+1) vO' out') (hf:Far [some (w.heap.size+1),vO.ownBlock] wr w') (hn:Newer wr vO vO'):RcM w ve cs todo inn out' vt vI vO' w':=by
 have hne : ∀ {v:Value} {l:List Txt},OwnIds wr w.heap.size v l→Ap v vO → ∀ k,v.ownBlock=some k→some k ∉ [some (w.heap.size+1),vO.ownBlock]:=fun {v l} ho ha k hk hm=>by
  simp only [List.mem_cons,List.not_mem_nil,or_false] at hm
  rcases hm with h1 | h1
  ·injection h1 with h1
   subst h1
   exact own_blk_ne ho h.o.blk (by decide) hk.symm
  ·exact ha k hk h1.symm
 have hpI:some w.heap.size ∉ [some (w.heap.size+1),vO.ownBlock]:=fun hm=>by
  simp only [List.mem_cons,List.not_mem_nil,or_false] at hm
  rcases hm with h1 | h1
  ·injection h1 with h1;omega
  ·exact own_blk_ne h.o.own h.i.blk (by decide) h1
 refine ⟨h.tok,hf.own h.t (hne h.t h.a3.symm),h.i.far hf hpI (hne h.i.own h.a1),hs,hf.own h.e (hne h.e h.a5),(h.a1.symm.newer hn (own_lt h.i.own)).symm,h.a2,h.a3.newer hn (own_lt h.t),h.a4,(h.a5.symm.newer hn (own_lt h.e)).symm,h.a6,?_⟩
 refine h.bel.trans (hf.below h.bel.size fun k hk=>?_)
 simp only [List.mem_cons,List.not_mem_nil,or_false] at hk
 rcases hk with h1 | h1
 ·injection h1 with h1;omega
 ·exact own_ge h.o.own k h1.symm
theorem RcM.in_ {vI':Value} {inn':List Txt} (h:RcM w ve cs todo inn out vt vI vO wr) (hs:SetAt w' w.heap.size w.heap.size vI' inn') (hf:Far [some w.heap.size,vI.ownBlock] wr w') (hn:Newer wr vI vI'):RcM w ve cs todo inn' out vt vI' vO w':=by
 have hne : ∀ {v:Value} {l:List Txt},OwnIds wr w.heap.size v l→Ap v vI → ∀ k,v.ownBlock=some k→some k ∉ [some w.heap.size,vI.ownBlock]:=fun {v l} ho ha k hk hm=>by
  simp only [List.mem_cons,List.not_mem_nil,or_false] at hm
  rcases hm with h1 | h1
  ·injection h1 with h1
   subst h1
   exact own_blk_ne ho h.i.blk (by decide) hk.symm
  ·exact ha k hk h1.symm
 have hpO:some (w.heap.size+1) ∉ [some w.heap.size,vI.ownBlock]:=fun hm=>by
  simp only [List.mem_cons,List.not_mem_nil,or_false] at hm
  rcases hm with h1 | h1
  ·injection h1 with h1;omega
  ·exact own_blk_ne h.i.own h.o.blk (by decide) h1
 refine ⟨h.tok,hf.own h.t (hne h.t h.a2.symm),hs,h.o.far hf hpO (hne h.o.own h.a1.symm),hf.own h.e (hne h.e h.a4),h.a1.newer hn (own_lt h.o.own),h.a2.newer hn (own_lt h.t),h.a3,(h.a4.symm.newer hn (own_lt h.e)).symm,h.a5,h.a6,?_⟩
 refine h.bel.trans (hf.below h.bel.size fun k hk=>?_)
 simp only [List.mem_cons,List.not_mem_nil,or_false] at hk
 rcases hk with h1 | h1
 ·injection h1 with h1;omega
 ·exact own_ge h.i.own k h1.symm
theorem RcM.push {vt':Value} {todo':List Txt} (h:RcM w ve cs todo inn out vt vI vO wr) (hok : ∀ y∈todo',y.length=32) (ht:OwnIds w' w.heap.size vt' todo') (hg:wr.grownBy w' vt.ownBlock) (hn:Newer wr vt vt'):RcM w ve cs todo' inn out vt' vI vO w':=by
 have hf:=Far.of_grown hg
 have hne : ∀ {v:Value} {l:List Txt},OwnIds wr w.heap.size v l→Ap v vt → ∀ k,v.ownBlock=some k→some k ∉ [vt.ownBlock]:=fun {v l} ho ha k hk hm=>ha k hk (List.mem_singleton.1 hm).symm
 have hp : ∀ {p:Nat} {v:Value},Blk wr p 72 #[v]→some p ∉ [vt.ownBlock]:=fun hb hm=>own_blk_ne h.t hb (by decide) (List.mem_singleton.1 hm)
 refine ⟨hok,ht,h.i.far hf (hp h.i.blk) (hne h.i.own h.a2),h.o.far hf (hp h.o.blk) (hne h.o.own h.a3),hf.own h.e (hne h.e h.a6),h.a1,(h.a2.symm.newer hn (own_lt h.i.own)).symm,(h.a3.symm.newer hn (own_lt h.o.own)).symm,h.a4,h.a5,(h.a6.symm.newer hn (own_lt h.e)).symm,?_⟩
 exact h.bel.trans (hf.below h.bel.size fun k hk=>own_ge h.t k (List.mem_singleton.1 hk).symm)
end
theorem inL_sortU (l:List Txt) (n:Txt):inL (sortU l) n=inL l n:=by
 have:=(sortU_law l).2 n
 rw [Bool.eq_iff_iff,inL_iff,inL_iff]
 exact this
theorem cutO_sortU (cut:List Txt) (n:Txt) (o:ObjL):cutO (sortU cut) n o=cutO cut n o:=by unfold cutO;rw [inL_sortU]
end Go.Proofs.YtlojebhcemfodaaGreatDoor
