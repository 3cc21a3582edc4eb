/- Texts of this claim, laid together: HisF, ChkL, OpenIds, OpenRf, Tab. -/
import Derived.Test.YtfdfoplmijmnaaaGreatDoorMn
import Derived.Test.YtfdfoplmijmnaaaGreatDoorCards
import Derived.WalkKit
import Derived.ProofKit
import Derived.OpenShut
import Derived.Deep.DeepHandedRow
import Derived.Lib.LaidTab
namespace Go.Proofs.YtfdfoplmijmnaaaGreatDoor
open Go.RowKit
attribute [local go_sem ↓] ldvI_eq ldvS_eq ldvT_eq
theorem StoOk.sub {s s':List StL} (h:StoOk s) (hs:s'.Sublist s):StoOk s':=⟨fun x hx=>h.each x (hs.subset hx),h.sorted.sublist hs,Nat.le_trans hs.length_le h.few⟩
theorem DocSt.sub {w w':World} {vm v':Value} {es:List DiL} (h:DocSt w vm es) (p:DiL→Bool) (ho:OwnDits w' 0 v' (es.filter p)) (hs : ∀ k,DocUse vm es k→w'.heap[k]?=w.heap[k]?):DocSt w' v' (es.filter p):=
 ⟨ho,fun e he=>(h.same hs).each e (List.mem_filter.1 he).1,h.ok.sub ((List.filter_sublist).map _)⟩
/-- What Few tells. -/
def Few12R (h:HisL) (w:World) (e:Ending) (w':World):Prop:=(e = .returned (.tuple #[.agg #[.slice none 0 0], .bool false]))∨(∃ vm es,e = .returned (.tuple #[.agg #[vm], .bool true])∧FewH h∧DocSt w' vm es∧es.length≤24)
theorem len_filter_take {α:Type} (p:α→Bool) (l:List α) (k:Nat):((l.take k).filter p).length≤k:=Nat.le_trans (List.length_filter_le _ _) (by rw [List.length_take];exact Nat.min_le_left _ _)
set_option maxRecDepth 100000 in
set_option maxHeartbeats 8000000 in
theorem few12_calls (h:HisL) (vs vo vf vc:Value) (w:World) (hh:HisOk w vs vo vf vc h) :
 Calls Tryz.prog 5 #[.agg #[vs,vo,vf,vc]] w fun e w'=>Few12R h w e w'∧Below w.heap.size w w':=by
 obtain ⟨W1,hW1⟩ : ∃ W1,w.alloc (.cells #[vs,vo,vf,vc] 25)=W1:=⟨_,rfl⟩
 have s1:Blk W1 w.heap.size 25 #[vs,vo,vf,vc]:=by rw [←hW1];exact Blk.new _ _ _
 have b1:Below w.heap.size w W1:=by rw [←hW1];exact (Below.refl _ _).alloc (Nat.le_refl _) _
 obtain ⟨W2,hW2⟩ : ∃ W2,W1.alloc (.cells #[.slice none 0 0] 30)=W2:=⟨_,rfl⟩
 have r2:Blk W2 W1.heap.size 30 #[.slice none 0 0]:=by rw [←hW2];exact Blk.new _ _ _
 have bb2:Below W1.heap.size W1 W2:=by rw [←hW2];exact (Below.refl _ _).alloc (Nat.le_refl _) _
 have b2:=bthen b1 b1.size bb2
 have s2:=s1.below bb2 s1.lt
 have hle1:w.heap.size≤W1.heap.size:=b1.size
 have hlt1:W1.heap.size<W2.heap.size:=r2.lt
 have c0 : ∀ W,Below W2.heap.size W2 W→W.cell? ⟨w.heap.size,0,none⟩=some vs:=fun W hW=>(s2.below hW s2.lt).cell 0
 have c1 : ∀ W,Below W2.heap.size W2 W→W.cell? ⟨w.heap.size,1,none⟩=some vo:=fun W hW=>(s2.below hW s2.lt).cell 1
 have c2 : ∀ W,Below W2.heap.size W2 W→W.cell? ⟨w.heap.size,2,none⟩=some vf:=fun W hW=>(s2.below hW s2.lt).cell 2
 have c3 : ∀ W,Below W2.heap.size W2 W→W.cell? ⟨w.heap.size,3,none⟩=some vc:=fun W hW=>(s2.below hW s2.lt).cell 3
 have c02:=c0 W2 (Below.refl _ _)
 have hfw:Hid (Calls Tryz.prog 21 #[vs, .int .i64 24] W2 fun e w'=>FewB h.seeds 24 e∧Below W2.heap.size W2 w'):=Lib.hid (few_calls11 h.seeds 24 (by omega) vs W2 (hh.seeds.below b2))
 have hgr:=fun (h1:h.seeds.length≤24 ∧ ∀ x∈h.seeds,x.refs.length≤10∧x.text.length≤300) W (hW:Below w.heap.size w W)=>Lib.hid (grow_calls h.seeds (Nat.le_trans h1.1 (by omega)) h1.2 vs W (hh.seeds.below hW))
 have hid:=fun (ids:List Txt) (hok : ∀ x∈ids,x.length=32) (hil:ids.length≤1000) (v:Value) W (hW:Below w.heap.size w W) (hv:Ids W v ids) (ho10:h.out.length≤10)=>Lib.hid (ids12_calls ids hok hil v W hv h.out (by omega) vo (hh.out.below hW))
 have hbS:Tryz.prog.built 30 []=some #[.slice none 0 0]:=by kernel_rfl
 have hrb:=fun W=>run_build (P:=Tryz.prog) W _ _ _ hbS
 have hS0:(#[Value.slice none 0 0]:Array Value).size=1:=rfl
 have hS1:(#[Value.slice none 0 0]:Array Value).all (·.oneCell')=true:=by kernel_rfl
 have hszS : ∀ vm:Value,(Tryz.prog.info? 30).map (·.size)=some (#[vm]:Array Value).size:=fun vm=>szDSt
 obtain ⟨Ao,co,rfl,ho1,ho2,hato⟩:=hh.out
 obtain ⟨Af,cf,rfl,hf1,hf2,hatf⟩:=hh.frm
 obtain ⟨Ac,cc,rfl,hc1,hc2,hatc⟩:=hh.cut
 clear hh hato hatf hatc s1 s2
 obtain ⟨LO,hLO⟩ : ∃ LO,h.out.length=LO:=⟨_,rfl⟩
 obtain ⟨LF,hLF⟩ : ∃ LF,h.frm.length=LF:=⟨_,rfl⟩
 obtain ⟨LC,hLC⟩ : ∃ LC,h.cut.length=LC:=⟨_,rfl⟩
 rw [hLO] at ho1 hid
 rw [hLF] at hf1
 rw [hLC] at hc1
 simp only [hLO] at c1 hW1 ⊢
 simp only [hLF] at c2 hW1 ⊢
 simp only [hLC] at c3 hW1 ⊢
 go_enter Tryz.func5,Tryz.ntmps5
 go_upto_region 2 with (first
  | ((with_reducible refine hfw.out.mono ?_);rintro e w3 ⟨⟨b,rfl,hb⟩,hb3⟩))
 have b3:=bthen b2 b2.size hb3
 have r3:=r2.below hb3 r2.lt
 have d1:=c1 w3 hb3
 have d2:=c2 w3 hb3
 have d3:=c3 w3 hb3
 have d0:=c0 w3 hb3
 clear hfw c02 hW1 hW2
 cases b with
 | false=>
   clear hgr hid c0 c1 c2 c3 hb
   go_wp2_with (first
    | (refine wpList_store_row rfl 30 (.tmp 2) (.tmp 34) rfl W1.heap.size #[.slice none 0 0] rfl rfl _ _ r3 (hszS _) rfl hS1 ?_))
   refine bodyPost_ret (results_row_tmp rfl _ _ W1.heap.size _ _ _ _ rfl (setRow_heap _ _ _ _ _ _ r3) Tryz.underlying30 rfl (hszS _)) rfl ⟨.inl rfl,below_setRow b3 hle1 _⟩
 | true=>
   have hb:=hb rfl
   replace hgr:=hgr hb w3 b3
   by_cases hO:10<LO
   ·have hOi:(10:Int)<(LO:Int):=by omega
    clear hgr hid c0 c1 c2 c3 hb hLO hLF hLC
    go_wp2_with (first
     | (refine wpList_store_row rfl 30 (.tmp 2) (.tmp 34) rfl W1.heap.size #[.slice none 0 0] rfl rfl _ _ r3 (hszS _) rfl hS1 ?_))
    refine bodyPost_ret (results_row_tmp rfl _ _ W1.heap.size _ _ _ _ rfl (setRow_heap _ _ _ _ _ _ r3) Tryz.underlying30 rfl (hszS _)) rfl ⟨.inl rfl,below_setRow b3 hle1 _⟩
   ·have hOi : ¬ (10:Int)<(LO:Int):=by omega
    by_cases hF:10<LF
    ·have hFi:(10:Int)<(LF:Int):=by omega
     clear hgr hid c0 c1 c2 c3 hb hLO hLF hLC
     go_wp2_with (first
      | (refine wpList_store_row rfl 30 (.tmp 2) (.tmp 34) rfl W1.heap.size #[.slice none 0 0] rfl rfl _ _ r3 (hszS _) rfl hS1 ?_))
     refine bodyPost_ret (results_row_tmp rfl _ _ W1.heap.size _ _ _ _ rfl (setRow_heap _ _ _ _ _ _ r3) Tryz.underlying30 rfl (hszS _)) rfl ⟨.inl rfl,below_setRow b3 hle1 _⟩
    ·have hFi : ¬ (10:Int)<(LF:Int):=by omega
     by_cases hC:10<LC
     ·have hCi:(10:Int)<(LC:Int):=by omega
      clear hgr hid c0 c1 c2 c3 hb hLO hLF hLC
      go_wp2_with (first
       | (refine wpList_store_row rfl 30 (.tmp 2) (.tmp 34) rfl W1.heap.size #[.slice none 0 0] rfl rfl _ _ r3 (hszS _) rfl hS1 ?_))
      refine bodyPost_ret (results_row_tmp rfl _ _ W1.heap.size _ _ _ _ rfl (setRow_heap _ _ _ _ _ _ r3) Tryz.underlying30 rfl (hszS _)) rfl ⟨.inl rfl,below_setRow b3 hle1 _⟩
     ·have hCi : ¬ (10:Int)<(LC:Int):=by omega
      have hfin:Hid (∀ (vm:Value) (es:List DiL) (w':World) (e:Ending),e = .returned (.tuple #[.agg #[vm], .bool true])→DocSt w' vm es→es.length≤24→Few12R h w e w'):=Lib.hid fun vm es w' e he h1 h2 => .inr ⟨vm,es,he,⟨hb,by omega,by omega,by omega⟩,h1,h2⟩
      have hsl:=hb.1
      clear hb hLO hLF hLC c0 c2 c3
      go_upto_region 5 with (first
       | ((with_reducible refine hgr.out.mono ?_);rintro e w4 ⟨⟨vm,es,vi,ids,rfl,hD,hel,hoi,hil,hok,hap⟩,hb4⟩
          obtain ⟨Ai,ci,rfl⟩:=own_form' hoi
          obtain ⟨Am,cm,rfl⟩:=own_form' hD.own
          have hm2:(#[Value.slice Am es.length cm]:Array Value).all (·.oneCell')=true:=by simp [Value.oneCell']
          have hm1:(#[Value.slice Am es.length cm]:Array Value).size=1:=rfl)
       | ((with_reducible refine lit_new 30 (.tmp 5) (.tmp 39) #[.slice Am es.length cm] 1 szDSt hm1 hm2 _ ?_ ?_ ?_ ?_)
          ·first | exact hm1 | rfl
          ·rfl
          ·rfl
          intro W5 hb5 hbl5))
      have b4:=bthen b3 b3.size hb4
      have b5:=bthen b4 b4.size hbl5
      have r4:=r3.below hb4 r3.lt
      have r5:=r4.below hbl5 r4.lt
      have hoi5:=own_below hoi hbl5
      have hD5:=hD.below hbl5
      have c15:=c1 W5 (bthen hb3 hb3.size (bthen hb4 hb4.size hbl5))
      have hidc:=fun ho10=>hid ids hok (by omega) _ W5 b5 (SliceAt.of_own (fun e h=>idC_len (hok e h)) hoi5) ho10
      have hids0:Hid (ids.length=ids.length):=Lib.hid rfl
      clear hgr hid c1 d0 d1 d2 d3 r3 r4
      by_cases h0:0<ids.length
      ·have h0b:((ids.length:Int)==0)=false:=by rw [beq_eq_false_iff_ne];omega
       replace hidc:=Lib.hid (hidc (by omega)).out
       go_upto_region 9 with (first
        | ((with_reducible refine hidc.out.mono ?_);rintro e w6 ⟨⟨vg,gone,rfl,hog,hgk, -⟩,hb6⟩
           obtain ⟨Ag,cg,rfl⟩:=own_form' hog)
        | ((with_reducible refine lit_new 30 (.tmp 8) (.tmp 49) #[.slice none 0 0] 1 szDSt hS0 hS1 _ ?_ ?_ ?_ ?_)
           ·first | exact hS0 | rfl
           ·rfl
           ·rfl
           intro W7 hb7 hbl7))
       have hDD:=hD5.below hb6
       have hs6:=hb5.below hb6 hb5.lt
       have r6:=r5.below hb6 r5.lt
       have b6:=bthen b5 b5.size hb6
       have hN1:W1.heap.size<w6.heap.size:=r6.lt
       obtain ⟨N,hN⟩ : ∃ N,w6.heap.size=N:=⟨_,rfl⟩
       rw [hN] at hb7 hbl7 hN1
       have hgone:=SliceAt.of_own (fun e h=>idC_len (hgk e h)) hog
       have hin:=fun W (hW:Below N w6 W) (x:Txt) (hx:x.length=32)=>Lib.hid (in02_calls gone hgk _ x hx W (hgone.below (hN▸hW)))
       obtain ⟨B5,hB5⟩ : ∃ B5,w4.heap.size=B5:=⟨_,rfl⟩
       have hB5N:B5<N:=by rw [←hB5,←hN];exact hs6.lt
       rw [hB5] at hb5 hs6
       obtain ⟨A2,c2',hfe,hm3,hm4,hatm⟩:=hDD.at_
       injection hfe with e1 e2 e3
       subst e1 e3
       have heach:=hDD.each
       have hlen24:es.length≤24:=by omega
       have hL0:OwnDits W7 N (.slice none 0 0) ((es.take 0).filter fun e => !inL gone e.st.id):=by rw [List.take_zero];exact World.ownsRow_nil _ _ _ _
       rw [hN] at hatm
       go_wp2_with (fail)
       clear hog hidc hoi5 hD5 hoi hD r5 c15 hb5 hap b5 b4 hbl5
       go_loopg [9] es.length (fun f vi wr => ∃ (k:Nat) (vL:Value),vi = .int .i64 k∧k+f=es.length∧Blk wr N 30 #[vL]∧OwnDits wr N vL ((es.take k).filter fun e => !inL gone e.st.id)∧Below N w6 wr)
       case atStart=>exact ⟨0,_,rfl,by omega,hb7,hL0,hbl7⟩
       case round=>
        clear hL0 hb7 hbl7
        obtain ⟨k,vL,rfl,hkf,hL,hoL,hbel⟩:=hrel
        have hbel6:Below w6.heap.size w6 wr:=hN▸hbel
        have hsr:=hs6.below hbel6 hs6.lt
        have csr:=hsr.cell 0
        have hNr:N<wr.heap.size:=hL.lt
        cases gk with
        | zero=>
          have hki : ¬ (k:Int)<(es.length:Int):=by omega
          have hke:es.take k=es:=List.take_of_length_le (by omega)
          rw [hke] at hoL
          have hDr:=hDD.below hbel6
          have r7:=r6.below hbel6 r6.lt
          have lL:=run_ldvS hL
          have br:=bthen b6 b6.size hbel6
          have hnoR:=hDr.blk_ne r7 (by decide) (by decide) (by decide)
          have hne7:=own_blk_ne hoL r7 (by decide)
          obtain ⟨AL,cL,rfl⟩:=own_form' hoL
          have hLone:(#[Value.slice AL (es.filter fun e => !inL gone e.st.id).length cL]:Array Value).all (·.oneCell')=true:=by simp [Value.oneCell']
          clear hatm hin heach hke hL
          obtain ⟨fl,hfl⟩ : ∃ fl,(es.filter fun e => !inL gone e.st.id).length=fl:=⟨_,rfl⟩
          have hfl2:=Lib.hid hfl
          rw [hfl] at lL hLone hoL
          clear hfl
          go_wp2_with (first
           | (refine wpList_store_row rfl 30 (.tmp 2) (.tmp 77) rfl W1.heap.size #[.slice AL fl cL] rfl rfl _ _ r7 (hszS _) rfl hLone ?_))
          refine bodyPost_ret (results_row_tmp rfl _ _ W1.heap.size _ _ _ _ rfl (setRow_heap _ _ _ _ _ _ r7) Tryz.underlying30 rfl (hszS _)) rfl ⟨hfin.out _ (es.filter fun e => !inL gone e.st.id) _ _ rfl ((hDr.row hnoR _).sub _ (own_down (own_row hoL hN1 _) (Nat.zero_le _)) fun _ _=>rfl) (Nat.le_trans (List.length_filter_le _ _) hlen24),below_setRow br hle1 _⟩
        | succ f=>
          have hki:(k:Int)<(es.length:Int):=by omega
          have hkl:k<es.length:=by omega
          obtain ⟨ga,oa,rfl,hga,hca⟩:=hatm (by omega)
          obtain ⟨x,hx⟩ : ∃ x,es[k]?=some x:=⟨_,List.getElem?_eq_getElem hkl⟩
          have hxok:=heach x (List.mem_of_getElem? hx)
          have hxi:=hxok.id
          have hxr : ∀ W,Below N w6 W→W.rangeAt ga (oa+k*105) (ditC x):=fun W hW=>by
           rw [←hN] at hW hga
           exact rangeAt_below (hca k x hx) hga hW
          have hl1:=run_ldvI_at (dit_id (hxr wr hbel)) hxi
          have hin1:=hin wr hbel x.st.id hxi
          have hmore:(es.take (k+1)).filter (fun e => !inL gone e.st.id)=(es.take k).filter (fun e => !inL gone e.st.id)++(if inL gone x.st.id=false then [x] else []):=by
           rw [List.take_add_one,hx,List.filter_append]
           congr 1
           simp [List.filter_cons]
          have hacl:=len_filter_take (fun e => !inL gone e.st.id) es k
          obtain ⟨acc,hacc⟩ : ∃ acc,(es.take k).filter (fun e => !inL gone e.st.id)=acc:=⟨_,rfl⟩
          rw [hacc] at hoL hmore hacl
          generalize inL gone x.st.id=bi at *
          have hx105:(ditC x).toArray.size=105:=by rw [List.size_toArray,ditC_len hxok]
          have hx1:(ditC x).toArray.size=1*105:=hx105
          have hxone : ∀ u∈(ditC x).toArray.toList,u.oneCell'=true:=by rw [List.toList_toArray];exact ditC_one hxok
          have ft : ∀ (W:World),Below N w6 W→(ldvT ⟨ga,oa+k*105,none⟩).run Tryz.prog W = .ok (.agg (ditC x).toArray) W:=fun W hW=>run_loadVar_mid (P:=Tryz.prog) W ga (oa+k*105) 72 (ditC x) _ (hxr W hW) Tryz.underlying72 rfl (by rw [ditC_len hxok];exact szDit)
          clear hin heach hx hca hatm hxr hacc hDD
          obtain ⟨XC,hXC⟩ : ∃ XC,(ditC x).toArray=XC:=⟨_,rfl⟩
          rw [hXC] at hx105 hx1 hxone
          simp only [hXC] at ft
          replace hXC:=Lib.hid hXC
          cases bi with
          | true=>
            replace hmore:=Lib.hid (hmore.trans (List.append_nil _))
            clear ft
            go_wp2_with (first
             | ((with_reducible refine hin1.out.mono ?_);rintro e w8 ⟨rfl,hb8⟩))
            have hL8:=hL.below hb8 hL.lt
            have hoL8:=own_below hoL hb8
            have hb68:=hbel.trans (hb8.mono (Nat.le_of_lt hNr))
            clear hl1 hin1 hL hoL csr
            go_roundg f
            case rel=>exact ⟨k+1,vL,by go_num,by omega,hL8,by rw [hmore.out];exact hoL8,hb68⟩
            case measure=>omega
          | false=>
            replace hmore:=Lib.hid hmore
            go_upto_region 14 with (first
             | ((with_reducible refine hin1.out.mono ?_);rintro e w8 ⟨rfl,hb8⟩))
            have hL8:=hL.below hb8 hL.lt
            have hoL8:=own_below hoL hb8
            have hb68:=hbel.trans (hb8.mono (Nat.le_of_lt hNr))
            have hN8:N<w8.heap.size:=hL8.lt
            have hszN:=Nat.le_of_lt hN8
            have hs8:=hsr.below hb8 hsr.lt
            obtain ⟨AL,cL,rfl⟩:=own_form' hoL8
            have hpre:=preOk2 (i:=8) (j:=10) hoL8 hL8 (by decide)
            have hrB:=rows2 (i:=8) (j:=10) (p:=fun w=>World.ownsRow w N 72 105 (.slice AL acc.length cL) acc.length (rowsOf ditC acc)) (q:=fun w=>Blk w N 30 #[.slice AL acc.length cL]) (v := .slice AL acc.length cL) (fun k hk=>(World.ownsRow.lt hoL8 k hk).1) (Nat.le_refl N)
            have hAk:acc.length+1≤9223372036854775807:=by omega
            have hAb:(acc.length+1)*232≤140737488355328:=by omega
            have hwas : ∀ W,Blk W N 30 #[.slice AL acc.length cL]→W.cell? ⟨N,0,none⟩=some (.slice AL acc.length cL):=fun W h=>h.cell 0
            have hscell : ∀ W,Below N w8 W→W.cell? ⟨B5,0,none⟩=some (.slice (some ⟨ga,oa,none⟩) es.length cm):=fun W hW=>(Blk.below hs8 hW hB5N).cell 0
            clear hl1 hin1 hL hoL csr hsr hs8
            refine wp_region_goP 11 [(8,(Value.slice AL acc.length cL).ownBlock,fun w=>World.ownsRow w N 72 105 (.slice AL acc.length cL) acc.length (rowsOf ditC acc)),(10,some N,fun w=>Blk w N 30 #[.slice AL acc.length cL])] hpre (by kernel_rfl) (by kernel_rfl) (by kernel_rfl) (by kernel_rfl) ?_
            simp only [exSp]
            iterate 11 apply Exists.intro
            repeat
             first
              | ((with_reducible apply lx_ex)
                 ·(go_simp;done)
                 apply Exists.intro
                 apply And.intro
                 ·apply Eq.refl
                 apply And.intro
                 ·intro W hF hD
                  first
                   | (have hf:=(far_drew hF).below hszN hrB
                      have q0:=hscell W hf
                      have q1:=ft W (hb68.trans hf)
                      have q2:=hwas W (hD.was 1 rfl (by kernel_rfl))
                      go_simp
                      rfl)
                   | (have hf:=(far_drew hF).below hszN hrB
                      have q0:=hscell W hf
                      have q1:=ft W (hb68.trans hf)
                      go_simp
                      rfl)
                 simp only [Act.put,List.setIfInBounds_toArray,List.set_cons_zero,List.set_cons_succ])
              | ((with_reducible apply lx_pass)
                 ·(first | rfl | (go_simp;done))
                 ·apply Eq.refl
                 simp only [Act.put,List.setIfInBounds_toArray,List.set_cons_zero,List.set_cons_succ])
              | (first | (with_reducible apply lx_move') | (with_reducible apply lx_assign')
                 ·apply Eq.refl
                 apply Exists.intro
                 apply And.intro
                 ·(go_simp;rfl)
                 simp only [Act.put,List.setIfInBounds_toArray,List.set_cons_zero,List.set_cons_succ])
              | ((with_reducible apply lx_slice1 Tryz.ditTy (fun cs=>cs=XC) (by omega))
                 ·apply Eq.refl
                 apply Exists.intro
                 apply And.intro
                 ·(go_simp;rfl)
                 refine ⟨fun W hF hD=>?_,?_⟩
                 ·exact ⟨XC,rfl,hx105,rfl⟩
                 intro v
                 simp only [Act.put,List.setIfInBounds_toArray,List.set_cons_zero,List.set_cons_succ])
              | ((with_reducible apply lx_append1 Tryz.ditTy N (.slice AL acc.length cL) acc.length (rowsOf ditC acc) (fun xs=>xs=rowsOf ditC acc++XC.toList) hAk hAb)
                 ·exact hszN
                 ·first | exact List.Mem.head _ | exact List.Mem.tail _ (List.Mem.head _) | exact List.Mem.tail _ (List.Mem.tail _ (List.Mem.head _)) | exact List.Mem.tail _ (List.Mem.tail _ (List.Mem.tail _ (List.Mem.head _)))
                 ·apply Eq.refl
                 apply Exists.intro
                 apply Exists.intro
                 apply And.intro
                 ·(go_simp;rfl)
                 apply And.intro
                 ·(go_simp;rfl)
                 refine ⟨rfl,fun W hF hD=>?_,?_⟩
                 ·obtain ⟨F,g5,cs,rfl,_,hk5,rfl⟩:=hD.at 0 rfl (by kernel_rfl)
                  exact ⟨g5,_,rfl,hk5,hx105,hxone,rfl⟩
                 intro v
                 simp only [Act.put,List.setIfInBounds_toArray,List.set_cons_zero,List.set_cons_succ])
              | ((with_reducible apply lx_put N 0 #[.slice AL acc.length cL] 30)
                 ·exact (fun _=>by kernel_rfl)
                 ·exact (Nat.zero_lt_one)
                 ·first | exact List.Mem.head _ | exact List.Mem.tail _ (List.Mem.head _) | exact List.Mem.tail _ (List.Mem.tail _ (List.Mem.head _)) | exact List.Mem.tail _ (List.Mem.tail _ (List.Mem.tail _ (List.Mem.head _)))
                 ·apply Eq.refl
                 apply Exists.intro
                 apply Exists.intro
                 apply And.intro
                 ·(go_simp;rfl)
                 apply And.intro
                 ·(go_simp;rfl)
                 refine ⟨rfl,fun W hF hD=>?_,?_⟩
                 ·obtain ⟨F,xs,_,hv,_⟩:=hD.at 0 rfl (by kernel_rfl)
                  obtain ⟨A6,c6,rfl⟩:=own_form' hv
                  exact ⟨_,_,_,rfl⟩)
            refine lxP_nil ?_ fun w9 hF9 hD9=>?_
            ·exact List.nodup_nil
            obtain ⟨_,hg9,hb9⟩:=hD9 _ (.head _)
            obtain ⟨_,xs,rfl,hv9,_⟩:=hD9 _ (.tail _ (.head _))
            have hb69:=hb68.trans (hF9.below hszN hrB)
            clear hD9 hpre hrB hF9 ft hwas hscell hL8 hoL8
            have hkey : ∀ v,World.ownsRow w9 N 72 105 v (acc.length+1) (rowsOf ditC acc++XC.toList)→OwnDits w9 N v (acc++[x]):=fun v h=>by
             unfold OwnDits
             rw [List.length_append,rowsOf_append,rowsOf_one]
             rw [←hXC.out,List.toList_toArray] at h
             exact h
            have hoL9:=hkey _ hv9
            go_wp2_with (fail)
            go_roundg f
            case rel=>exact ⟨k+1,_,by go_num,by omega,hb9,by rw [hmore.out];exact hoL9,hb69⟩
            case measure=>omega
      ·obtain rfl:ids=[]:=List.length_eq_zero_iff.1 (by omega)
       have lS:=run_ldvS hb5
       have hnoR:=hD5.blk_ne r5 (by decide) (by decide) (by decide)
       clear hidc h0 hoi5 c15
       go_wp2_with (first
        | (refine wpList_store_row rfl 30 (.tmp 2) (.tmp 44) rfl W1.heap.size #[.slice Am es.length cm] rfl rfl _ _ r5 (hszS _) rfl hm2 ?_))
       refine bodyPost_ret (results_row_tmp rfl _ _ W1.heap.size _ _ _ _ rfl (setRow_heap _ _ _ _ _ _ r5) Tryz.underlying30 rfl (hszS _)) rfl ⟨hfin.out _ es _ _ rfl (hD5.row hnoR _) (by omega),below_setRow b5 hle1 _⟩
end Go.Proofs.YtfdfoplmijmnaaaGreatDoor
namespace Go.Proofs.YtfdfoplmijmnaaaGreatDoor
open Go.RowKit
def ldvH (p:Addr):Sem Value:=loadVar 25 p
theorem ldvH_eq (p:Addr):loadVar 25 p=ldvH p:=rfl
theorem run_ldvH {w:World} {g:Nat} {a b c d:Value} (h:Blk w g 25 #[a,b,c,d]):(ldvH ⟨g,0,none⟩).run Tryz.prog w = .ok (.agg #[a,b,c,d]) w:=run_loadVar_row w g _ _ _ _ _ h Tryz.underlying25 rfl (by kernel_rfl)
def ldvP (p:Addr):Sem Value:=loadVar 44 p
theorem ldvP_eq (p:Addr):loadVar 44 p=ldvP p:=rfl
theorem run_ldvP {w:World} {g:Nat} {a b c:Value} (h:Blk w g 44 #[a,b,c]):(ldvP ⟨g,0,none⟩).run Tryz.prog w = .ok (.agg #[a,b,c]) w:=run_loadVar_row w g _ _ _ _ _ h Tryz.underlying44 rfl (by kernel_rfl)
def ldvQ (p:Addr):Sem Value:=loadVar 41 p
theorem ldvQ_eq (p:Addr):loadVar 41 p=ldvQ p:=rfl
theorem run_ldvQ {w:World} {g:Nat} {a b c:Value} (h:Blk w g 41 #[a,b,c]):(ldvQ ⟨g,0,none⟩).run Tryz.prog w = .ok (.agg #[a,b,c]) w:=run_loadVar_row w g _ _ _ _ _ h Tryz.underlying41 rfl (by kernel_rfl)
attribute [local go_sem ↓] ldvI_eq ldvS_eq ldvH_eq ldvP_eq ldvQ_eq
theorem szP14 : (Tryz.prog.info? 44).map (·.size)=some 3:=by kernel_rfl
theorem szQ14 : (Tryz.prog.info? 41).map (·.size)=some 3:=by kernel_rfl
theorem built_q (Am Ar As:Option Addr) (nm nr ns cm cr cs:Nat):Tryz.prog.built 41 [(0, .agg #[.slice Am nm cm]),(1, .slice Ar nr cr),(2, .slice As ns cs)]=some #[.slice Am nm cm, .slice Ar nr cr, .slice As ns cs]:=by kernel_rfl
theorem zeroQ (w:World):(zeroValue 41).run Tryz.prog w = .ok (.agg #[.slice none 0 0, .slice none 0 0, .slice none 0 0]) w:=by
 have h:(Tryz.prog.info? 41).map (·.zero)=some (some (.agg #[.slice none 0 0, .slice none 0 0, .slice none 0 0])):=by kernel_rfl
 obtain ⟨i,h1,h2⟩:=Option.map_eq_some_iff.1 h
 simp [zeroValue,typeInfo,h1,h2]
/-- What Few tells, with one letter for whether it is gone through. -/
def Few12B (h:HisL) (e:Ending) (w':World):Prop := ∃ A n c b,e = .returned (.tuple #[.agg #[.slice A n c], .bool b])∧(b=true → ∃ es,FewH h∧DocSt w' (.slice A n c) es∧es.length≤24)
theorem Few12R.b {h:HisL} {w w':World} {e:Ending} (hr:Few12R h w e w'):Few12B h e w':=by
 rcases hr with rfl | ⟨vm,es,rfl,h1,h2,h3⟩
 ·exact ⟨none,0,0,false,rfl,fun h=>by cases h⟩
 ·obtain ⟨A,c,rfl⟩:=own_form' h2.own
  exact ⟨A,_,c,true,rfl,fun _=>⟨es,h1,h2,h3⟩⟩
set_option maxRecDepth 100000 in
set_option maxHeartbeats 8000000 in
theorem checkTells_calls (h:HisL) (vs vo vf vc:Value) (refs:List RefL) (hrok:RefsOk refs) (vr:Value) (sh:List Txt) (hsok : ∀ x∈sh,x.length=32) (vsh:Value) (w:World) (hK:TabK w) (hh:HisOk w vs vo vf vc h) (hvr:Refs w vr refs) (hvs:Ids w vsh sh) :
 Calls Tryz.prog 3 #[.agg #[vs,vo,vf,vc],vr,vsh] w fun e w'=>e = .returned (.bool true)∧Below w.heap.size w w':=by
 obtain ⟨W1,hW1⟩ : ∃ W1,w.alloc (.cells #[vs,vo,vf,vc] 25)=W1:=⟨_,rfl⟩
 have s1:Blk W1 w.heap.size 25 #[vs,vo,vf,vc]:=by rw [←hW1];exact Blk.new _ _ _
 have b1:Below w.heap.size w W1:=by rw [←hW1];exact (Below.refl _ _).alloc (Nat.le_refl _) _
 have hld:=fun W (hW:Below W1.heap.size W1 W)=>run_ldvH (s1.below hW s1.lt)
 have hld1:=hld W1 (Below.refl _ _)
 have c2 : ∀ W,Below W1.heap.size W1 W→W.cell? ⟨w.heap.size,2,none⟩=some vf:=fun W hW=>(s1.below hW s1.lt).cell 2
 have c3 : ∀ W,Below W1.heap.size W1 W→W.cell? ⟨w.heap.size,3,none⟩=some vc:=fun W hW=>(s1.below hW s1.lt).cell 3
 have hfew:=Lib.hid ((few12_calls h vs vo vf vc W1 (hh.below b1)).mono fun e w' (q:Few12R h W1 e w'∧Below W1.heap.size W1 w')=>(⟨q.1.b,q.2⟩:Few12B h e w'∧Below W1.heap.size W1 w'))
 have hkn:=fun W (hW:Below w.heap.size w W)=>Lib.hid (knows_calls14 W (hK.below hW))
 have hnm:=fun (hf:FewH h) W (hW:Below w.heap.size w W)=>Lib.hid (named_calls h hf vs vo vf vc W (hh.below hW))
 have hid:=fun (ids:List Txt) (hok : ∀ x∈ids,x.length=32) (hil:ids.length≤24) (v:Value) W (hW:Below w.heap.size w W) (hv:Ids W v ids) (l:Txt) (hl10:l.length≤10) (vl:Value) (hvl:SliceAt w 1 byC vl l)=>Lib.hid (ids12_calls ids hok (Nat.le_trans hil (by omega)) v W hv l (Nat.le_trans hl10 (by omega)) vl (hvl.below hW))
 have hcut:=hh.cut
 have hfrm:=hh.frm
 have hS1:(#[Value.slice none 0 0]:Array Value).all (·.oneCell')=true:=by kernel_rfl
 have hS0:(#[Value.slice none 0 0]:Array Value).size=1:=rfl
 have hvr0:=hvr
 have hvs0:=hvs
 obtain ⟨A,cap,rfl,hcap1,hcap2,hat⟩:=hvr
 obtain ⟨As,cs,rfl,hcs1,hcs2,_⟩:=hvs
 clear hh s1
 go_enter Tryz.func3,Tryz.ntmps3
 go_upto_region 2 with (first
  | ((with_reducible refine hfew.out.mono ?_);rintro e w2 ⟨⟨Am,nm,cm,b,rfl,hb⟩,hb2⟩
     have hm2:(#[Value.slice Am nm cm]:Array Value).all (·.oneCell')=true:=by simp [Value.oneCell']
     have hm1:(#[Value.slice Am nm cm]:Array Value).size=1:=rfl)
  | ((with_reducible refine lit_new 30 (.tmp 7) (.tmp 24) #[.slice Am nm cm] 1 szDSt hm1 hm2 _ ?_ ?_ ?_ ?_)
     ·first | exact hm1 | rfl
     ·rfl
     ·rfl
     intro W3 hb3 hbl3))
 have b13:=bthen hb2 hb2.size hbl3
 have b3:=bthen b1 b1.size b13
 have hkn3:=hkn W3 b3
 clear hfew hld1 hW1
 cases b with
 | false=>
   clear hb hkn hnm hid hld c2 c3 hat hvr0 hvs0
   go_wp2_with (first
    | ((with_reducible refine hkn3.out.mono ?_);rintro e w5 ⟨rfl,hb5⟩))
   go_ret
   exact ⟨rfl,bthen b3 b3.size hb5⟩
 | true=>
   obtain ⟨es,hFH,hD2,hel⟩:=hb rfl
   clear hb
   by_cases hr30:30<refs.length
   ·have hri:(30:Int)<(refs.length:Int):=by omega
    clear hkn hnm hid hld c2 c3 hat hvr0 hvs0
    go_wp2_with (first
     | ((with_reducible refine hkn3.out.mono ?_);rintro e w5 ⟨rfl,hb5⟩))
    go_ret
    exact ⟨rfl,bthen b3 b3.size hb5⟩
   ·have hri : ¬ (30:Int)<(refs.length:Int):=by omega
    by_cases hs30:30<sh.length
    ·have hsi:(30:Int)<(sh.length:Int):=by omega
     clear hkn hnm hid hld c2 c3 hat hvr0 hvs0
     go_wp2_with (first
      | ((with_reducible refine hkn3.out.mono ?_);rintro e w5 ⟨rfl,hb5⟩))
     go_ret
     exact ⟨rfl,bthen b3 b3.size hb5⟩
    ·have hsi : ¬ (30:Int)<(sh.length:Int):=by omega
     have hD3:=hD2.below hbl3
     go_wp2_with (fail)
     go_loopg [9] refs.length (fun f vi wr => ∃ k:Nat,vi = .int .i64 k∧k+f=refs.length∧Below W3.heap.size W3 wr)
     case atStart=>exact ⟨0,rfl,by omega,Below.refl _ _⟩
     case round=>
      clear hkn3
      obtain ⟨k,rfl,hkf,hbel⟩:=hrel
      have hbs:=hbel.size
      have hbr:=bthen b3 b3.size hbel
      have hknr:=hkn wr hbr
      cases gk with
      | succ f=>
        have hki:(k:Int)<(refs.length:Int):=by omega
        have hkl:k<refs.length:=by omega
        obtain ⟨gs,os,rfl,hgs,hcell⟩:=hat (by omega)
        obtain ⟨x,hx⟩ : ∃ x,refs[k]?=some x:=⟨_,List.getElem?_eq_getElem (by omega)⟩
        have hxok:RefOk x:=hrok x (List.mem_of_getElem? hx)
        have hnc:=range_name (rangeAt_below (hcell k x hx) hgs hbr)
        have hnl:=hxok.2
        clear hat hcell hx hkn hnm hid hld c2 c3 hvr0 hvs0
        by_cases h100:100<x.name.length
        ·have h1i:(100:Int)<(x.name.length:Int):=by omega
         go_wp2_with (first
          | ((with_reducible refine hknr.out.mono ?_);rintro e w5 ⟨rfl,hb5⟩))
         go_ret
         exact ⟨rfl,bthen hbr hbr.size hb5⟩
        ·have h1i : ¬ (100:Int)<(x.name.length:Int):=by omega
         clear hknr
         go_wp2_with (fail)
         go_roundg f
         case rel=>exact ⟨k+1,by go_num,by omega,hbel⟩
         case measure=>omega
      | zero=>
        have hki : ¬ (k:Int)<(refs.length:Int):=by omega
        clear hknr hat
        have hb1r:=bthen b13 b13.size hbel
        have hldr:=hld wr hb1r
        have hnmr:=hnm hFH wr hbr
        have hDr:=hD3.below hbel
        have hs3:=fun W (hW:Below wr.heap.size wr W)=>run_ldvS ((hb3.below hbel hb3.lt).below hW (hb3.below hbel hb3.lt).lt)
        have h10f:=hFH.2.2.1
        have h10c:=hFH.2.2.2
        obtain ⟨Af,cf,rfl,_⟩:=id hfrm
        obtain ⟨Ac,cc,rfl,_⟩:=id hcut
        clear hnm hld hb3
        go_upto_region 12 with (first
         | ((with_reducible refine hnmr.out.mono ?_);rintro e w5 ⟨⟨vi,ids,rfl,hoi,hiok,hil⟩,hb5⟩
            have b5:=bthen hbr hbr.size hb5
            have d2:=c2 w5 (bthen hb1r hb1r.size hb5)
            have hi5:=fun W (hW:Below w5.heap.size w5 W)=>(SliceAt.of_own (fun e h=>idC_len (hiok e h)) hoi).below hW
            have hid5:=hid ids hiok hil _ w5 b5 (hi5 w5 (Below.refl _ _)) h.frm h10f _ hfrm
            obtain ⟨Ai,ci,rfl⟩:=own_form' hoi)
         | ((with_reducible refine hid5.out.mono ?_);rintro e w6 ⟨⟨vfr,from_,rfl,hofr,hfok,hfl0⟩,hb6⟩
            have hfl10:from_.length≤10:=by omega
            clear hfl0
            have b6:=bthen b5 b5.size hb6
            have d3:=c3 w6 (bthen (bthen hb1r hb1r.size hb5) (bthen hb1r hb1r.size hb5).size hb6)
            have hid6:=hid ids hiok hil _ w6 b6 (hi5 w6 hb6) h.cut h10c _ hcut
            obtain ⟨Afr,cfr,rfl⟩:=own_form' hofr)
         | ((with_reducible refine hid6.out.mono ?_);rintro e w7 ⟨⟨vcu,cut,rfl,hocu,hcok,hcl0⟩,hb7⟩
            have hcl10:cut.length≤10:=by omega
            clear hcl0
            obtain ⟨Acu,ccu,rfl⟩:=own_form' hocu))
        have b7:=bthen b6 b6.size hb7
        have bw7:=bthen (bthen hb5 hb5.size hb6) (bthen hb5 hb5.size hb6).size hb7
        have lS:=fun W (hW:Below w7.heap.size w7 W)=>hs3 W (bthen bw7 bw7.size hW)
        have lS7:=lS w7 (Below.refl _ _)
        have hD7:=hDr.below bw7
        have hfrI:=SliceAt.of_own (fun e h=>idC_len (hfok e h)) (own_below hofr hb7)
        have hcuI:=SliceAt.of_own (fun e h=>idC_len (hcok e h)) hocu
        have hK7:=hK.below b7
        have hvr7:=hvr0.below b7
        have hvs7:=hvs0.below b7
        clear hs3 hDr hD3 hD2 hid hid5 hid6 hnmr hldr hi5 hoi hofr hocu hb5 hb6 hb7 hbr hbel b13 hbl3 hb2 c2 c3 d2 d3 hb1r hkn hcut hfrm hFH hK hvr0 hvs0 hiok
        have hbq:=built_q Am A As nm refs.length sh.length cm cap cs
        have hq1:(#[Value.slice Am nm cm, .slice A refs.length cap, .slice As sh.length cs]:Array Value).size=3:=rfl
        have hq2:(#[Value.slice Am nm cm, .slice A refs.length cap, .slice As sh.length cs]:Array Value).all (·.oneCell')=true:=by simp [Value.oneCell']
        have hof:=fun W (hW:Below w7.heap.size w7 W)=>Lib.hid (of14_calls (hD7.below hW) (by omega) (hK7.below hW) A As refs.length sh.length cap cs)
        have hsrt:=fun W (hW:Below w7.heap.size w7 W)=>sorted02_calls cut hcok (by omega) _ W (hcuI.below hW)
        go_upto_region 16 with (first
         | ((with_reducible refine lit_build3 hbq ?_ ?_ ?_ ?_);rfl;rfl;rfl)
         | ((with_reducible refine lit_new 41 (.tmp 13) (.tmp 66) #[Value.slice Am nm cm, .slice A refs.length cap, .slice As sh.length cs] 3 szQ14 hq1 hq2 _ ?_ ?_ ?_ ?_)
            ·first | exact hq1 | rfl
            ·rfl
            ·rfl
            intro W8 hb8 hbl8
            have lQ8:=run_ldvQ hb8
            have hof8:=hof W8 hbl8)
         | ((with_reducible refine hof8.out.mono ?_);rintro e w9 ⟨⟨base,p,vl,rfl,hS9⟩,hb9⟩
            have hp1:(#[Value.pointer (some ⟨p,0,none⟩), .slice A refs.length cap, .slice As sh.length cs]:Array Value).size=3:=rfl
            have hp2:(#[Value.pointer (some ⟨p,0,none⟩), .slice A refs.length cap, .slice As sh.length cs]:Array Value).all (·.oneCell')=true:=by simp [Value.oneCell'])
         | ((with_reducible refine lit_new 44 (.tmp 14) (.tmp 70) #[Value.pointer (some ⟨p,0,none⟩), .slice A refs.length cap, .slice As sh.length cs] 3 szP14 hp1 hp2 _ ?_ ?_ ?_ ?_)
            ·first | exact hp1 | rfl
            ·rfl
            ·rfl
            intro W10 hb10 hbl10))
        have b710:=bthen (bthen hbl8 hbl8.size hb9) (bthen hbl8 hbl8.size hb9).size hbl10
        have hQ10:=(hb8.below hb9 hb8.lt).below hbl10 (hb8.below hb9 hb8.lt).lt
        have hS10:=hS9.below hbl10
        have lS10:=fun W (hW:Below W10.heap.size W10 W)=>lS W (bthen b710 b710.size hW)
        have hsrt10:=fun W (hW:Below W10.heap.size W10 W)=>hsrt W (bthen b710 b710.size hW)
        clear hof8 lQ8 hS9 hb8 hb9 hbl8 hbl10 lS7 hsrt hbq hq1 hq2 hp1 hp2
        refine wp_region_go0 7 (by kernel_rfl) (by kernel_rfl) (by kernel_rfl) (by kernel_rfl) ?_
        simp only [exSp]
        iterate 7 apply Exists.intro
        repeat
         first
          | ((with_reducible apply lx0_ex)
             ·(go_simp;done)
             apply Exists.intro
             apply And.intro
             ·apply Eq.refl
             apply And.intro
             ·intro W hW hD
              have q0:=lS10 W hW
              go_simp
              rfl
             simp only [Act.put,List.setIfInBounds_toArray,List.set_cons_zero,List.set_cons_succ])
          | ((with_reducible apply lx0_pass)
             ·(first | rfl | (go_simp;done))
             ·apply Eq.refl
             simp only [Act.put,List.setIfInBounds_toArray,List.set_cons_zero,List.set_cons_succ])
          | ((with_reducible refine lx0_new (ownR W10.heap.size 35 32 (sortU cut).length (rowsOf idC (sortU cut))) rfl ?_ (ownR_stab _ _ _ _ _) ?_ ?_)
             ·(go_simp;done)
             ·intro W hW hD
              unfold doesAt Oper.wp execOp
              go_simp
              (with_reducible refine (hsrt10 W hW).mono ?_)
              rintro e w' ⟨v,rfl,ho,hb⟩
              exact ⟨hb,ownR_new hW.size ho⟩
             intro v
             simp only [Act.put,List.setIfInBounds_toArray,List.set_cons_zero,List.set_cons_succ])
          | (first | (with_reducible apply lx_move') | (with_reducible apply lx_assign')
             ·apply Eq.refl
             apply Exists.intro
             apply And.intro
             ·(go_simp;rfl)
             simp only [Act.put,List.setIfInBounds_toArray,List.set_cons_zero,List.set_cons_succ])
          | ((with_reducible refine lx_new (fun ρ v _ _=>aggR (fun cs=>cs = #[.slice Am nm cm, .slice A refs.length cap,ρ.getD 2 undef]) v) rfl ?_ (fun _=>stab_pure _) ?_ ?_)
             ·(go_simp;done)
             ·intro W hF hD
              obtain ⟨F1,o1,_⟩:=hD.at 0 rfl (by kernel_rfl)
              obtain ⟨As2,cs2,hv⟩:=own_form' o1
              exact does_build [(0, .agg #[.slice Am nm cm]),(1, .slice A refs.length cap),(2,v)] #[.slice Am nm cm, .slice A refs.length cap,v] (by rw [hv];exact built_q ..) (by simp [Act.eval]) ⟨Below.refl _ _,fun _ _ _ _=>⟨_,rfl,rfl⟩⟩
             intro v
             simp only [Act.put,List.setIfInBounds_toArray,List.set_cons_zero,List.set_cons_succ])
          | ((with_reducible apply lx_al 41 #[.slice none 0 0, .slice none 0 0, .slice none 0 0] zeroQ)
             ·apply Eq.refl
             intro v
             simp only [Act.put,List.setIfInBounds_toArray,List.set_cons_zero,List.set_cons_succ])
          | ((with_reducible apply lx_st' 5 41 #[.slice none 0 0, .slice none 0 0, .slice none 0 0] szQ14 (by kernel_rfl))
             ·exact rfl
             ·apply Eq.refl
             apply Exists.intro
             apply Exists.intro
             apply And.intro
             ·(go_simp;rfl)
             apply And.intro
             ·(go_simp;rfl)
             refine ⟨?_,fun W hW hD=>?_,?_⟩
             ·first | exact List.Mem.head _ | exact List.Mem.tail _ (List.Mem.head _) | exact List.Mem.tail _ (List.Mem.tail _ (List.Mem.head _)) | exact List.Mem.tail _ (List.Mem.tail _ (List.Mem.tail _ (List.Mem.head _)))
             ·obtain ⟨F,cs0,rfl,hcs0⟩:=hD.at 1 rfl (by kernel_rfl)
              obtain ⟨F1,o1,_⟩:=hD.at 2 rfl (by kernel_rfl)
              obtain ⟨As2,cs2,rfl⟩:=own_form' o1
              have hcs1:cs0 = #[Value.slice Am nm cm, .slice A refs.length cap, .slice As2 (sortU cut).length cs2]:=hcs0
              exact ⟨_,rfl,by rw [hcs1];rfl,by rw [hcs1];simp [Value.oneCell']⟩)
        refine lx0_nil ?_ fun w11 hW11 hD11=>?_
        ·exact (by simp [stsOf])
        obtain ⟨_,o11,_⟩:=hD11 _ (.tail _ (.tail _ (.tail _ (.head _))))
        obtain ⟨As2,cs2,rfl⟩:=own_form' o11
        obtain ⟨_,cs0,rfl,hcs0⟩:=hD11 _ (.tail _ (.tail _ (.head _)))
        have hcs1:cs0 = #[Value.slice Am nm cm, .slice A refs.length cap, .slice As2 (sortU cut).length cs2]:=hcs0
        obtain ⟨_,g16,cs16,rfl,hcs16,hg16,_,hQ11⟩:=hD11 _ (.head _)
        obtain rfl:cs0=cs16:=by injection hcs16
        subst hcs1
        clear hD11 hcs16 hcs0 hsrt10 lS10
        have b711:=bthen b710 b710.size hW11
        obtain ⟨SC,hSC⟩ : ∃ SC,sortU cut=SC:=⟨_,rfl⟩
        have hscok : ∀ x∈SC,x.length=32:=fun x hx=>hcok x (((sortU_law cut).2 x).1 (by rw [hSC];exact hx))
        have hscl:SC.length≤10:=by have:=sortU_len cut;rw [hSC] at this;omega
        rw [hSC] at o11 hQ11
        clear hSC
        have hof2:=Lib.hid (of14_calls (hD7.below b711) (by omega) (hK7.below b711) A As2 refs.length SC.length cap cs2)
        have lQ11:=run_ldvQ hQ11
        have hP10:=hb10
        have hSI:=SliceAt.of_own (fun e h=>idC_len (hscok e h)) o11
        have hpw10:w9.heap.size<W10.heap.size:=hb10.lt
        have hll:(es.map (·.st)).length=es.length:=List.length_map _
        clear hb10 hof
        go_upto_region 20 with (first
         | ((with_reducible refine hof2.out.mono ?_);rintro e w12 ⟨⟨base2,p2,vl2,rfl,hS12⟩,hb12⟩
            have hp3:(#[Value.pointer (some ⟨p2,0,none⟩), .slice A refs.length cap, .slice As2 SC.length cs2]:Array Value).size=3:=rfl
            have hp4:(#[Value.pointer (some ⟨p2,0,none⟩), .slice A refs.length cap, .slice As2 SC.length cs2]:Array Value).all (·.oneCell')=true:=by simp [Value.oneCell'])
         | ((with_reducible refine lit_new 44 (.tmp 17) (.tmp 82) #[Value.pointer (some ⟨p2,0,none⟩), .slice A refs.length cap, .slice As2 SC.length cs2] 3 szP14 hp3 hp4 _ ?_ ?_ ?_ ?_)
            ·first | exact hp3 | rfl
            ·rfl
            ·rfl
            intro W13 hb13 hbl13
            have b1113:=bthen hb12 hb12.size hbl13
            have b1013:=bthen hW11 hW11.size b1113
            have b713:=bthen b710 b710.size b1013
            have d14:=(hP10.below b1013 hP10.lt).cell 0
            have hcl13:=Lib.hid (chkClosed_calls (hS10.below b1013) from_ cut hfok hcok (by rw [hll];omega) (by omega) _ _ (hfrI.below b713) (hcuI.below b713)))
         | ((with_reducible refine hcl13.out.mono ?_);rintro e w14 ⟨⟨a,b,ha,hb,he⟩,hb14⟩
            obtain ⟨c,hc⟩ : ∃ c,closB (es.map (·.st)) cut a b=c:=⟨_,rfl⟩
            rw [hc] at he
            subst he
            replace hc:=Lib.hid hc
            have b714:=bthen b713 b713.size hb14
            have lS14:=lS w14 b714
            have hcd14:=Lib.hid (docClosed_calls (hD7.below b714) from_ cut hfok hcok (by omega) _ _ (hfrI.below b714) (hcuI.below b714)))
         | ((with_reducible refine hcd14.out.mono ?_);rintro e w15 ⟨⟨a2,b2,ha2,hb2,he⟩,hb15⟩
            obtain rfl:=ha2.one ha
            obtain rfl:=hb2.one hb
            rw [hc.out] at he
            subst he))
        have b715:=bthen b714 b714.size hb15
        have b1015:=bthen (bthen b1013 b1013.size hb14) (bthen b1013 b1013.size hb14).size hb15
        have b1115:=bthen (bthen b1113 b1113.size hb14) (bthen b1113 b1113.size hb14).size hb15
        have b1315:=bthen hb14 hb14.size hb15
        have b015:=bthen b7 b7.size b715
        have hP15:=hP10.below b1015 hP10.lt
        have hQ15:=hQ10.below b1015 hQ10.lt
        have hP2:=hb13.below b1315 hb13.lt
        have hQ2:=hQ11.below b1115 hQ11.lt
        have f1:=fun W (hW:Below w15.heap.size w15 W)=>run_ldvP (hP15.below hW hP15.lt)
        have f2:=fun W (hW:Below w15.heap.size w15 W)=>run_ldvQ (hQ15.below hW hQ15.lt)
        have f3:=fun W (hW:Below w15.heap.size w15 W)=>run_ldvP (hP2.below hW hP2.lt)
        have f4:=fun W (hW:Below w15.heap.size w15 W)=>run_ldvQ (hQ2.below hW hQ2.lt)
        have k0:=fun W (hW:Below w15.heap.size w15 W)=>knows_calls14 W (hK7.below (bthen b715 b715.size hW))
        have k1:=fun W (hW:Below w15.heap.size w15 W)=>chkWhole_calls (hS10.below (bthen b1015 b1015.size hW)) refs hrok sh hsok _ _ (hvr7.below (bthen b715 b715.size hW)) (hvs7.below (bthen b715 b715.size hW))
        have k2:=fun W (hW:Below w15.heap.size w15 W)=>docWhole_calls (hD7.below (bthen b715 b715.size hW)) refs hrok sh hsok _ _ (hvr7.below (bthen b715 b715.size hW)) (hvs7.below (bthen b715 b715.size hW))
        have hS15:=(hS12.below hbl13).below b1315
        have hSI15:=hSI.below b1115
        have k3':=fun W (hW:Below w15.heap.size w15 W)=>chkWhole_calls (hS15.below hW) refs hrok SC hscok _ _ (hvr7.below (bthen b715 b715.size hW)) (hSI15.below hW)
        have k4:=fun W (hW:Below w15.heap.size w15 W)=>docWhole_calls (hD7.below (bthen b715 b715.size hW)) refs hrok SC hscok _ _ (hvr7.below (bthen b715 b715.size hW)) (hSI15.below hW)
        clear hof2 lQ11 hcl13 hcd14 lS14 d14 lS hfrI hcuI hvr7 hvs7 hS10 hS12 hS15 hSI hSI15 hP10 hQ10 hP15 hQ15 hP2 hQ2 hQ11 hb13 hD7 hK7 o11 ha hb ha2 hb2 hc hbl13 hb12 hb14 hp3 hp4
        generalize wholeN (es.map (·.st)) refs sh=N1 at *
        generalize wholeN (es.map (·.st)) refs SC=N2 at *
        have hn1:(N1==N1)=true:=by simp
        have hn2:(N2==N2)=true:=by simp
        have hc1:closN true = .int .i64 0:=rfl
        have hc2:closN false = .int .i64 7:=rfl
        cases c with
        | true=>
          rw [hc1]
          refine wp_region_class (C:=fun W=>Below w15.heap.size w15 W) (by kernel_rfl) (by kernel_rfl) (Below.refl _ _).drew ?_
          repeat
           first
            | ((with_reducible refine wpQuiet_ex ?_ ?_)
               ·(go_simp;done)
               apply Exists.intro
               refine ⟨fun W hW=>?_,?_⟩
               ·first
                 | (have q1:=f1 W hW
                    have q2:=f2 W hW
                    have q3:=f3 W hW
                    have q4:=f4 W hW
                    have p0:=bel_keepG hW (k0 W hW)
                    have p1:=bel_keepG hW (k1 W hW)
                    have p2':=bel_keepG hW (k2 W hW)
                    have p3:=bel_keepG hW (k3' W hW)
                    have p4:=bel_keepG hW (k4 W hW)
                    go_simp
                    first
                     | rfl
                     | (with_reducible exact p0)
                     | (with_reducible exact p1)
                     | (with_reducible exact p2')
                     | (with_reducible exact p3)
                     | (with_reducible exact p4))
               simp only [Act.put,List.setIfInBounds_toArray,List.set_cons_zero,List.set_cons_succ])
            | ((with_reducible refine wpQuiet_pass ?_ ?_)
               ·(first | rfl | (go_simp;done))
               simp only [Act.put,List.setIfInBounds_toArray,List.set_cons_zero,List.set_cons_succ])
          with_reducible refine wpQuiet_nil ?_
          intro w16 hW16
          have b16:=bthen b015 b015.size hW16
          go_wp2_with (fail)
          go_ret
          exact ⟨rfl,b16⟩
        | false=>
          rw [hc2]
          refine wp_region_class (C:=fun W=>Below w15.heap.size w15 W) (by kernel_rfl) (by kernel_rfl) (Below.refl _ _).drew ?_
          repeat
           first
            | ((with_reducible refine wpQuiet_ex ?_ ?_)
               ·(go_simp;done)
               apply Exists.intro
               refine ⟨fun W hW=>?_,?_⟩
               ·first
                 | (have q1:=f1 W hW
                    have q2:=f2 W hW
                    have q3:=f3 W hW
                    have q4:=f4 W hW
                    have p0:=bel_keepG hW (k0 W hW)
                    have p1:=bel_keepG hW (k1 W hW)
                    have p2':=bel_keepG hW (k2 W hW)
                    have p3:=bel_keepG hW (k3' W hW)
                    have p4:=bel_keepG hW (k4 W hW)
                    go_simp
                    first
                     | rfl
                     | (with_reducible exact p0)
                     | (with_reducible exact p1)
                     | (with_reducible exact p2')
                     | (with_reducible exact p3)
                     | (with_reducible exact p4))
               simp only [Act.put,List.setIfInBounds_toArray,List.set_cons_zero,List.set_cons_succ])
            | ((with_reducible refine wpQuiet_pass ?_ ?_)
               ·(first | rfl | (go_simp;done))
               simp only [Act.put,List.setIfInBounds_toArray,List.set_cons_zero,List.set_cons_succ])
          with_reducible refine wpQuiet_nil ?_
          intro w16 hW16
          have b16:=bthen b015 b015.size hW16
          go_wp2_with (fail)
          go_ret
          exact ⟨rfl,b16⟩
end Go.Proofs.YtfdfoplmijmnaaaGreatDoor
namespace Go.Proofs.YtfdfoplmijmnaaaGreatDoor
open Go.ChangeShapes Go.WideShapes Go.ChangeAt Go.RowKit
section
variable {H:Type} {enc:TypeId×Value→H} {w:World} {base:Nat} {sp:Nat→Bool} {held:Bool}
theorem elem_gid (fuel:Nat) (cs:List Value) (x:DataW H×List MemPlace) (h:DataW.trod enc Tryz.prog w base sp held fuel 35 cs=some x) (_:cs.length=32) : ∃ r:Txt,cs=idC r∧r.length=32:=by
 obtain ⟨l,hl,hc⟩:=trod_bytes Tryz.underlying35 Tryz.underlying5 (by kernel_rfl) (by kernel_rfl) h
 exact ⟨l,by rw [hc];simp [idC,u8s],hl⟩
theorem open_ids {v:Value} {d:DataW H} {p:List MemPlace} (h:DataW.Trod enc Tryz.prog w base sp held 27 v d p) (hc:v.cells.toList=[v]) : ∃ l:List Txt,Ids w v l ∧ ∀ x∈l,x.length=32:=by
 obtain ⟨fuel,hf⟩:=h
 rw [hc] at hf
 exact open_elems idC 32 (by omega) (fun x=>x.length=32) Tryz.underlying27 (by kernel_rfl) (fun y hy=>idC_len hy) elem_gid hf
end
end Go.Proofs.YtfdfoplmijmnaaaGreatDoor
namespace Go.Proofs.YtfdfoplmijmnaaaGreatDoor
open Go.ChangeShapes Go.WideShapes Go.ChangeAt Go.RowKit
section
variable {H:Type} {enc:TypeId×Value→H} {w:World} {base:Nat} {sp:Nat→Bool} {held:Bool}
theorem elem_rf (fuel:Nat) (cs:List Value) (x:DataW H×List MemPlace) (h:DataW.trod enc Tryz.prog w base sp held fuel 37 cs=some x) (hl:cs.length=33) : ∃ r:RefL,cs=refC r∧RefOk r:=by
 obtain ⟨ys,n',hn',hy,hlen,hyl,hf⟩:=DataW.trod_struct Tryz.underlying37 h
 have hyl:ys.length=2:=hyl
 have h0:=hf 0 _ rfl
 have h1:=hf 1 _ rfl
 rw [List.getElem?_eq_getElem (show 0<ys.length by omega)] at h0
 rw [List.getElem?_eq_getElem (show 1<ys.length by omega)] at h1
 obtain ⟨s,e0,_,w0⟩:=DataW.trod_string Tryz.underlying9 h0
 obtain ⟨l,hl32,e1⟩:=trod_bytes Tryz.underlying35 Tryz.underlying5 (by kernel_rfl) (by kernel_rfl) h1
 have c0:Tryz.prog.cellsOf 9=1:=by kernel_rfl
 have c1:Tryz.prog.cellsOf 35=32:=by kernel_rfl
 obtain ⟨b,rfl⟩:=B_mk s
 refine ⟨⟨b,l⟩,?_,hl32,by unfold maxLen at w0;rw [size_B] at w0;show b.length≤_;omega⟩
 have e0':(cs.drop 0).take 1=[.string (B b)]:=by rw [←c0];exact e0
 have e1':(cs.drop 1).take 32=l.map u8v:=by rw [←c1];exact e1
 have hd:(cs.drop 1).take 32=cs.drop 1:=List.take_of_length_le (by simp;omega)
 rw [hd] at e1'
 rw [←List.take_append_drop 1 cs,e1']
 rw [List.drop_zero] at e0'
 rw [e0']
 rfl
theorem open_rf {v:Value} {d:DataW H} {p:List MemPlace} (h:DataW.Trod enc Tryz.prog w base sp held 26 v d p) (hc:v.cells.toList=[v]) : ∃ l:List RefL,Refs w v l∧RefsOk l:=by
 obtain ⟨fuel,hf⟩:=h
 rw [hc] at hf
 exact open_elems refC 33 (by omega) RefOk Tryz.underlying26 (by kernel_rfl) (fun y hy=>refC_len hy) elem_rf hf
end
end Go.Proofs.YtfdfoplmijmnaaaGreatDoor
namespace Go.Proofs.YtfdfoplmijmnaaaGreatDoor
open Go.ChangeShapes Go.WideShapes Go.ChangeAt Go.RowKit
theorem gTab : Tryz.prog.globalNamed "knapsack/sha256.constants" = some 0:=by kernel_rfl
theorem gTabType : (Tryz.prog.globals[0]?).map (·.type)=some 136:=by kernel_rfl
theorem cellsTab : Tryz.prog.cellsOf 136=64:=by kernel_rfl
theorem cellsU32 : Tryz.prog.cellsOf 68=1:=by kernel_rfl
theorem laid_is : (Rows.laid_knapsack_sha256_constants:DataW Unit)=Lib.tabData .u32 (K256.map fun n=>((n:Nat):Int)):=by kernel_rfl
theorem tabK_of {W:World} (h:laidMetH Tryz.prog [("knapsack/sha256.constants",Rows.laid_knapsack_sha256_constants)] W):TabK W:=by
 rw [laid_is] at h
 have ht:=Lib.tabIs_of_head (rest:=[]) gTab gTabType Tryz.underlying136 Tryz.underlying68 cellsU32 cellsTab h
 have hc (t:Nat) (h64:t<64):W.cell? ⟨0,t,none⟩=some (.int .u32 (K256.getD t 0:Nat)):=by
  rw [ht.cell gTab t (by rw [List.length_map,K256_length];exact h64)]
  have:t<K256.length:=by rw [K256_length];exact h64
  simp [List.getD,List.getElem?_map,List.getElem?_eq_getElem this]
 exact ⟨World.block_lt_of_cell? W _ (hc 0 (by omega)),hc⟩
/-- A world for the witness: the settled one, the table as its initialiser lays it. -/
noncomputable def laidWorld (os:Os):World:=
 { World.holding Tryz.prog os ⟨#[], #[],[]⟩ with heap:=(World.holding Tryz.prog os ⟨#[], #[],[]⟩).heap.modify 0 fun
  | .cells _ t frozen => .cells (u32s K256) t frozen
  | o=>o }
end Go.Proofs.YtfdfoplmijmnaaaGreatDoor
