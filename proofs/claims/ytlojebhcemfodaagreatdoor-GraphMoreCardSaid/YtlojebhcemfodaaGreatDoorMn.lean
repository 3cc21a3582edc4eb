/- Texts of this claim, laid together: HisF, HisB, WlkP, Wlk, MorP, Ris, Wit, GrfM, OpenU8, Tab. -/
import Derived.Test.YtlojebhcemfodaaGreatDoorMm
import Derived.Test.YtlojebhcemfodaaGreatDoorCards
import Derived.WalkKit
import Derived.ProofKit
import Derived.OpenShut
import Derived.Deep.DeepHandedRow
import Derived.Lib.LaidTab
namespace Go.Proofs.YtlojebhcemfodaaGreatDoor
open Go.RowKit
attribute [local go_sem ↓] ldvI_eq ldvS_eq ldvT_eq
theorem StoOk.sub {s s':List StL} (h:StoOk s) (hs:s'.Sublist s):StoOk s':=⟨fun x hx=>h.each x (hs.subset hx),h.sorted.sublist hs,Nat.le_trans hs.length_le h.few⟩
theorem DocSt.sub {w w':World} {vm v':Value} {es:List DiL} (h:DocSt w vm es) (p:DiL→Bool) (ho:OwnDits w' 0 v' (es.filter p)) (hs : ∀ k,DocUse vm es k→w'.heap[k]?=w.heap[k]?):DocSt w' v' (es.filter p):=
 ⟨ho,fun e he=>(h.same hs).each e (List.mem_filter.1 he).1,h.ok.sub ((List.filter_sublist).map _)⟩
/-- What Few tells. -/
def Few12R (h:HisL) (w:World) (e:Ending) (w':World):Prop:=(e = .returned (.tuple #[.agg #[.slice none 0 0], .bool false]))∨(∃ vm es,e = .returned (.tuple #[.agg #[vm], .bool true])∧FewH h∧DocSt w' vm es∧es.length≤24)
theorem len_filter_take {α:Type} (p:α→Bool) (l:List α) (k:Nat):((l.take k).filter p).length≤k:=Nat.le_trans (List.length_filter_le _ _) (by rw [List.length_take];exact Nat.min_le_left _ _)
set_option maxRecDepth 100000 in
set_option maxHeartbeats 8000000 in
theorem few12_calls (h:HisL) (vs vo vf vc:Value) (w:World) (hh:HisOk w vs vo vf vc h) :
 Calls Tryz.prog 6 #[.agg #[vs,vo,vf,vc]] w fun e w'=>Few12R h w e w'∧Below w.heap.size w w':=by
 obtain ⟨W1,hW1⟩ : ∃ W1,w.alloc (.cells #[vs,vo,vf,vc] 25)=W1:=⟨_,rfl⟩
 have s1:Blk W1 w.heap.size 25 #[vs,vo,vf,vc]:=by rw [←hW1];exact Blk.new _ _ _
 have b1:Below w.heap.size w W1:=by rw [←hW1];exact (Below.refl _ _).alloc (Nat.le_refl _) _
 obtain ⟨W2,hW2⟩ : ∃ W2,W1.alloc (.cells #[.slice none 0 0] 28)=W2:=⟨_,rfl⟩
 have r2:Blk W2 W1.heap.size 28 #[.slice none 0 0]:=by rw [←hW2];exact Blk.new _ _ _
 have bb2:Below W1.heap.size W1 W2:=by rw [←hW2];exact (Below.refl _ _).alloc (Nat.le_refl _) _
 have b2:=bthen b1 b1.size bb2
 have s2:=s1.below bb2 s1.lt
 have hle1:w.heap.size≤W1.heap.size:=b1.size
 have hlt1:W1.heap.size<W2.heap.size:=r2.lt
 have c0 : ∀ W,Below W2.heap.size W2 W→W.cell? ⟨w.heap.size,0,none⟩=some vs:=fun W hW=>(s2.below hW s2.lt).cell 0
 have c1 : ∀ W,Below W2.heap.size W2 W→W.cell? ⟨w.heap.size,1,none⟩=some vo:=fun W hW=>(s2.below hW s2.lt).cell 1
 have c2 : ∀ W,Below W2.heap.size W2 W→W.cell? ⟨w.heap.size,2,none⟩=some vf:=fun W hW=>(s2.below hW s2.lt).cell 2
 have c3 : ∀ W,Below W2.heap.size W2 W→W.cell? ⟨w.heap.size,3,none⟩=some vc:=fun W hW=>(s2.below hW s2.lt).cell 3
 have c02:=c0 W2 (Below.refl _ _)
 have hfw:Hid (Calls Tryz.prog 23 #[vs, .int .i64 24] W2 fun e w'=>FewB h.seeds 24 e∧Below W2.heap.size W2 w'):=Lib.hid (few_calls11 h.seeds 24 (by omega) vs W2 (hh.seeds.below b2))
 have hgr:=fun (h1:h.seeds.length≤24 ∧ ∀ x∈h.seeds,x.refs.length≤10∧x.text.length≤300) W (hW:Below w.heap.size w W)=>Lib.hid (grow_calls h.seeds (Nat.le_trans h1.1 (by omega)) h1.2 vs W (hh.seeds.below hW))
 have hid:=fun (ids:List Txt) (hok : ∀ x∈ids,x.length=32) (hil:ids.length≤1000) (v:Value) W (hW:Below w.heap.size w W) (hv:Ids W v ids) (ho10:h.out.length≤10)=>Lib.hid (ids12_calls ids hok hil v W hv h.out (by omega) vo (hh.out.below hW))
 have hbS:Tryz.prog.built 28 []=some #[.slice none 0 0]:=by kernel_rfl
 have hrb:=fun W=>run_build (P:=Tryz.prog) W _ _ _ hbS
 have hS0:(#[Value.slice none 0 0]:Array Value).size=1:=rfl
 have hS1:(#[Value.slice none 0 0]:Array Value).all (·.oneCell')=true:=by kernel_rfl
 have hszS : ∀ vm:Value,(Tryz.prog.info? 28).map (·.size)=some (#[vm]:Array Value).size:=fun vm=>szDSt
 obtain ⟨Ao,co,rfl,ho1,ho2,hato⟩:=hh.out
 obtain ⟨Af,cf,rfl,hf1,hf2,hatf⟩:=hh.frm
 obtain ⟨Ac,cc,rfl,hc1,hc2,hatc⟩:=hh.cut
 clear hh hato hatf hatc s1 s2
 obtain ⟨LO,hLO⟩ : ∃ LO,h.out.length=LO:=⟨_,rfl⟩
 obtain ⟨LF,hLF⟩ : ∃ LF,h.frm.length=LF:=⟨_,rfl⟩
 obtain ⟨LC,hLC⟩ : ∃ LC,h.cut.length=LC:=⟨_,rfl⟩
 rw [hLO] at ho1 hid
 rw [hLF] at hf1
 rw [hLC] at hc1
 simp only [hLO] at c1 hW1 ⊢
 simp only [hLF] at c2 hW1 ⊢
 simp only [hLC] at c3 hW1 ⊢
 go_enter Tryz.func6,Tryz.ntmps6
 go_upto_region 2 with (first
  | ((with_reducible refine hfw.out.mono ?_);rintro e w3 ⟨⟨b,rfl,hb⟩,hb3⟩))
 have b3:=bthen b2 b2.size hb3
 have r3:=r2.below hb3 r2.lt
 have d1:=c1 w3 hb3
 have d2:=c2 w3 hb3
 have d3:=c3 w3 hb3
 have d0:=c0 w3 hb3
 clear hfw c02 hW1 hW2
 cases b with
 | false=>
   clear hgr hid c0 c1 c2 c3 hb
   go_wp2_with (first
    | (refine wpList_store_row rfl 28 (.tmp 2) (.tmp 34) rfl W1.heap.size #[.slice none 0 0] rfl rfl _ _ r3 (hszS _) rfl hS1 ?_))
   refine bodyPost_ret (results_row_tmp rfl _ _ W1.heap.size _ _ _ _ rfl (setRow_heap _ _ _ _ _ _ r3) Tryz.underlying28 rfl (hszS _)) rfl ⟨.inl rfl,below_setRow b3 hle1 _⟩
 | true=>
   have hb:=hb rfl
   replace hgr:=hgr hb w3 b3
   by_cases hO:10<LO
   ·have hOi:(10:Int)<(LO:Int):=by omega
    clear hgr hid c0 c1 c2 c3 hb hLO hLF hLC
    go_wp2_with (first
     | (refine wpList_store_row rfl 28 (.tmp 2) (.tmp 34) rfl W1.heap.size #[.slice none 0 0] rfl rfl _ _ r3 (hszS _) rfl hS1 ?_))
    refine bodyPost_ret (results_row_tmp rfl _ _ W1.heap.size _ _ _ _ rfl (setRow_heap _ _ _ _ _ _ r3) Tryz.underlying28 rfl (hszS _)) rfl ⟨.inl rfl,below_setRow b3 hle1 _⟩
   ·have hOi : ¬ (10:Int)<(LO:Int):=by omega
    by_cases hF:10<LF
    ·have hFi:(10:Int)<(LF:Int):=by omega
     clear hgr hid c0 c1 c2 c3 hb hLO hLF hLC
     go_wp2_with (first
      | (refine wpList_store_row rfl 28 (.tmp 2) (.tmp 34) rfl W1.heap.size #[.slice none 0 0] rfl rfl _ _ r3 (hszS _) rfl hS1 ?_))
     refine bodyPost_ret (results_row_tmp rfl _ _ W1.heap.size _ _ _ _ rfl (setRow_heap _ _ _ _ _ _ r3) Tryz.underlying28 rfl (hszS _)) rfl ⟨.inl rfl,below_setRow b3 hle1 _⟩
    ·have hFi : ¬ (10:Int)<(LF:Int):=by omega
     by_cases hC:10<LC
     ·have hCi:(10:Int)<(LC:Int):=by omega
      clear hgr hid c0 c1 c2 c3 hb hLO hLF hLC
      go_wp2_with (first
       | (refine wpList_store_row rfl 28 (.tmp 2) (.tmp 34) rfl W1.heap.size #[.slice none 0 0] rfl rfl _ _ r3 (hszS _) rfl hS1 ?_))
      refine bodyPost_ret (results_row_tmp rfl _ _ W1.heap.size _ _ _ _ rfl (setRow_heap _ _ _ _ _ _ r3) Tryz.underlying28 rfl (hszS _)) rfl ⟨.inl rfl,below_setRow b3 hle1 _⟩
     ·have hCi : ¬ (10:Int)<(LC:Int):=by omega
      have hfin:Hid (∀ (vm:Value) (es:List DiL) (w':World) (e:Ending),e = .returned (.tuple #[.agg #[vm], .bool true])→DocSt w' vm es→es.length≤24→Few12R h w e w'):=Lib.hid fun vm es w' e he h1 h2 => .inr ⟨vm,es,he,⟨hb,by omega,by omega,by omega⟩,h1,h2⟩
      have hsl:=hb.1
      clear hb hLO hLF hLC c0 c2 c3
      go_upto_region 5 with (first
       | ((with_reducible refine hgr.out.mono ?_);rintro e w4 ⟨⟨vm,es,vi,ids,rfl,hD,hel,hoi,hil,hok,hap⟩,hb4⟩
          obtain ⟨Ai,ci,rfl⟩:=own_form' hoi
          obtain ⟨Am,cm,rfl⟩:=own_form' hD.own
          have hm2:(#[Value.slice Am es.length cm]:Array Value).all (·.oneCell')=true:=by simp [Value.oneCell']
          have hm1:(#[Value.slice Am es.length cm]:Array Value).size=1:=rfl)
       | ((with_reducible refine lit_new 28 (.tmp 5) (.tmp 39) #[.slice Am es.length cm] 1 szDSt hm1 hm2 _ ?_ ?_ ?_ ?_)
          ·first | exact hm1 | rfl
          ·rfl
          ·rfl
          intro W5 hb5 hbl5))
      have b4:=bthen b3 b3.size hb4
      have b5:=bthen b4 b4.size hbl5
      have r4:=r3.below hb4 r3.lt
      have r5:=r4.below hbl5 r4.lt
      have hoi5:=own_below hoi hbl5
      have hD5:=hD.below hbl5
      have c15:=c1 W5 (bthen hb3 hb3.size (bthen hb4 hb4.size hbl5))
      have hidc:=fun ho10=>hid ids hok (by omega) _ W5 b5 (SliceAt.of_own (fun e h=>idC_len (hok e h)) hoi5) ho10
      have hids0:Hid (ids.length=ids.length):=Lib.hid rfl
      clear hgr hid c1 d0 d1 d2 d3 r3 r4
      by_cases h0:0<ids.length
      ·have h0b:((ids.length:Int)==0)=false:=by rw [beq_eq_false_iff_ne];omega
       replace hidc:=Lib.hid (hidc (by omega)).out
       go_upto_region 9 with (first
        | ((with_reducible refine hidc.out.mono ?_);rintro e w6 ⟨⟨vg,gone,rfl,hog,hgk, -⟩,hb6⟩
           obtain ⟨Ag,cg,rfl⟩:=own_form' hog)
        | ((with_reducible refine lit_new 28 (.tmp 8) (.tmp 49) #[.slice none 0 0] 1 szDSt hS0 hS1 _ ?_ ?_ ?_ ?_)
           ·first | exact hS0 | rfl
           ·rfl
           ·rfl
           intro W7 hb7 hbl7))
       have hDD:=hD5.below hb6
       have hs6:=hb5.below hb6 hb5.lt
       have r6:=r5.below hb6 r5.lt
       have b6:=bthen b5 b5.size hb6
       have hN1:W1.heap.size<w6.heap.size:=r6.lt
       obtain ⟨N,hN⟩ : ∃ N,w6.heap.size=N:=⟨_,rfl⟩
       rw [hN] at hb7 hbl7 hN1
       have hgone:=SliceAt.of_own (fun e h=>idC_len (hgk e h)) hog
       have hin:=fun W (hW:Below N w6 W) (x:Txt) (hx:x.length=32)=>Lib.hid (in02_calls gone hgk _ x hx W (hgone.below (hN▸hW)))
       obtain ⟨B5,hB5⟩ : ∃ B5,w4.heap.size=B5:=⟨_,rfl⟩
       have hB5N:B5<N:=by rw [←hB5,←hN];exact hs6.lt
       rw [hB5] at hb5 hs6
       obtain ⟨A2,c2',hfe,hm3,hm4,hatm⟩:=hDD.at_
       injection hfe with e1 e2 e3
       subst e1 e3
       have heach:=hDD.each
       have hlen24:es.length≤24:=by omega
       have hL0:OwnDits W7 N (.slice none 0 0) ((es.take 0).filter fun e => !inL gone e.st.id):=by rw [List.take_zero];exact World.ownsRow_nil _ _ _ _
       rw [hN] at hatm
       go_wp2_with (fail)
       clear hog hidc hoi5 hD5 hoi hD r5 c15 hb5 hap b5 b4 hbl5
       go_loopg [9] es.length (fun f vi wr => ∃ (k:Nat) (vL:Value),vi = .int .i64 k∧k+f=es.length∧Blk wr N 28 #[vL]∧OwnDits wr N vL ((es.take k).filter fun e => !inL gone e.st.id)∧Below N w6 wr)
       case atStart=>exact ⟨0,_,rfl,by omega,hb7,hL0,hbl7⟩
       case round=>
        clear hL0 hb7 hbl7
        obtain ⟨k,vL,rfl,hkf,hL,hoL,hbel⟩:=hrel
        have hbel6:Below w6.heap.size w6 wr:=hN▸hbel
        have hsr:=hs6.below hbel6 hs6.lt
        have csr:=hsr.cell 0
        have hNr:N<wr.heap.size:=hL.lt
        cases gk with
        | zero=>
          have hki : ¬ (k:Int)<(es.length:Int):=by omega
          have hke:es.take k=es:=List.take_of_length_le (by omega)
          rw [hke] at hoL
          have hDr:=hDD.below hbel6
          have r7:=r6.below hbel6 r6.lt
          have lL:=run_ldvS hL
          have br:=bthen b6 b6.size hbel6
          have hnoR:=hDr.blk_ne r7 (by decide) (by decide) (by decide)
          have hne7:=own_blk_ne hoL r7 (by decide)
          obtain ⟨AL,cL,rfl⟩:=own_form' hoL
          have hLone:(#[Value.slice AL (es.filter fun e => !inL gone e.st.id).length cL]:Array Value).all (·.oneCell')=true:=by simp [Value.oneCell']
          clear hatm hin heach hke hL
          obtain ⟨fl,hfl⟩ : ∃ fl,(es.filter fun e => !inL gone e.st.id).length=fl:=⟨_,rfl⟩
          have hfl2:=Lib.hid hfl
          rw [hfl] at lL hLone hoL
          clear hfl
          go_wp2_with (first
           | (refine wpList_store_row rfl 28 (.tmp 2) (.tmp 77) rfl W1.heap.size #[.slice AL fl cL] rfl rfl _ _ r7 (hszS _) rfl hLone ?_))
          refine bodyPost_ret (results_row_tmp rfl _ _ W1.heap.size _ _ _ _ rfl (setRow_heap _ _ _ _ _ _ r7) Tryz.underlying28 rfl (hszS _)) rfl ⟨hfin.out _ (es.filter fun e => !inL gone e.st.id) _ _ rfl ((hDr.row hnoR _).sub _ (own_down (own_row hoL hN1 _) (Nat.zero_le _)) fun _ _=>rfl) (Nat.le_trans (List.length_filter_le _ _) hlen24),below_setRow br hle1 _⟩
        | succ f=>
          have hki:(k:Int)<(es.length:Int):=by omega
          have hkl:k<es.length:=by omega
          obtain ⟨ga,oa,rfl,hga,hca⟩:=hatm (by omega)
          obtain ⟨x,hx⟩ : ∃ x,es[k]?=some x:=⟨_,List.getElem?_eq_getElem hkl⟩
          have hxok:=heach x (List.mem_of_getElem? hx)
          have hxi:=hxok.id
          have hxr : ∀ W,Below N w6 W→W.rangeAt ga (oa+k*105) (ditC x):=fun W hW=>by
           rw [←hN] at hW hga
           exact rangeAt_below (hca k x hx) hga hW
          have hl1:=run_ldvI_at (dit_id (hxr wr hbel)) hxi
          have hin1:=hin wr hbel x.st.id hxi
          have hmore:(es.take (k+1)).filter (fun e => !inL gone e.st.id)=(es.take k).filter (fun e => !inL gone e.st.id)++(if inL gone x.st.id=false then [x] else []):=by
           rw [List.take_add_one,hx,List.filter_append]
           congr 1
           simp [List.filter_cons]
          have hacl:=len_filter_take (fun e => !inL gone e.st.id) es k
          obtain ⟨acc,hacc⟩ : ∃ acc,(es.take k).filter (fun e => !inL gone e.st.id)=acc:=⟨_,rfl⟩
          rw [hacc] at hoL hmore hacl
          generalize inL gone x.st.id=bi at *
          have hx105:(ditC x).toArray.size=105:=by rw [List.size_toArray,ditC_len hxok]
          have hx1:(ditC x).toArray.size=1*105:=hx105
          have hxone : ∀ u∈(ditC x).toArray.toList,u.oneCell'=true:=by rw [List.toList_toArray];exact ditC_one hxok
          have ft : ∀ (W:World),Below N w6 W→(ldvT ⟨ga,oa+k*105,none⟩).run Tryz.prog W = .ok (.agg (ditC x).toArray) W:=fun W hW=>run_loadVar_mid (P:=Tryz.prog) W ga (oa+k*105) 62 (ditC x) _ (hxr W hW) Tryz.underlying62 rfl (by rw [ditC_len hxok];exact szDit)
          clear hin heach hx hca hatm hxr hacc hDD
          obtain ⟨XC,hXC⟩ : ∃ XC,(ditC x).toArray=XC:=⟨_,rfl⟩
          rw [hXC] at hx105 hx1 hxone
          simp only [hXC] at ft
          replace hXC:=Lib.hid hXC
          cases bi with
          | true=>
            replace hmore:=Lib.hid (hmore.trans (List.append_nil _))
            clear ft
            go_wp2_with (first
             | ((with_reducible refine hin1.out.mono ?_);rintro e w8 ⟨rfl,hb8⟩))
            have hL8:=hL.below hb8 hL.lt
            have hoL8:=own_below hoL hb8
            have hb68:=hbel.trans (hb8.mono (Nat.le_of_lt hNr))
            clear hl1 hin1 hL hoL csr
            go_roundg f
            case rel=>exact ⟨k+1,vL,by go_num,by omega,hL8,by rw [hmore.out];exact hoL8,hb68⟩
            case measure=>omega
          | false=>
            replace hmore:=Lib.hid hmore
            go_upto_region 14 with (first
             | ((with_reducible refine hin1.out.mono ?_);rintro e w8 ⟨rfl,hb8⟩))
            have hL8:=hL.below hb8 hL.lt
            have hoL8:=own_below hoL hb8
            have hb68:=hbel.trans (hb8.mono (Nat.le_of_lt hNr))
            have hN8:N<w8.heap.size:=hL8.lt
            have hszN:=Nat.le_of_lt hN8
            have hs8:=hsr.below hb8 hsr.lt
            obtain ⟨AL,cL,rfl⟩:=own_form' hoL8
            have hpre:=preOk2 (i:=8) (j:=10) hoL8 hL8 (by decide)
            have hrB:=rows2 (i:=8) (j:=10) (p:=fun w=>World.ownsRow w N 62 105 (.slice AL acc.length cL) acc.length (rowsOf ditC acc)) (q:=fun w=>Blk w N 28 #[.slice AL acc.length cL]) (v := .slice AL acc.length cL) (fun k hk=>(World.ownsRow.lt hoL8 k hk).1) (Nat.le_refl N)
            have hAk:acc.length+1≤9223372036854775807:=by omega
            have hAb:(acc.length+1)*232≤140737488355328:=by omega
            have hwas : ∀ W,Blk W N 28 #[.slice AL acc.length cL]→W.cell? ⟨N,0,none⟩=some (.slice AL acc.length cL):=fun W h=>h.cell 0
            have hscell : ∀ W,Below N w8 W→W.cell? ⟨B5,0,none⟩=some (.slice (some ⟨ga,oa,none⟩) es.length cm):=fun W hW=>(Blk.below hs8 hW hB5N).cell 0
            clear hl1 hin1 hL hoL csr hsr hs8
            refine wp_region_goP 11 [(8,(Value.slice AL acc.length cL).ownBlock,fun w=>World.ownsRow w N 62 105 (.slice AL acc.length cL) acc.length (rowsOf ditC acc)),(10,some N,fun w=>Blk w N 28 #[.slice AL acc.length cL])] hpre (by kernel_rfl) (by kernel_rfl) (by kernel_rfl) (by kernel_rfl) ?_
            simp only [exSp]
            iterate 11 apply Exists.intro
            repeat
             first
              | ((with_reducible apply lx_ex)
                 ·(go_simp;done)
                 apply Exists.intro
                 apply And.intro
                 ·apply Eq.refl
                 apply And.intro
                 ·intro W hF hD
                  first
                   | (have hf:=(far_drew hF).below hszN hrB
                      have q0:=hscell W hf
                      have q1:=ft W (hb68.trans hf)
                      have q2:=hwas W (hD.was 1 rfl (by kernel_rfl))
                      go_simp
                      rfl)
                   | (have hf:=(far_drew hF).below hszN hrB
                      have q0:=hscell W hf
                      have q1:=ft W (hb68.trans hf)
                      go_simp
                      rfl)
                 simp only [Act.put,List.setIfInBounds_toArray,List.set_cons_zero,List.set_cons_succ])
              | ((with_reducible apply lx_pass)
                 ·(first | rfl | (go_simp;done))
                 ·apply Eq.refl
                 simp only [Act.put,List.setIfInBounds_toArray,List.set_cons_zero,List.set_cons_succ])
              | (first | (with_reducible apply lx_move') | (with_reducible apply lx_assign')
                 ·apply Eq.refl
                 apply Exists.intro
                 apply And.intro
                 ·(go_simp;rfl)
                 simp only [Act.put,List.setIfInBounds_toArray,List.set_cons_zero,List.set_cons_succ])
              | ((with_reducible apply lx_slice1 Tryz.ditTy (fun cs=>cs=XC) (by omega))
                 ·apply Eq.refl
                 apply Exists.intro
                 apply And.intro
                 ·(go_simp;rfl)
                 refine ⟨fun W hF hD=>?_,?_⟩
                 ·exact ⟨XC,rfl,hx105,rfl⟩
                 intro v
                 simp only [Act.put,List.setIfInBounds_toArray,List.set_cons_zero,List.set_cons_succ])
              | ((with_reducible apply lx_append1 Tryz.ditTy N (.slice AL acc.length cL) acc.length (rowsOf ditC acc) (fun xs=>xs=rowsOf ditC acc++XC.toList) hAk hAb)
                 ·exact hszN
                 ·first | exact List.Mem.head _ | exact List.Mem.tail _ (List.Mem.head _) | exact List.Mem.tail _ (List.Mem.tail _ (List.Mem.head _)) | exact List.Mem.tail _ (List.Mem.tail _ (List.Mem.tail _ (List.Mem.head _)))
                 ·apply Eq.refl
                 apply Exists.intro
                 apply Exists.intro
                 apply And.intro
                 ·(go_simp;rfl)
                 apply And.intro
                 ·(go_simp;rfl)
                 refine ⟨rfl,fun W hF hD=>?_,?_⟩
                 ·obtain ⟨F,g5,cs,rfl,_,hk5,rfl⟩:=hD.at 0 rfl (by kernel_rfl)
                  exact ⟨g5,_,rfl,hk5,hx105,hxone,rfl⟩
                 intro v
                 simp only [Act.put,List.setIfInBounds_toArray,List.set_cons_zero,List.set_cons_succ])
              | ((with_reducible apply lx_put N 0 #[.slice AL acc.length cL] 28)
                 ·exact (fun _=>by kernel_rfl)
                 ·exact (Nat.zero_lt_one)
                 ·first | exact List.Mem.head _ | exact List.Mem.tail _ (List.Mem.head _) | exact List.Mem.tail _ (List.Mem.tail _ (List.Mem.head _)) | exact List.Mem.tail _ (List.Mem.tail _ (List.Mem.tail _ (List.Mem.head _)))
                 ·apply Eq.refl
                 apply Exists.intro
                 apply Exists.intro
                 apply And.intro
                 ·(go_simp;rfl)
                 apply And.intro
                 ·(go_simp;rfl)
                 refine ⟨rfl,fun W hF hD=>?_,?_⟩
                 ·obtain ⟨F,xs,_,hv,_⟩:=hD.at 0 rfl (by kernel_rfl)
                  obtain ⟨A6,c6,rfl⟩:=own_form' hv
                  exact ⟨_,_,_,rfl⟩)
            refine lxP_nil ?_ fun w9 hF9 hD9=>?_
            ·exact List.nodup_nil
            obtain ⟨_,hg9,hb9⟩:=hD9 _ (.head _)
            obtain ⟨_,xs,rfl,hv9,_⟩:=hD9 _ (.tail _ (.head _))
            have hb69:=hb68.trans (hF9.below hszN hrB)
            clear hD9 hpre hrB hF9 ft hwas hscell hL8 hoL8
            have hkey : ∀ v,World.ownsRow w9 N 62 105 v (acc.length+1) (rowsOf ditC acc++XC.toList)→OwnDits w9 N v (acc++[x]):=fun v h=>by
             unfold OwnDits
             rw [List.length_append,rowsOf_append,rowsOf_one]
             rw [←hXC.out,List.toList_toArray] at h
             exact h
            have hoL9:=hkey _ hv9
            go_wp2_with (fail)
            go_roundg f
            case rel=>exact ⟨k+1,_,by go_num,by omega,hb9,by rw [hmore.out];exact hoL9,hb69⟩
            case measure=>omega
      ·obtain rfl:ids=[]:=List.length_eq_zero_iff.1 (by omega)
       have lS:=run_ldvS hb5
       have hnoR:=hD5.blk_ne r5 (by decide) (by decide) (by decide)
       clear hidc h0 hoi5 c15
       go_wp2_with (first
        | (refine wpList_store_row rfl 28 (.tmp 2) (.tmp 44) rfl W1.heap.size #[.slice Am es.length cm] rfl rfl _ _ r5 (hszS _) rfl hm2 ?_))
       refine bodyPost_ret (results_row_tmp rfl _ _ W1.heap.size _ _ _ _ rfl (setRow_heap _ _ _ _ _ _ r5) Tryz.underlying28 rfl (hszS _)) rfl ⟨hfin.out _ es _ _ rfl (hD5.row hnoR _) (by omega),below_setRow b5 hle1 _⟩
end Go.Proofs.YtlojebhcemfodaaGreatDoor
namespace Go.Proofs.YtlojebhcemfodaaGreatDoor
open Go.RowKit
def ldvH (p:Addr):Sem Value:=loadVar 25 p
theorem ldvH_eq (p:Addr):loadVar 25 p=ldvH p:=rfl
theorem run_ldvH {w:World} {g:Nat} {a b c d:Value} (h:Blk w g 25 #[a,b,c,d]):(ldvH ⟨g,0,none⟩).run Tryz.prog w = .ok (.agg #[a,b,c,d]) w:=run_loadVar_row w g _ _ _ _ _ h Tryz.underlying25 rfl (by kernel_rfl)
/-- What Few tells, with one letter for whether it is gone through. -/
def Few12B (h:HisL) (e:Ending) (w':World):Prop := ∃ A n c b,e = .returned (.tuple #[.agg #[.slice A n c], .bool b])∧(b=true → ∃ es,FewH h∧DocSt w' (.slice A n c) es∧es.length≤24)
theorem Few12R.b {h:HisL} {w w':World} {e:Ending} (hr:Few12R h w e w'):Few12B h e w':=by
 rcases hr with rfl | ⟨vm,es,rfl,h1,h2,h3⟩
 ·exact ⟨none,0,0,false,rfl,fun h=>by cases h⟩
 ·obtain ⟨A,c,rfl⟩:=own_form' h2.own
  exact ⟨A,_,c,true,rfl,fun _=>⟨es,h1,h2,h3⟩⟩
end Go.Proofs.YtlojebhcemfodaaGreatDoor
namespace Go.Proofs.YtlojebhcemfodaaGreatDoor
open Go.RowKit
section
variable {S:List StL} {cut cut' ini ini':List Txt}
theorem kind3_obj {x:Txt} (h:kindS S x=3) : ∃ o,objS S x=some o∧o.kind=3:=by
 unfold kindS at h
 unfold objS
 cases hg:getS S x with
 | none=>rw [hg] at h;simp at h
 | some s=>
   rw [hg] at h
   simp only at h ⊢
   cases hd:decO s.text with
   | none=>rw [hd] at h;simp at h
   | some o=>rw [hd] at h;exact ⟨o,rfl,h⟩
theorem link_next {o:ObjL} {x y:Txt} {l:LinkL} (ho:objS S x=some o) (hl:l∈linksL (cutO cut x o)) (he:l.id=y):y∈nextS S cut x:=by
 unfold nextS
 rw [ho]
 exact List.mem_map.2 ⟨l,hl,he⟩
theorem end_rch : ∀ (f:Nat) {x e:Txt},Rch S cut ini x→endS S f x=some e→Rch S cut ini e
 | 0,x,e,_,h=>by cases h
 | f+1,x,e,hx,h=>by
   unfold endS at h
   cases ho:objS S x with
   | none=>rw [ho] at h;cases h
   | some o=>
     rw [ho] at h
     simp only at h
     by_cases hk:o.kind=4
     ·rw [if_pos hk] at h
      refine end_rch f (hx.step (link_next ho (l:=⟨o.target,o.of_⟩) ?_ rfl)) h
      unfold cutO
      rw [if_neg (fun q=>by rw [hk] at q;exact absurd q.1 (by decide))]
      unfold linksL
      rw [if_neg (by rw [hk];decide),if_neg (by rw [hk];decide),if_pos hk]
      exact List.mem_singleton.2 rfl
     ·rw [if_neg hk] at h
      cases h
      exact hx
theorem par_next {x y:Txt} (hk:kindS S x=3) (hc:inL cut x=false) (hy:y∈parS S x):y∈nextS S cut x:=by
 obtain ⟨o,ho,h3⟩:=kind3_obj hk
 unfold parS at hy
 rw [ho] at hy
 refine link_next ho (l:=⟨y,3⟩) ?_ rfl
 unfold cutO
 rw [if_neg (fun q=>by rw [hc] at q;exact absurd q.2 (by decide))]
 unfold linksL
 rw [if_neg (by rw [h3];decide),if_pos h3]
 exact List.mem_cons_of_mem _ (List.mem_map.2 ⟨y,hy,rfl⟩)
theorem offerS_mem {seen:List Txt} {p x:Txt} (h:x∈offerS S seen p):x∈seen∨x=p:=by
 unfold offerS at h
 split at h
 ·rcases List.mem_append.1 h with h | h
  ·exact .inl h
  ·exact .inr (List.mem_singleton.1 h)
 ·exact .inl h
theorem ends_rch : ∀ (l:List Txt) {seen:List Txt},(∀ x∈l,Rch S cut ini x)→(∀ x∈seen,Rch S cut ini x) → ∀ x∈l.foldl (offerE S) seen,Rch S cut ini x
 | [],seen,_,hs=>hs
 | p::l,seen,hl,hs=>by
   refine ends_rch l (fun x hx=>hl x (List.mem_cons_of_mem _ hx)) fun x hx=>?_
   unfold offerE at hx
   cases he:endS S (S.length+1) p with
   | none=>rw [he] at hx;exact hs x hx
   | some e=>
     rw [he] at hx
     rcases offerS_mem hx with h | h
     ·exact hs x h
     ·rw [h]
      exact end_rch _ (hl p List.mem_cons_self) he
/-- What holds of what is seen, and told: reached; a child was told ahead. -/
structure WalkJ (S:List StL) (cut ini E seen out:List Txt):Prop where
 i:WalkI S seen out
 r : ∀ x∈seen,Rch S cut ini x
 s : ∀ x∈seen,x∈E ∨ ∃ y∈out,x∈parS S y
 o : ∀ (i:Nat) (x:Txt),out[i]?=some x→x∈E ∨ ∃ (k:Nat) (y:Txt),k<i∧out[k]?=some y∧x∈parS S y
theorem WalkJ.start : WalkJ S cut ini (endsL S ini) (endsL S ini) []:=⟨WalkI.start ini,ends_rch ini (fun x hx => .base hx) (fun x hx=>by simp at hx),fun x hx => .inl hx,fun i x hx=>by simp at hx⟩
theorem WalkJ.step {E seen out:List Txt} (h:WalkJ S cut ini E seen out) {n:Txt} (hn:n∈leftW seen out):WalkJ S cut ini E (if inL cut n=true then seen else offerL S seen (parS S n)) (out++[n]):=by
 have hns:=(mem_left.1 hn).1
 have hnew : ∀ x∈(if inL cut n=true then seen else offerL S seen (parS S n)),x∈seen∨(inL cut n=false∧x∈parS S n):=by
  intro x hx
  split at hx
  ·exact .inl hx
  ·rename_i hc
   rcases (offerL_law (S:=S) (parS S n) h.i.nd h.i.k3).2.2.2 x hx with h1 | h1
   ·exact .inl h1
   ·exact .inr ⟨by simpa using hc,h1⟩
 refine ⟨h.i.step hn,fun x hx=>?_,fun x hx=>?_,fun i x hx=>?_⟩
 ·rcases hnew x hx with h1 | ⟨hc,h1⟩
  ·exact h.r x h1
  ·exact (h.r n hns).step (par_next (h.i.k3 n hns) hc h1)
 ·rcases hnew x hx with h1 | ⟨_,h1⟩
  ·rcases h.s x h1 with h2 | ⟨y,hy,h2⟩
   ·exact .inl h2
   ·exact .inr ⟨y,List.mem_append_left _ hy,h2⟩
  ·exact .inr ⟨n,List.mem_append_right _ (List.mem_singleton.2 rfl),h1⟩
 ·by_cases hi:i<out.length
  ·rw [List.getElem?_append_left hi] at hx
   rcases h.o i x hx with h1 | ⟨k,y,hk,hy,h1⟩
   ·exact .inl h1
   ·exact .inr ⟨k,y,hk,by rw [List.getElem?_append_left (by omega)];exact hy,h1⟩
  ·have hil:i<(out++[n]).length:=(List.getElem?_eq_some_iff.1 hx).1
   have hie:i=out.length:=by rw [List.length_append,List.length_singleton] at hil;omega
   subst hie
   have hxn:x=n:=by simpa using hx.symm
   subst hxn
   rcases h.s x hns with h1 | ⟨y,hy,h1⟩
   ·exact .inl h1
   ·obtain ⟨k,hk,he⟩:=List.mem_iff_getElem.1 hy
    exact .inr ⟨k,y,hk,by rw [List.getElem?_append_left hk,List.getElem?_eq_getElem hk,he],h1⟩
theorem walkJ_end {E:List Txt} : ∀ (f:Nat) {seen out:List Txt},WalkJ S cut ini E seen out → ∃ seen',WalkJ S cut ini E seen' (walkW S cut f seen out)
 | 0,seen,out,h=>⟨seen,h⟩
 | f+1,seen,out,h=>by
   cases hb:bestT S seen out with
   | none=>rw [walk_stop hb];exact ⟨seen,h⟩
   | some n=>rw [walkW_go hb];exact walkJ_end f (h.step (best_some hb).1)
/-- What the walk tells. -/
structure WalkT (S:List StL) (cut ini l:List Txt):Prop where
 k3 : ∀ x∈l,kindS S x=3
 r : ∀ x∈l,Rch S cut ini x
 nd:l.Nodup
 o : ∀ (i:Nat) (x:Txt),l[i]?=some x→x∈endsL S ini ∨ ∃ (k:Nat) (y:Txt),k<i∧l[k]?=some y∧x∈parS S y
theorem walkS_law (S:List StL) (cut ini:List Txt):WalkT S cut ini (walkS S cut ini):=by
 obtain ⟨seen,h⟩:=walkJ_end (S.length+1) (WalkJ.start (S:=S) (cut:=cut) (ini:=ini))
 exact ⟨fun x hx=>h.i.k3 x (h.i.sub x hx),fun x hx=>h.r x (h.i.sub x hx),h.i.ndo,h.o⟩
theorem walkS_ok (hS:StoOk S) {x:Txt} (hx:x∈walkS S cut ini):x.length=32:=by
 obtain ⟨s,hs,he⟩:=List.mem_map.1 (kind3_mem ((walkS_law S cut ini).k3 x hx))
 rw [←he,(hS.each s hs).1]
 exact shaOf_length _
theorem walkS_len : (walkS S cut ini).length≤S.length:=by
 have h:=walkS_law S cut ini
 have:=nodup_len h.nd (m:=S.map StL.id) fun x hx=>kind3_mem (h.k3 x hx)
 rwa [List.length_map] at this
end
end Go.Proofs.YtlojebhcemfodaaGreatDoor
namespace Go.Proofs.YtlojebhcemfodaaGreatDoor
open Go.RowKit
attribute [local go_sem ↓] ldvI_eq ldvS_eq
section
variable {w:World} {vm:Value} {es:List DiL}
set_option maxRecDepth 100000 in
set_option maxHeartbeats 8000000 in
theorem docEnds_calls (h:DocSt w vm es) (ini:List Txt) (hiok : ∀ x∈ini,x.length=32) (hil:ini.length≤800000) (vf:Value) (hvf:Ids w vf ini) :
 Calls Tryz.prog 22 #[.agg #[vm],vf] w fun e w' => ∃ v,e = .returned v∧OwnIds w' w.heap.size v (endsL (es.map (·.st)) ini)∧(∀ x∈endsL (es.map (·.st)) ini,x.length=32)∧Below w.heap.size w w':=by
 obtain ⟨W1,hW1⟩ : ∃ W1,w.alloc (.cells #[vm] 28)=W1:=⟨_,rfl⟩
 have s1:Blk W1 w.heap.size 28 #[vm]:=by rw [←hW1];exact Blk.new _ _ _
 have b1:Below w.heap.size w W1:=by rw [←hW1];exact (Below.refl _ _).alloc (Nat.le_refl _) _
 have hsz1:=b1.size
 have l1:=fun W (hW:Below W1.heap.size W1 W)=>run_ldvS (s1.below hW s1.lt)
 have hen:=fun W (hW:Below w.heap.size w W) (n:Txt) (hn:n.length=32)=>docEnd_calls (h.below hW) n hn
 have hki:=fun W (hW:Below w.heap.size w W) (n:Txt) (hn:n.length=32)=>Lib.hid (docKind_calls (h.below hW) n hn)
 have hzi:=zeroIdV
 have hszI:(Tryz.prog.info? 42).map (·.size)=some (u8s noId).size:=by rw [u8s_size];exact sz32
 have hZ1:=u8s_one noId
 obtain ⟨S,hS⟩ : ∃ S,es.map (·.st)=S:=⟨_,rfl⟩
 have hel:es.length=S.length:=by rw [←hS,List.length_map]
 rw [hS] at hen hki ⊢
 rw [hel] at hen
 clear hel
 obtain ⟨R,hR⟩ : ∃ R,endsL S ini=R:=⟨_,rfl⟩
 rw [hR]
 replace hR:=Lib.hid hR
 obtain ⟨Af,cf,rfl,hf1,hf2,hatf⟩:=hvf
 obtain ⟨vms,hvms⟩ : ∃ vms:Array Value,vms = #[vm]:=⟨_,rfl⟩
 clear hS h s1 hvms
 go_enter Tryz.func22,Tryz.ntmps22
 go_wp2_with (fail)
 go_loopg [5,6] ini.length (fun f vo vi wr => ∃ (k:Nat) (acc:List Txt),vi = .int .i64 k∧k+f=ini.length∧OwnIds wr W1.heap.size vo acc∧(∀ x∈acc,x.length=32)∧Hid (acc=endsL S (ini.take k))∧acc.length≤k∧Below W1.heap.size W1 wr)
 case atStart=>exact ⟨0,[],rfl,by omega,World.ownsRow_nil _ _ _ _,fun x hx=>by simp at hx,Lib.hid rfl,by simp,Below.refl _ _⟩
 case round=>
  clear hW1
  obtain ⟨k,acc,rfl,hkf,hown,hok,hacc,hal,hbel⟩:=hrel
  have hbs:=hbel.size
  have hbr:=bthen b1 hsz1 hbel
  obtain ⟨Ao,co,rfl⟩:=own_form' hown
  cases gk with
  | zero=>
    have hki' : ¬ (k:Int)<(ini.length:Int):=by omega
    have hke:ini.take k=ini:=List.take_of_length_le (by omega)
    have hRa:acc=R:=by rw [hacc.out,hke];exact hR.out
    have HRa:=Lib.hid hRa
    clear hatf hacc hR hRa hen hki hke
    go_wp2_with (fail)
    go_ret
    rw [←HRa.out]
    exact ⟨_,rfl,own_low' hown hsz1,hok,hbr⟩
  | succ f=>
    have hki':(k:Int)<(ini.length:Int):=by omega
    obtain ⟨gf,of_,rfl,hgf,hcf⟩:=hatf (by omega)
    obtain ⟨x,hx⟩ : ∃ x,ini[k]?=some x:=⟨_,List.getElem?_eq_getElem (by omega)⟩
    have hxi:=hiok x (List.mem_of_getElem? hx)
    have hlx:=fun W (hW:Below wr.heap.size wr W)=>run_ldvI_at (show World.rangeAt W gf (of_+k*32) (u8s x).toList from rangeAt_below (hcf k x hx) hgf (bthen hbr hbr.size hW)) hxi
    have lSr:=fun W (hW:Below wr.heap.size wr W)=>l1 W (bthen hbel hbs hW)
    have hmore:Hid (endsL S (ini.take (k+1))=offerE S acc x):=Lib.hid (by rw [endsL_more hx,←hacc.out])
    have hen2:=fun W (hW:Below wr.heap.size wr W)=>hen W (bthen hbr hbr.size hW) x hxi
    clear hx hcf hatf l1 hen hacc
    unfold offerE at hmore
    cases hE:endS S (S.length+1) x with
    | none=>
      rw [hE] at hmore hen2
      have hen3 : ∀ W,Below wr.heap.size wr W→Calls Tryz.prog 15 #[.agg #[vm], .agg (u8s x)] W fun e w'=>e = .returned (.tuple #[.agg (u8s noId), .bool false])∧Below W.heap.size W w':=hen2
      have hin:=fun W (hv:Ids W (.slice Ao acc.length co) acc)=>Lib.hid (in02_calls acc hok _ noId (by rfl) W hv)
      have hldz : ∀ W g,Blk W g 42 (u8s noId)→(ldvI ⟨g,0,none⟩).run Tryz.prog W = .ok (.agg (u8s noId)) W:=fun W g h=>run_ldvI_at (range_blk h) rfl
      generalize inL acc noId=bi at *
      clear hE hen2 hki
      generalize u8s noId=Z at *
      go_upto_region 5 with (fail)
      refine wp_region_go0 12 (by kernel_rfl) (by kernel_rfl) (by kernel_rfl) (by kernel_rfl) ?_
      simp only [exSp]
      iterate 12 apply Exists.intro
      repeat
       first
        | ((with_reducible apply lx0_ex)
           ·(go_simp;done)
           apply Exists.intro
           apply And.intro
           ·apply Eq.refl
           apply And.intro
           ·intro W hW hD
            have q0:=lSr W hW
            have q1:=hlx W hW
            have q2:=hen3 W hW
            go_simp
            first
             | rfl
             | (with_reducible exact q2)
           simp only [Act.put,List.setIfInBounds_toArray,List.set_cons_zero,List.set_cons_succ])
        | ((with_reducible apply lx0_pass)
           ·(first | rfl | (go_simp;done))
           ·apply Eq.refl
           simp only [Act.put,List.setIfInBounds_toArray,List.set_cons_zero,List.set_cons_succ])
        | ((with_reducible apply lx_al 42 Z hzi)
           ·apply Eq.refl
           intro v
           simp only [Act.put,List.setIfInBounds_toArray,List.set_cons_zero,List.set_cons_succ])
        | ((with_reducible apply lx_st' 9 42 Z hszI (by kernel_rfl))
           ·exact rfl
           ·apply Eq.refl
           apply Exists.intro
           apply Exists.intro
           apply And.intro
           ·(go_simp;rfl)
           apply And.intro
           ·(go_simp;rfl)
           refine ⟨?_,fun W hW hD=>?_,?_⟩
           ·first | exact List.Mem.head _ | exact List.Mem.tail _ (List.Mem.head _) | exact List.Mem.tail _ (List.Mem.tail _ (List.Mem.head _)) | exact List.Mem.tail _ (List.Mem.tail _ (List.Mem.tail _ (List.Mem.head _)))
           ·exact ⟨Z,rfl,rfl,hZ1⟩)
      refine lx0_nil ?_ fun w5 hW5 hD5=>?_
      ·exact (by simp [stsOf])
      obtain ⟨_,g7,cs7,rfl,hcs7,hg7,_,hb7⟩:=hD5 _ (.head _)
      obtain rfl:Z=cs7:=by injection hcs7
      have hown5:=own_below hown hW5
      have lz5:=hldz w5 g7 hb7
      have hin5:=hin w5 (SliceAt.of_own (fun e h=>idC_len (hok e h)) hown5)
      have b5:=bthen hbel hbs hW5
      clear hD5 hcs7 hin hldz hen3 hlx
      go_wp2_with (first
       | ((with_reducible refine hin5.out.mono ?_);rintro e w6 ⟨rfl,hb6⟩))
      have hown6:=own_below hown5 hb6
      have b6:=bthen hbel hbs (bthen hW5 hW5.size hb6)
      go_roundg f
      case rel=>exact ⟨k+1,acc,by go_num,by omega,hown6,hok,Lib.hid hmore.out.symm,by omega,b6⟩
      case measure=>omega
    | some m=>
      rw [hE] at hmore hen2
      have hmi:=endS_ok _ _ _ hxi hE
      have hen3 : ∀ W,Below wr.heap.size wr W→Calls Tryz.prog 15 #[.agg #[vm], .agg (u8s x)] W fun e w'=>e = .returned (.tuple #[.agg (u8s m), .bool true])∧Below W.heap.size W w':=hen2
      have hin:=fun W (hv:Ids W (.slice Ao acc.length co) acc)=>Lib.hid (in02_calls acc hok _ m hmi W hv)
      have hldz : ∀ W g,Blk W g 42 (u8s m)→(ldvI ⟨g,0,none⟩).run Tryz.prog W = .ok (.agg (u8s m)) W:=fun W g h=>run_ldvI_at (range_blk h) hmi
      have hkm:=fun W (hW:Below wr.heap.size wr W)=>hki W (bthen hbr hbr.size hW) m hmi
      have hm32:(u8s m).size=32:=by rw [u8s_size,hmi]
      have hm132:(u8s m).size=1*32:=hm32
      have hm1:=u8s_one m
      have hm1l : ∀ u∈(u8s m).toList,u.oneCell'=true:=idC_one m
      have hmz:(u8s m).size=(u8s noId).size:=by rw [hm32,u8s_size];rfl
      have hAk:acc.length+1≤9223372036854775807:=by omega
      have hAb:(acc.length+1)*32≤140737488355328:=by omega
      have hlen2:Hid ((acc++[m]).length=acc.length+1):=Lib.hid (by rw [List.length_append];rfl)
      have hrow2:Hid (rowsOf idC (acc++[m])=rowsOf idC acc++(u8s m).toList):=Lib.hid (by rw [rowsOf_append,rowsOf_one];rfl)
      have hok2 : ∀ y∈acc++[m],y.length=32:=fun y hy=>(List.mem_append.1 hy).elim (hok y) fun e=>by rw [List.mem_singleton.1 e];exact hmi
      have hmo:Hid (endsL S (ini.take (k+1))=if (!inL acc m&&kindS S m==3)=true then acc++[m] else acc):=hmore
      generalize inL acc m=bi at *
      generalize kindS S m=K at *
      clear hE hen2 hki hmore
      generalize u8s noId=Z at *
      obtain ⟨M,hM⟩ : ∃ M,u8s m=M:=⟨_,rfl⟩
      rw [hM] at hen3 hin hldz hkm hm32 hm132 hm1 hm1l hmz hrow2
      clear hM
      go_upto_region 5 with (fail)
      refine wp_region_go0 12 (by kernel_rfl) (by kernel_rfl) (by kernel_rfl) (by kernel_rfl) ?_
      simp only [exSp]
      iterate 12 apply Exists.intro
      repeat
       first
        | ((with_reducible apply lx0_ex)
           ·(go_simp;done)
           apply Exists.intro
           apply And.intro
           ·apply Eq.refl
           apply And.intro
           ·intro W hW hD
            have q0:=lSr W hW
            have q1:=hlx W hW
            have q2:=hen3 W hW
            go_simp
            first
             | rfl
             | (with_reducible exact q2)
           simp only [Act.put,List.setIfInBounds_toArray,List.set_cons_zero,List.set_cons_succ])
        | ((with_reducible apply lx0_pass)
           ·(first | rfl | (go_simp;done))
           ·apply Eq.refl
           simp only [Act.put,List.setIfInBounds_toArray,List.set_cons_zero,List.set_cons_succ])
        | ((with_reducible apply lx_al 42 Z hzi)
           ·apply Eq.refl
           intro v
           simp only [Act.put,List.setIfInBounds_toArray,List.set_cons_zero,List.set_cons_succ])
        | ((with_reducible apply lx_st' 9 42 Z hszI (by kernel_rfl))
           ·exact rfl
           ·apply Eq.refl
           apply Exists.intro
           apply Exists.intro
           apply And.intro
           ·(go_simp;rfl)
           apply And.intro
           ·(go_simp;rfl)
           refine ⟨?_,fun W hW hD=>?_,?_⟩
           ·first | exact List.Mem.head _ | exact List.Mem.tail _ (List.Mem.head _) | exact List.Mem.tail _ (List.Mem.tail _ (List.Mem.head _)) | exact List.Mem.tail _ (List.Mem.tail _ (List.Mem.tail _ (List.Mem.head _)))
           ·exact ⟨M,rfl,hmz,hm1⟩)
      refine lx0_nil ?_ fun w5 hW5 hD5=>?_
      ·exact (by simp [stsOf])
      obtain ⟨_,g7,cs7,rfl,hcs7,hg7,_,hb7⟩:=hD5 _ (.head _)
      obtain rfl:M=cs7:=by injection hcs7
      have hown5:=own_below hown hW5
      have lz5:=hldz w5 g7 hb7
      have hin5:=hin w5 (SliceAt.of_own (fun e h=>idC_len (hok e h)) hown5)
      clear hD5 hcs7 hin hen3 hlx
      cases bi with
      | true=>
        have hmo2:Hid (acc=endsL S (ini.take (k+1))):=Lib.hid (by rw [hmo.out];rfl)
        clear hmo hkm hldz
        go_wp2_with (first
         | ((with_reducible refine hin5.out.mono ?_);rintro e w6 ⟨rfl,hb6⟩))
        have hown6:=own_below hown5 hb6
        have b6:=bthen hbel hbs (bthen hW5 hW5.size hb6)
        go_roundg f
        case rel=>exact ⟨k+1,acc,by go_num,by omega,hown6,hok,hmo2,by omega,b6⟩
        case measure=>omega
      | false=>
        by_cases hK:K=3
        ·have hKb:(K==3)=true:=by simp [hK]
         have hmo2:Hid (acc++[m]=endsL S (ini.take (k+1))):=Lib.hid (by rw [hmo.out,hKb];rfl)
         clear hmo hK
         go_wp2_with (first
          | ((with_reducible refine hin5.out.mono ?_);rintro e w6 ⟨rfl,hb6⟩
             have b56:=bthen hW5 hW5.size hb6
             have lS6:=lSr w6 b56
             have lz6:=hldz w6 g7 (hb7.below hb6 hb7.lt)
             have hk6:=hkm w6 b56)
          | ((with_reducible refine hk6.out.mono ?_);rintro e w7 ⟨rfl,hb7'⟩
             have b57:=bthen b56 b56.size hb7'
             have lz7:=hldz w7 g7 ((hb7.below hb6 hb7.lt).below hb7' (hb7.below hb6 hb7.lt).lt)
             have hown7:=own_below (own_below hown5 hb6) hb7'
             have hsz7:W1.heap.size≤w7.heap.size:=Nat.le_trans hbs b57.size)
          | ((with_reducible refine lit_slice1 (.tmp 40) Tryz.idsTy M hm32 (by omega) ?_ ?_);rfl)
          | ((with_reducible refine lit_append_new (.tmp 39) (.tmp 41) 1 _ Tryz.idsTy hown7 M hm132 hm1l hAk hAb hsz7 ?_ ?_ ?_);rfl;rfl
             intro v8 w8 ho8 hb8 hg8 hn8
             clear hg8 hn8))
         have ho9:OwnIds w8 W1.heap.size v8 (acc++[m]):=by unfold OwnIds;rw [hlen2.out,hrow2.out];exact ho8
         have b8:=(bthen hbel hbs b57).trans hb8
         clear ho8 hown7 hown5 hown hk6 hin5 lS6 lz6 lz7
         go_roundg f
         case rel=>exact ⟨k+1,acc++[m],by go_num,by omega,ho9,hok2,hmo2,by rw [hlen2.out];omega,b8⟩
         case measure=>omega
        ·have hKb:(K==3)=false:=by simp [hK]
         have hmo2:Hid (acc=endsL S (ini.take (k+1))):=Lib.hid (by rw [hmo.out,hKb];rfl)
         clear hmo hK
         go_wp2_with (first
          | ((with_reducible refine hin5.out.mono ?_);rintro e w6 ⟨rfl,hb6⟩
             have b56:=bthen hW5 hW5.size hb6
             have lS6:=lSr w6 b56
             have lz6:=hldz w6 g7 (hb7.below hb6 hb7.lt)
             have hk6:=hkm w6 b56)
          | ((with_reducible refine hk6.out.mono ?_);rintro e w7 ⟨rfl,hb7'⟩
             have b57:=bthen b56 b56.size hb7'))
         have hown7:=own_below (own_below hown5 hb6) hb7'
         have b7:=bthen hbel hbs b57
         go_roundg f
         case rel=>exact ⟨k+1,acc,by go_num,by omega,hown7,hok,hmo2,by omega,b7⟩
         case measure=>omega
end
end Go.Proofs.YtlojebhcemfodaaGreatDoor
namespace Go.Proofs.YtlojebhcemfodaaGreatDoor
open Go.RowKit
section
variable {S:List StL} {cut cut' ini ini':List Txt}
theorem linksL_cut {n:Txt} {o:ObjL} {l:LinkL} (h:l∈linksL (cutO cut n o)):l∈linksL o:=by
 unfold cutO at h
 split at h
 ·rename_i hc
  unfold linksL at h ⊢
  rw [if_neg (by simp [hc.1]),if_pos hc.1] at h ⊢
  rcases List.mem_cons.1 h with h | h
  ·rw [h];exact List.mem_cons_self
  ·simp at h
 ·exact h
theorem next_none {x y:Txt} (h:y∈nextS S cut x):y∈nextS S [] x:=by
 unfold nextS nextO at h
 cases ho:objS S x with
 | none=>rw [ho] at h;simp at h
 | some o=>
   rw [ho] at h
   obtain ⟨l,hl,he⟩:=List.mem_map.1 h
   refine link_next ho (l:=l) ?_ he
   unfold cutO
   rw [if_neg (fun q=>by have:=q.2;simp [inL] at this)]
   exact linksL_cut hl
theorem Rch.uncut {x:Txt} (h:Rch S cut ini x):Rch S [] ini x:=fun P h1 h2=>h P h1 fun y z hy hz=>h2 y z hy (next_none hz)
theorem Rch.from_ {x:Txt} (h:Rch S cut ini x) (hs : ∀ y∈ini,Rch S cut ini' y):Rch S cut ini' x:=h _ hs fun _ _ hy hz=>hy.step hz
theorem Rch.wide {x:Txt} (h:Rch S cut ini x) (hs : ∀ y∈ini,y∈ini'):Rch S cut ini' x:=h.from_ fun y hy => .base (hs y hy)
theorem more_from {b:Bool} {l m:List Txt} (hl:RchIs S cut ini b l) (hs : ∀ y∈ini,y∈ini') (hm:RchIs S cut ini' b m) : ∀ x∈l,x∈m:=fun x hx=>(hm.mem x).2 ⟨((hl.mem x).1 hx).1.wide hs,((hl.mem x).1 hx).2⟩
theorem more_uncut {b:Bool} {l m:List Txt} (hl:RchIs S cut ini b l) (hm:RchIs S [] ini b m) : ∀ x∈l,x∈m:=fun x hx=>(hm.mem x).2 ⟨((hl.mem x).1 hx).1.uncut,((hl.mem x).1 hx).2⟩
theorem rch_closed {a b g:List Txt} (ha:RchIs S cut ini true a) (hb:RchIs S cut ini false b) (hg:RchIs S cut (a++b) true g):g=a:=by
 refine rise_one hg.rise ha.rise fun x=>?_
 rw [hg.mem,ha.mem]
 have key : ∀ y,Rch S cut (a++b) y↔Rch S cut ini y:=fun y=>by
  constructor
  ·intro h
   exact h.from_ fun z hz=>(List.mem_append.1 hz).elim (fun h=>((ha.mem z).1 h).1) fun h=>((hb.mem z).1 h).1
  ·intro h
   refine h.from_ fun z hz => .base (List.mem_append.2 ?_)
   cases hi:isS S z with
   | true=>exact .inl ((ha.mem z).2 ⟨.base hz,hi⟩)
   | false=>exact .inr ((hb.mem z).2 ⟨.base hz,hi⟩)
 rw [key]
theorem kind3_is {x:Txt} (h:kindS S x=3):isS S x=true:=by
 obtain ⟨o,ho,_⟩:=kind3_obj h
 unfold isS
 rw [ho];rfl
theorem walk_sub {a:List Txt} (ha:RchIs S cut ini true a) : ∀ x∈walkS S cut ini,x∈a:=fun x hx=>(ha.mem x).2 ⟨(walkS_law S cut ini).r x hx,kind3_is ((walkS_law S cut ini).k3 x hx)⟩
/-- No id was walked ahead. -/
theorem walk_new {i:Nat} {x:Txt} (hx:(walkS S cut ini)[i]?=some x):inL ((walkS S cut ini).take i) x=false:=by
 cases h:inL ((walkS S cut ini).take i) x with
 | false=>rfl
 | true=>
   have hnd:=(walkS_law S cut ini).nd
   generalize walkS S cut ini=l at *
   obtain ⟨hi,he⟩:=List.getElem?_eq_some_iff.1 hx
   obtain ⟨j,hj,hje⟩:=List.mem_iff_getElem.1 (inL_iff.1 h)
   rw [List.length_take] at hj
   rw [List.getElem_take] at hje
   have:=(List.getElem_inj (h₀:=by omega) (h₁:=hi) hnd).1 (hje.trans he.symm)
   omega
/-- Is an id a parent of one of these? -/
def kidsB (S:List StL) (l:List Txt) (x:Txt):Bool:=l.any fun y=>inL (parS S y) x
theorem kidsB_more {l:List Txt} {k:Nat} {y x:Txt} (h:l[k]?=some y):kidsB S (l.take (k+1)) x=(kidsB S (l.take k) x||inL (parS S y) x):=by
 unfold kidsB
 rw [List.take_add_one,h,List.any_append]
 simp
theorem walk_kid {i:Nat} {x:Txt} (hx:(walkS S cut ini)[i]?=some x):(!kidsB S ((walkS S cut ini).take i) x && !inL (endsL S ini) x)=false:=by
 rcases (walkS_law S cut ini).o i x hx with h | ⟨k,y,hk,hy,h⟩
 ·rw [inL_iff.2 h];simp
 ·have:kidsB S ((walkS S cut ini).take i) x=true:=by
   unfold kidsB
   rw [List.any_eq_true]
   refine ⟨y,?_,inL_iff.2 h⟩
   obtain ⟨h1,h2⟩:=List.getElem?_eq_some_iff.1 hy
   exact List.mem_iff_getElem.2 ⟨k,by rw [List.length_take];omega,by rw [List.getElem_take];exact h2⟩
  rw [this];simp
end
end Go.Proofs.YtlojebhcemfodaaGreatDoor
namespace Go.Proofs.YtlojebhcemfodaaGreatDoor
open Go.RowKit
attribute [local go_sem ↓] ldvI_eq ldvS_eq
/-- Do ids rise, one by one? -/
def riseB : List Txt→Bool
 | a::b::l=>Op.bytesLess a b&&riseB (b::l)
 | _=>true
theorem riseB_drop {l:List Txt} {i:Nat} {x y:Txt} (hx:l[i]?=some x) (hy:l[i+1]?=some y):riseB (l.drop i)=(Op.bytesLess x y&&riseB (l.drop (i+1))):=by
 obtain ⟨h1,h2⟩:=List.getElem?_eq_some_iff.1 hx
 obtain ⟨h3,h4⟩:=List.getElem?_eq_some_iff.1 hy
 rw [List.drop_eq_getElem_cons h1,List.drop_eq_getElem_cons h3,h2,h4]
 rfl
theorem riseB_end {l:List Txt} {i:Nat} (h:l.length≤i+1):riseB (l.drop i)=true:=by
 have:(l.drop i).length≤1:=by rw [List.length_drop];omega
 match h2:l.drop i,this with
 | [],_=>rfl
 | [a],_=>rfl
 | a::b::l,h=>simp at h
theorem riseB_iff : ∀ {l:List Txt},riseB l=true↔RiseL l
 | []=>by simp [riseB,RiseL]
 | [a]=>by simp [riseB,RiseL]
 | a::b::l=>by
   unfold riseB
   rw [Bool.and_eq_true,riseB_iff (l:=b::l)]
   constructor
   ·rintro ⟨h1,h2⟩
    refine List.pairwise_cons.2 ⟨fun z hz=>?_,h2⟩
    rcases List.mem_cons.1 hz with rfl | hz
    ·exact h1
    ·exact less_trans h1 ((List.pairwise_cons.1 h2).1 z hz)
   ·intro h
    obtain ⟨h1,h2⟩:=List.pairwise_cons.1 h
    exact ⟨h1 b (by simp),h2⟩
set_option maxRecDepth 100000 in
set_option maxHeartbeats 4000000 in
theorem rise02_calls (l:List Txt) (hok : ∀ x∈l,x.length=32) (v:Value) (w:World) (hv:Ids w v l) :
 Calls Tryz.prog 19 #[v] w fun e w'=>e = .returned (.bool (riseB l))∧Below w.heap.size w w':=by
 obtain ⟨R,hR⟩ : ∃ R,riseB l=R:=⟨_,rfl⟩
 rw [hR]
 have hR0:Hid (riseB (l.drop 0)=R):=Lib.hid hR
 obtain ⟨A,cap,rfl,hcap1,hcap2,hat⟩:=hv
 clear hR
 go_enter Tryz.func19,Tryz.ntmps19
 go_wp2_with (fail)
 go_loopg [3] (l.length-1) (fun f vi wr => ∃ k:Nat,vi = .int .i64 (k+1:Nat)∧k+f=l.length-1∧Hid (riseB (l.drop k)=R)∧Below w.heap.size w wr)
 case atStart=>exact ⟨0,rfl,by omega,hR0,Below.refl _ _⟩
 case round=>
  clear hR0
  obtain ⟨k,rfl,hkf,hrel,hbel⟩:=hrel
  have hbs:=hbel.size
  obtain ⟨K,hK⟩ : ∃ K,k+1=K:=⟨_,rfl⟩
  rw [hK]
  cases gk with
  | zero=>
    have hki : ¬ (K:Int)<(l.length:Int):=by omega
    obtain rfl:true=R:=by rw [←hrel.out,riseB_end (by omega)]
    clear hat hK
    go_wp2_with (fail)
    go_ret
    exact ⟨rfl,hbel⟩
  | succ f=>
    have hki:(K:Int)<(l.length:Int):=by omega
    obtain ⟨ga,oa,rfl,hga,hca⟩:=hat (by omega)
    obtain ⟨x,hx⟩ : ∃ x,l[k]?=some x:=⟨_,List.getElem?_eq_getElem (by omega)⟩
    obtain ⟨y,hy⟩ : ∃ y,l[k+1]?=some y:=⟨_,List.getElem?_eq_getElem (by omega)⟩
    have hxi:=hok x (List.mem_of_getElem? hx)
    have hyi:=hok y (List.mem_of_getElem? hy)
    have hrel2:=hrel.out
    rw [riseB_drop hx hy] at hrel2
    replace hrel2:=Lib.hid hrel2
    have hw1:IntKind.i64.wrap ((K:Int)-1)=(k:Int):=by rw [←hK];rw [IntWalk.i64_in _ (by omega)];omega
    have hlx : ∀ W,Below wr.heap.size wr W→(ldvI ⟨ga,oa+k*32,none⟩).run Tryz.prog W = .ok (.agg (u8s x)) W:=fun W hW=>run_ldvI_at (show World.rangeAt W ga (oa+k*32) (u8s x).toList from rangeAt_below (hca k x hx) hga (bthen hbel hbs hW)) hxi
    have hly : ∀ W,Below wr.heap.size wr W→(ldvI ⟨ga,oa+K*32,none⟩).run Tryz.prog W = .ok (.agg (u8s y)) W:=fun W hW=>by rw [←hK];exact run_ldvI_at (show World.rangeAt W ga (oa+(k+1)*32) (u8s y).toList from rangeAt_below (hca (k+1) y hy) hga (bthen hbel hbs hW)) hyi
    have hls:=fun W=>refLess_calls x y hxi hyi W
    have hkb1:k<l.length:=by omega
    have hkb2:K<l.length:=by omega
    have hkb3:(k:Int)<(l.length:Int):=by omega
    generalize Op.bytesLess x y=ob at *
    clear hat hca hx hy hrel
    go_upto_region 4 with (fail)
    refine wp_region_class (C:=fun W=>Below wr.heap.size wr W) (by kernel_rfl) (by kernel_rfl) (Below.refl _ _).drew ?_
    repeat
     first
      | ((with_reducible refine wpQuiet_ex ?_ ?_)
         ·(go_simp;done)
         apply Exists.intro
         refine ⟨fun W hW=>?_,?_⟩
         ·first
           | (have q0:=hlx W hW
              have q1:=hly W hW
              have q2:=bel_keepG hW (hls W)
              go_simp
              first
               | rfl
               | (with_reducible exact q2))
         simp only [Act.put,List.setIfInBounds_toArray,List.set_cons_zero,List.set_cons_succ])
      | ((with_reducible refine wpQuiet_pass ?_ ?_)
         ·(first | rfl | (go_simp;done))
         simp only [Act.put,List.setIfInBounds_toArray,List.set_cons_zero,List.set_cons_succ])
    with_reducible refine wpQuiet_nil ?_
    intro w8 hW8
    have b8:=bthen hbel hbs hW8
    clear hlx hly hls
    cases ob with
    | true=>
      have hrel4:Hid (riseB (l.drop (k+1))=R):=Lib.hid (by have h:=hrel2.out;rw [Bool.true_and] at h;exact h)
      rw [hK] at hrel4
      clear hrel2 hw1
      go_wp2_with (fail)
      go_roundg f
      case rel=>exact ⟨K,by go_num,by omega,hrel4,b8⟩
      case measure=>omega
    | false=>
      obtain rfl:false=R:=by have h:=hrel2.out;rw [Bool.false_and] at h;exact h
      clear hrel2 hw1
      go_wp2_with (fail)
      go_ret
      exact ⟨rfl,b8⟩
end Go.Proofs.YtlojebhcemfodaaGreatDoor
namespace Go.Proofs.YtlojebhcemfodaaGreatDoor
open Go.RowKit
attribute [local go_sem ↓] ldvI_eq ldvS_eq
set_option maxRecDepth 100000 in
set_option maxHeartbeats 4000000 in
theorem within_calls (la lb:List Txt) (haok : ∀ x∈la,x.length=32) (hbok : ∀ x∈lb,x.length=32) (hsub : ∀ x∈la,x∈lb) (va vb:Value) (w:World) (ha:Ids w va la) (hb:Ids w vb lb) :
 Calls Tryz.prog 18 #[va,vb] w fun e w'=>e = .returned (.bool true)∧Below w.heap.size w w':=by
 have hin:=fun (x:Txt) (hx:x.length=32) W (hW:Below w.heap.size w W)=>Lib.hid (in02_calls lb hbok vb x hx W (hb.below hW))
 obtain ⟨A,cap,rfl,hcap1,hcap2,hat⟩:=ha
 obtain ⟨Ab,capb,rfl,_⟩:=hb
 go_enter Tryz.func18,Tryz.ntmps18
 go_wp2_with (fail)
 go_loopg [5] la.length (fun f vi wr => ∃ k:Nat,vi = .int .i64 k∧k+f=la.length∧Below w.heap.size w wr)
 case atStart=>exact ⟨0,rfl,by omega,Below.refl _ _⟩
 case round=>
  obtain ⟨k,rfl,hkf,hbel⟩:=hrel
  have hbs:=hbel.size
  cases gk with
  | zero=>
    have hki : ¬ (k:Int)<(la.length:Int):=by omega
    clear hat hin
    go_wp2_with (fail)
    go_ret
    exact ⟨rfl,hbel⟩
  | succ f=>
    have hki:(k:Int)<(la.length:Int):=by omega
    obtain ⟨ga,oa,rfl,hga,hca⟩:=hat (by omega)
    obtain ⟨x,hx⟩ : ∃ x,la[k]?=some x:=⟨_,List.getElem?_eq_getElem (by omega)⟩
    have hxm:=List.mem_of_getElem? hx
    have hxi:=haok x hxm
    have hlx:=run_ldvI_at (show World.rangeAt wr ga (oa+k*32) (u8s x).toList from rangeAt_below (hca k x hx) hga hbel) hxi
    have hin1:=hin x hxi wr hbel
    rw [inL_iff.2 (hsub x hxm)] at hin1
    clear hx hca hat hin hxm
    go_wp2_with (first
     | ((with_reducible refine hin1.out.mono ?_);rintro e w2 ⟨rfl,hb2⟩))
    have b2:=bthen hbel hbs hb2
    go_roundg f
    case rel=>exact ⟨k+1,by go_num,by omega,b2⟩
    case measure=>omega
end Go.Proofs.YtlojebhcemfodaaGreatDoor
namespace Go.Proofs.YtlojebhcemfodaaGreatDoor
open Go.RowKit
attribute [local go_sem ↓] ldvI_eq ldvS_eq ldvH_eq
/-- What the document's Object tells: its parents. -/
def ObjQ (S:List StL) (n:Txt) (e:Ending) (w:World):Prop := ∃ X vp,e = .returned (.agg X)∧X.size=72∧X.all (·.oneCell')=true∧X[35]?=some vp∧Ids w vp (parS S n)
theorem docObjQ_calls {w w0:World} {vm:Value} {es:List DiL} (h:DocSt w0 vm es) (hb:Below w0.heap.size w0 w) (n:Txt) (hn:n.length=32):Calls Tryz.prog 21 #[.agg #[vm], .agg (u8s n)] w fun e w'=>ObjQ (es.map (·.st)) n e w0∧Below w.heap.size w w':=by
 refine (docObjectW_calls h hb n hn).mono fun e w' ⟨q1,q2⟩=>⟨?_,q2⟩
 unfold ObjG at q1
 unfold ObjQ
 cases hG:getS (es.map (·.st)) n with
 | none=>
   rw [hG] at q1
   have hp:parS (es.map (·.st)) n=[]:=by unfold parS;rw [objS_none hG]
   rw [hp]
   exact ⟨zObj, .slice none 0 0,q1,zObj_size,zObj_one,by kernel_rfl,SliceAt.nil⟩
 | some x=>
   rw [hG] at q1
   obtain ⟨o,A1,A2,k1,k2,hd,rfl,hv⟩:=q1
   have ho:=objS_some hG hd
   have hp:parS (es.map (·.st)) n=o.pars:=by unfold parS;rw [ho]
   refine ⟨_, .slice A2 o.pars.length k2,rfl,by rw [List.size_toArray,objC_len hv.ok],objC_all o A1 A2 _ k1 _ k2,?_,?_⟩
   ·rw [List.getElem?_toArray];exact (objC_at hv.ok.tree _ _).1
   ·rw [hp];exact hv.pars
theorem ids_take {w:World} {A:Option Addr} {n cap:Nat} {l:List Txt} (h:Ids w (.slice A n cap) l) {m:Nat} (hm:m≤l.length):Ids w (.slice A m cap) (l.take m):=by
 obtain ⟨A',cap',he,h1,h2,h3⟩:=h
 injection he with e1 e2 e3
 subst e1
 subst e3
 refine ⟨_,_,by rw [List.length_take,Nat.min_eq_left hm],by rw [List.length_take];omega,h2,fun h0=>?_⟩
 rw [List.length_take] at h0
 obtain ⟨g,o,h4,h5,h6⟩:=h3 (by omega)
 refine ⟨g,o,h4,h5,fun i x hx=>h6 i x ?_⟩
 rw [List.getElem?_take] at hx
 split at hx
 ·exact hx
 ·cases hx
theorem ids_ok7 {S:List StL} {x:Txt} (hS:StoOk S) (h:x∈S.map StL.id):x.length=32:=by
 obtain ⟨s,hs,he⟩:=List.mem_map.1 h
 rw [←he,(hS.each s hs).1]
 exact shaOf_length _
theorem par_ok {S:List StL} (y:Txt) : ∀ x∈parS S y,x.length=32:=fun x hx=>by
 unfold parS at hx
 cases ho:objS S y with
 | none=>rw [ho] at hx;simp at hx
 | some o=>rw [ho] at hx;exact (objS_sound ho).1.pars x hx
def parF (w0:World) (S:List StL) (n:Txt) (v:Value) (_:Foot) (_:World):Prop := ∃ X vp,v = .agg X∧X.size=72∧X.all (·.oneCell')=true∧X[35]?=some vp∧Ids w0 vp (parS S n)
theorem parF_stab (w0:World) (S:List StL) (n:Txt) (v:Value):Stab (parF w0 S n v):=fun _ _ _ _ _ _ h=>h
set_option maxRecDepth 100000 in
set_option maxHeartbeats 8000000 in
theorem graphMore_calls (h:HisL) (vs vo vf vc:Value) (more:Txt) (vm1:Value) (w:World) (hK:TabK w) (hh:HisOk w vs vo vf vc h) (hvm:SliceAt w 1 byC vm1 more) :
 Calls Tryz.prog 5 #[.agg #[vs,vo,vf,vc],vm1] w fun e w'=>e = .returned (.bool true)∧Below w.heap.size w w':=by
 obtain ⟨W1,hW1⟩ : ∃ W1,w.alloc (.cells #[vs,vo,vf,vc] 25)=W1:=⟨_,rfl⟩
 have s1:Blk W1 w.heap.size 25 #[vs,vo,vf,vc]:=by rw [←hW1];exact Blk.new _ _ _
 have b1:Below w.heap.size w W1:=by rw [←hW1];exact (Below.refl _ _).alloc (Nat.le_refl _) _
 have hld:=fun W (hW:Below W1.heap.size W1 W)=>run_ldvH (s1.below hW s1.lt)
 have hld1:=hld W1 (Below.refl _ _)
 have c2 : ∀ W,Below W1.heap.size W1 W→W.cell? ⟨w.heap.size,2,none⟩=some vf:=fun W hW=>(s1.below hW s1.lt).cell 2
 have c3 : ∀ W,Below W1.heap.size W1 W→W.cell? ⟨w.heap.size,3,none⟩=some vc:=fun W hW=>(s1.below hW s1.lt).cell 3
 have hfew:=Lib.hid ((few12_calls h vs vo vf vc W1 (hh.below b1)).mono fun e w' (q:Few12R h W1 e w'∧Below W1.heap.size W1 w')=>(⟨q.1.b,q.2⟩:Few12B h e w'∧Below W1.heap.size W1 w'))
 have hkn:=fun W (hW:Below w.heap.size w W)=>Lib.hid (knows_calls12 W (hK.below hW))
 have hnm:=fun (hf:FewH h) W (hW:Below w.heap.size w W)=>Lib.hid (named_calls h hf vs vo vf vc W (hh.below hW))
 have hid:=fun (ids:List Txt) (hok : ∀ x∈ids,x.length=32) (hil:ids.length≤24) (v:Value) W (hW:Below w.heap.size w W) (hv:Ids W v ids) (l:Txt) (hl10:l.length≤10) (vl:Value) (hvl:SliceAt w 1 byC vl l)=>Lib.hid (ids12_calls ids hok (Nat.le_trans hil (by omega)) v W hv l (Nat.le_trans hl10 (by omega)) vl (hvl.below hW))
 have hcut:=hh.cut
 have hfrm:=hh.frm
 have hvm0:=hvm
 obtain ⟨Amr,cmr,rfl,hmr1,hmr2, -⟩:=hvm
 clear hh s1
 go_enter Tryz.func5,Tryz.ntmps5
 go_upto_region 2 with (first
  | ((with_reducible refine hfew.out.mono ?_);rintro e w2 ⟨⟨Am,nm,cm,b,rfl,hb⟩,hb2⟩
     have hm2:(#[Value.slice Am nm cm]:Array Value).all (·.oneCell')=true:=by simp [Value.oneCell']
     have hm1:(#[Value.slice Am nm cm]:Array Value).size=1:=rfl)
  | ((with_reducible refine lit_new 28 (.tmp 5) (.tmp 32) #[.slice Am nm cm] 1 szDSt hm1 hm2 _ ?_ ?_ ?_ ?_)
     ·first | exact hm1 | rfl
     ·rfl
     ·rfl
     intro W3 hb3 hbl3))
 have b13:=bthen hb2 hb2.size hbl3
 have b3:=bthen b1 b1.size b13
 have hkn3:=hkn W3 b3
 clear hfew hld1 hW1
 cases b with
 | false=>
   clear hb hkn hnm hid hld c2 c3
   go_wp2_with (first
    | ((with_reducible refine hkn3.out.mono ?_);rintro e w5 ⟨rfl,hb5⟩))
   go_ret
   exact ⟨rfl,bthen b3 b3.size hb5⟩
 | true=>
   obtain ⟨es,hFH,hD2,hel⟩:=hb rfl
   clear hb
   by_cases hm10:10<more.length
   ·have hmi:(10:Int)<(more.length:Int):=by omega
    clear hkn hnm hid hld c2 c3
    go_wp2_with (first
     | ((with_reducible refine hkn3.out.mono ?_);rintro e w5 ⟨rfl,hb5⟩))
    go_ret
    exact ⟨rfl,bthen b3 b3.size hb5⟩
   ·have hmi : ¬ (10:Int)<(more.length:Int):=by omega
    have hD3:=hD2.below hbl3
    have hs3:=fun W (hW:Below W3.heap.size W3 W)=>run_ldvS (hb3.below hW hb3.lt)
    have hs33:=hs3 W3 (Below.refl _ _)
    have h10f:=hFH.2.2.1
    have h10c:=hFH.2.2.2
    have hof3:=Lib.hid (of_calls11 hD3 (by omega) (hK.below b3))
    obtain ⟨Af,cf,rfl,_⟩:=id hfrm
    obtain ⟨Ac,cc,rfl,_⟩:=id hcut
    clear hkn3
    go_upto_region 10 with (first
     | ((with_reducible refine hof3.out.mono ?_);rintro e w4 ⟨⟨p,vl,rfl,hp4,hS4⟩,hb4⟩
        have b4:=bthen b3 b3.size hb4
        have b14:=bthen b13 b13.size hb4
        have hld4:=hld w4 b14
        have hnm4:=hnm hFH w4 b4)
     | ((with_reducible refine hnm4.out.mono ?_);rintro e w5 ⟨⟨vi,ids,rfl,hoi,hiok,hil⟩,hb5⟩
        have b5:=bthen b4 b4.size hb5
        have b15:=bthen b14 b14.size hb5
        have d2:=c2 w5 b15
        have hi5:=fun W (hW:Below w5.heap.size w5 W)=>(SliceAt.of_own (fun e h=>idC_len (hiok e h)) hoi).below hW
        have hid5:=hid ids hiok hil _ w5 b5 (hi5 w5 (Below.refl _ _)) h.frm h10f _ hfrm
        obtain ⟨Ai,ci,rfl⟩:=own_form' hoi)
     | ((with_reducible refine hid5.out.mono ?_);rintro e w6 ⟨⟨vfr,from_,rfl,hofr,hfok,hfl0⟩,hb6⟩
        have hfl10:from_.length≤10:=by omega
        clear hfl0
        have b6:=bthen b5 b5.size hb6
        have d3:=c3 w6 (bthen b15 b15.size hb6)
        have hid6:=hid ids hiok hil _ w6 b6 (hi5 w6 hb6) h.cut h10c _ hcut
        obtain ⟨Afr,cfr,rfl⟩:=own_form' hofr)
     | ((with_reducible refine hid6.out.mono ?_);rintro e w7 ⟨⟨vcu,cut,rfl,hocu,hcok,hcl0⟩,hb7⟩
        have hcl10:cut.length≤10:=by omega
        clear hcl0
        obtain ⟨Acu,ccu,rfl⟩:=own_form' hocu))
    have b7:=bthen b6 b6.size hb7
    have bw7:=bthen (bthen hb5 hb5.size hb6) (bthen hb5 hb5.size hb6).size hb7
    have b37:=bthen hb4 hb4.size bw7
    have lS:=fun W (hW:Below w7.heap.size w7 W)=>hs3 W (bthen b37 b37.size hW)
    have lS7:=lS w7 (Below.refl _ _)
    have hD7:=hD3.below b37
    have hS7:=hS4.below bw7
    have hfrI:=SliceAt.of_own (fun e h=>idC_len (hfok e h)) (own_below hofr hb7)
    have hcuI:=SliceAt.of_own (fun e h=>idC_len (hcok e h)) hocu
    have hK7:=hK.below b7
    have hll:(es.map (·.st)).length=es.length:=List.length_map _
    have b57:=bthen hb6 hb6.size hb7
    have hmo:=fun W (hW:Below w7.heap.size w7 W)=>hid ids hiok hil _ W (bthen b7 b7.size hW) (hi5 W (bthen b57 b57.size hW)) more (by omega) _ hvm0
    clear b57
    clear hs3 hs33 hof3 hD3 hD2 hS4 hp4 hid hid5 hid6 hnm4 hld4 hi5 hoi hofr hocu hb4 hb5 hb6 hb7 b13 hbl3 hb2 b4 b14 b5 b15 b6 b37 bw7 c2 c3 d2 d3 hkn hcut hfrm hFH hK hiok hb3 hnm hld h10f h10c
    have hsrc:=fun W (hW:Below w7.heap.size w7 W)=>SrcAt.of (idsK hfok) (hfrI.below hW)
    have hone : ∀ u∈rowsOf idC from_,u.oneCell'=true:=rowsOf_one' fun x _=>idC_one x
    have k63:0+from_.length≤9223372036854775807:=by omega
    have kby:(0+from_.length)*32≤140737488355328:=by omega
    have hfl2:from_.length≤10:=hfl10
    go_upto_region 11 with (first
     | ((with_reducible refine lit_slice0 Tryz.idsTy ?_)
        intro v8 w8 ho8 hb8
        have hs8:=hsrc w8 hb8
        have hz8:=hb8.size)
     | ((with_reducible refine lit_append_src (.tmp 56) (.tmp 57) 34 Tryz.idsTy ho8 hs8 hone k63 kby hz8 ?_ ?_ ?_);rfl;rfl
        intro v9 w9 ho9 hb9
        have b79:=hb8.trans hb9
        have ho9':OwnIds w9 w7.heap.size v9 from_:=by
         unfold OwnIds
         rwa [Nat.zero_add,List.nil_append] at ho9
        have hmo9:=hmo w9 b79)
     | ((with_reducible refine hmo9.out.mono ?_);rintro e w10 ⟨⟨vpl,pl,rfl,hopl,hplok,hpll0⟩,hb10⟩
        have hpll:pl.length≤10:=by omega
        clear hpll0
        have ho10:=own_below ho9' hb10
        have hs10:=SrcAt.of (idsK hplok) (SliceAt.of_own (idsK hplok) hopl)
        have hone10 : ∀ u∈rowsOf idC pl,u.oneCell'=true:=rowsOf_one' fun x _=>idC_one x
        have k63b:from_.length+pl.length≤9223372036854775807:=by omega
        have kbyb:(from_.length+pl.length)*32≤140737488355328:=by omega
        have b710:=b79.trans (hb10.mono b79.size)
        have hz10:=b710.size)
     | ((with_reducible refine lit_append_src (.tmp 58) (.tmp 61) 34 Tryz.idsTy ho10 hs10 hone10 k63b kbyb hz10 ?_ ?_ ?_);rfl;rfl
        intro v11 w11 ho11 hb11))
    have b711:=b710.trans hb11
    obtain ⟨AL,hAL⟩ : ∃ AL,from_++pl=AL:=⟨_,rfl⟩
    have hoAL:OwnIds w11 w7.heap.size v11 AL:=by
     unfold OwnIds
     rw [←hAL,rowsOf_append,List.length_append]
     exact ho11
    have hALok : ∀ x∈AL,x.length=32:=fun x hx=>by
     rw [←hAL] at hx
     exact (List.mem_append.1 hx).elim (hfok x) (hplok x)
    have hALl:AL.length≤20:=by rw [←hAL,List.length_append];omega
    have hfrAL : ∀ x∈from_,x∈AL:=fun x hx=>by rw [←hAL];exact List.mem_append_left _ hx
    clear hAL ho11 ho10 hs10 hone10 k63b kbyb hopl hplok hpll hmo9 ho9' ho9 hs8 ho8 hz8 hz10 hb8 hb9 hb10 hb11 b710 b79 hmo hsrc hone k63 kby lS7
    have hS11:=hS7.below b711
    have hfr11:=hfrI.below b711
    have hcu11:=hcuI.below b711
    have hALI:=SliceAt.of_own (idsK hALok) hoAL
    have k11:=Lib.hid (graReach_calls hS11 from_ cut hfok hcok (by rw [hll];omega) (by omega) _ _ hfr11 hcu11)
    have k12:=fun W (hW:Below w11.heap.size w11 W)=>Lib.hid (graReach_calls (hS11.below hW) AL cut hALok hcok (by rw [hll];omega) (by omega) _ _ (hALI.below hW) (hcu11.below hW))
    have k13:=fun W (hW:Below w11.heap.size w11 W)=>Lib.hid (graReach_calls (hS11.below hW) from_ [] hfok (fun x hx=>absurd hx List.not_mem_nil) (by rw [hll];omega) (Nat.zero_le _) _ _ (hfr11.below hW) SliceAt.nil)
    go_upto_region 14 with (first
     | ((with_reducible refine k11.out.mono ?_);rintro e w12 ⟨va,vb,la,lb,rfl,ra,rb,oa,ob,aok,bok,al,bl,hb12⟩
        have k12w:=k12 w12 hb12)
     | ((with_reducible refine k12w.out.mono ?_);rintro e w13 ⟨vc2,vd2,lc,ld,rfl,rc,rd,oc,od,cok,dok, -, -,hb13⟩
        have b1113:=bthen hb12 hb12.size hb13
        have k13w:=k13 w13 b1113)
     | ((with_reducible refine k13w.out.mono ?_);rintro e w14 ⟨ve2,vf2,le,lf,rfl,re,rf,oe,of_,eok,fok, -, -,hb14⟩
        have b1114:=bthen b1113 b1113.size hb14))
    rw [hll] at al bl
    have b1214:=bthen hb13 hb13.size hb14
    have ia:=SliceAt.of_own (idsK aok) (own_below oa b1214)
    have ib:=SliceAt.of_own (idsK bok) (own_below ob b1214)
    have ic:=SliceAt.of_own (idsK cok) (own_below oc hb14)
    have id_:=SliceAt.of_own (idsK dok) (own_below od hb14)
    have ie:=SliceAt.of_own (idsK eok) oe
    have if_:=SliceAt.of_own (idsK fok) of_
    have hac:=more_from ra hfrAL rc
    have hbd:=more_from rb hfrAL rd
    have hae:=more_uncut ra re
    have hbf:=more_uncut rb rf
    clear k11 k12w k12 k13w k13 oa ob oc od oe of_ rc rd re rf hoAL hALI hALok hALl hfrAL hb12 hb13 hb14 b1113 b1214
    have hsa:=fun W (hW:Below w14.heap.size w14 W)=>SrcAt.of (idsK aok) (ia.below hW)
    have hsb:=fun W (hW:Below w14.heap.size w14 W)=>SrcAt.of (idsK bok) (ib.below hW)
    have onea : ∀ u∈rowsOf idC la,u.oneCell'=true:=rowsOf_one' fun x _=>idC_one x
    have oneb : ∀ u∈rowsOf idC lb,u.oneCell'=true:=rowsOf_one' fun x _=>idC_one x
    have k63:0+la.length≤9223372036854775807:=by omega
    have kby:(0+la.length)*32≤140737488355328:=by omega
    have k63b:la.length+lb.length≤9223372036854775807:=by omega
    have kbyb:(la.length+lb.length)*32≤140737488355328:=by omega
    have b714:=bthen b711 b711.size b1114
    have hS14:=hS7.below b714
    have hcu14:=hcuI.below b714
    obtain ⟨AB,hAB⟩ : ∃ AB,la++lb=AB:=⟨_,rfl⟩
    have hABok : ∀ x∈AB,x.length=32:=fun x hx=>by
     rw [←hAB] at hx
     exact (List.mem_append.1 hx).elim (aok x) (bok x)
    have hABl:AB.length≤2000:=by rw [←hAB,List.length_append];omega
    have hclo : ∀ {g:List Txt},RchIs (es.map (·.st)) cut AB true g→g=la:=fun h=>by rw [←hAB] at h;exact rch_closed ra rb h
    have hABo : ∀ {w':World} {v:Value},w'.ownsRow w14.heap.size 42 32 v (la.length+lb.length) (rowsOf idC la++rowsOf idC lb)→OwnIds w' w14.heap.size v AB:=fun h=>by
     unfold OwnIds
     rw [←hAB,rowsOf_append,List.length_append]
     exact h
    clear hAB
    have krg:=fun {v:Value} W (hW:Below w14.heap.size w14 W) (h:OwnIds W w14.heap.size v AB)=>Lib.hid (graReach_calls (hS14.below hW) AB cut hABok hcok (by rw [hll];omega) (by omega) _ _ (SliceAt.of_own (idsK hABok) h) (hcu14.below hW))
    go_upto_region 15 with (first
     | ((with_reducible refine lit_slice0 Tryz.idsTy ?_)
        intro v15 w15 ho15 hb15
        have hs15:=hsa w15 hb15
        have hz15:=hb15.size)
     | ((with_reducible refine lit_append_src (.tmp 85) (.tmp 86) 34 Tryz.idsTy ho15 hs15 onea k63 kby hz15 ?_ ?_ ?_);rfl;rfl
        intro v16 w16 ho16 hb16
        have b1416:=hb15.trans hb16
        rw [Nat.zero_add,List.nil_append] at ho16
        have hs16:=hsb w16 b1416
        have hz16:=b1416.size)
     | ((with_reducible refine lit_append_src (.tmp 87) (.tmp 88) 34 Tryz.idsTy ho16 hs16 oneb k63b kbyb hz16 ?_ ?_ ?_);rfl;rfl
        intro v17 w17 ho17 hb17
        have b1417:=b1416.trans hb17
        have kg17:=krg w17 b1417 (hABo ho17))
     | ((with_reducible refine kg17.out.mono ?_);rintro e w18 ⟨vg,vh,lg,lh,rfl,rg, -,og, -, -, -, -, -,hb18⟩))
    obtain rfl:=hclo rg
    have b1418:=bthen b1417 b1417.size hb18
    have ig:=SliceAt.of_own (idsK aok) og
    clear kg17 krg hABo hclo ho17 ho16 ho15 hs15 hs16 hz15 hz16 hb15 hb16 hb17 b1416 b1417 onea oneb k63 kby k63b kbyb hsa hsb hABok hABl og rg
    have b718:=bthen b714 b714.size b1418
    have ia18:=ia.below b1418
    have ib18:=ib.below b1418
    have hS18:=hS7.below b718
    have hfr18:=hfrI.below b718
    have hcu18:=hcuI.below b718
    have m1:=fun W (hW:Below w18.heap.size w18 W)=>Lib.hid (within_calls lg lc aok cok hac _ _ W (ia18.below hW) ((ic.below b1418).below hW))
    have m2:=fun W (hW:Below w18.heap.size w18 W)=>Lib.hid (within_calls lb ld bok dok hbd _ _ W (ib18.below hW) ((id_.below b1418).below hW))
    have m3:=fun W (hW:Below w18.heap.size w18 W)=>Lib.hid (within_calls lg le aok eok hae _ _ W (ia18.below hW) ((ie.below b1418).below hW))
    have m4:=fun W (hW:Below w18.heap.size w18 W)=>Lib.hid (within_calls lb lf bok fok hbf _ _ W (ib18.below hW) ((if_.below b1418).below hW))
    have m5:=fun W (hW:Below w18.heap.size w18 W)=>Lib.hid (refSame02_calls lg aok _ _ W (ig.below hW) (ia18.below hW))
    have m6:=fun W (hW:Below w18.heap.size w18 W)=>Lib.hid (graWalk_calls (hS18.below hW) from_ cut hfok hcok (by omega) _ _ (hfr18.below hW) (hcu18.below hW))
    have m7:=fun W (hW:Below w18.heap.size w18 W)=>rise02_calls lg aok _ W (ia18.below hW)
    have m8:=fun W (hW:Below w18.heap.size w18 W)=>rise02_calls lb bok _ W (ib18.below hW)
    rw [riseB_iff.2 ra.rise] at m7
    rw [riseB_iff.2 rb.rise] at m8
    have m7:=fun W hW=>Lib.hid (m7 W hW)
    have m8:=fun W hW=>Lib.hid (m8 W hW)
    have hwok : ∀ x∈walkS (es.map (·.st)) cut from_,x.length=32:=fun x hx=>walkS_ok hS7.ok hx
    have hwsub:=walk_sub ra
    have hnew:=fun {i:Nat} {x:Txt} (h:(walkS (es.map (·.st)) cut from_)[i]?=some x)=>Lib.hid (walk_new h)
    have hkid:=fun {i:Nat} {x:Txt} (h:(walkS (es.map (·.st)) cut from_)[i]?=some x)=>Lib.hid (walk_kid h)
    have hwlen:(walkS (es.map (·.st)) cut from_).length≤es.length:=by have:=walkS_len (S:=es.map (·.st)) (cut:=cut) (ini:=from_);rwa [hll] at this
    obtain ⟨WK,hWK⟩ : ∃ WK,walkS (es.map (·.st)) cut from_=WK:=⟨_,rfl⟩
    simp only [hWK] at m6 hwok hwsub hnew hkid hwlen
    have m9:=fun {v:Value} W (hW:Below w18.heap.size w18 W) (h:Ids W v WK)=>Lib.hid (within_calls WK lg hwok aok hwsub _ _ W h (ia18.below hW))
    clear hWK ia ib ic id_ ie if_ ig hac hbd hae hbf ra rb hcu14 hS14 ia18 ib18 hfr11 hcu11 hS11 b1114 b714 b1418 b711 hwsub
    have bq:=Below.refl w18.heap.size w18
    go_upto_region 20 with (first
     | ((with_reducible refine (m1 _ bq).out.mono ?_);rintro e w19 ⟨rfl,hb19⟩;replace bq:=bthen bq bq.size hb19;clear hb19)
     | ((with_reducible refine (m2 _ bq).out.mono ?_);rintro e w20 ⟨rfl,hb20⟩;replace bq:=bthen bq bq.size hb20;clear hb20)
     | ((with_reducible refine (m3 _ bq).out.mono ?_);rintro e w21 ⟨rfl,hb21⟩;replace bq:=bthen bq bq.size hb21;clear hb21)
     | ((with_reducible refine (m4 _ bq).out.mono ?_);rintro e w22 ⟨rfl,hb22⟩;replace bq:=bthen bq bq.size hb22;clear hb22)
     | ((with_reducible refine (m5 _ bq).out.mono ?_);rintro e w23 ⟨rfl,hb23⟩;replace bq:=bthen bq bq.size hb23;clear hb23)
     | ((with_reducible refine (m6 _ bq).out.mono ?_);rintro e w24 ⟨vw,rfl,ow,hb24⟩
        replace bq:=bthen bq bq.size hb24
        clear hb24
        have iw:=SliceAt.of_own (idsK hwok) ow)
     | ((with_reducible refine (m7 _ bq).out.mono ?_);rintro e w25 ⟨rfl,hb25⟩;replace bq:=bthen bq bq.size hb25
        have iw:=iw.below hb25
        clear hb25)
     | ((with_reducible refine (m8 _ bq).out.mono ?_);rintro e w26 ⟨rfl,hb26⟩;replace bq:=bthen bq bq.size hb26
        have iw:=iw.below hb26
        have m9w:=m9 w26 bq iw)
     | ((with_reducible refine m9w.out.mono ?_);rintro e w27 ⟨rfl,hb27⟩;replace bq:=bthen bq bq.size hb27;replace iw:=iw.below hb27))
    have hfrI2:=hfrI
    have hok7:=hS7.ok
    clear m1 m2 m3 m4 m5 m6 m7 m8 m9 m9w ow hb26 hb27 hS7 hS18 hcu18 hfrI hcuI hcok hcl10 aok bok cok dok eok fok al bl hvm0 hmr1 hmr2 hm1 hm2 hmi
    have heok : ∀ x∈endsL (es.map (·.st)) from_,x.length=32:=fun x hx=>ids_ok7 hok7 (kind3_mem ((WalkI.start from_).k3 x hx))
    have hpar:=fun (y:Txt)=>par_ok (S:=es.map (·.st)) y
    clear hok7
    obtain ⟨S,hS⟩ : ∃ S,es.map (·.st)=S:=⟨_,rfl⟩
    obtain ⟨E,hE⟩ : ∃ E,endsL S from_=E:=⟨_,rfl⟩
    have b727:=bthen b718 b718.size bq
    have b027:=bthen b7 b7.size b727
    have hob:=fun W (hW:Below w27.heap.size w27 W) (n:Txt) (hn:n.length=32)=>docObjQ_calls (hD7.below b727) hW n hn
    have hen:=fun W (hW:Below w27.heap.size w27 W)=>docEnds_calls ((hD7.below b727).below hW) from_ hfok (by omega) _ ((hfrI2.below b727).below hW)
    have lS27:=fun W (hW:Below w27.heap.size w27 W)=>lS W (bthen b727 b727.size hW)
    have hKn:=fun W (hW:Below w27.heap.size w27 W)=>Lib.hid (knows_calls12 W ((hK7.below b727).below hW))
    have hin:=fun (l:List Txt) (hl : ∀ x∈l,x.length=32) (v:Value) (W:World) (hv:Ids W v l) (x:Txt) (hx:x.length=32)=>in02_calls l hl v x hx W hv
    simp only [hS] at hob hen hkid heok hpar
    simp only [hE] at hen hkid heok
    clear hS hE lS hD7 hK7 b727 b7 b718 bq hfr18 hfrI2
    have hzo:=zeroObj
    obtain ⟨Aw,cw,rfl,hcw1,hcw2,hatw⟩:=id iw
    clear hll hel hwlen b1 hm10
    go_wp2_with (fail)
    go_loopg [23] WK.length (fun f vi wr => ∃ i:Nat,vi = .int .i64 i∧i+f=WK.length∧Below w27.heap.size w27 wr)
    case atStart=>exact ⟨0,rfl,by omega,Below.refl _ _⟩
    case round=>
     obtain ⟨i,rfl,hif,hbel⟩:=hrel
     have hbs:=hbel.size
     cases gk with
     | zero=>
       have hii : ¬ (i:Int)<(WK.length:Int):=by omega
       have hknr:=hKn wr hbel
       clear hatw hob hen lS27 hKn hin hkid hnew iw
       go_wp2_with (first
        | ((with_reducible refine hknr.out.mono ?_);rintro e w28 ⟨rfl,hb28⟩))
       go_ret
       exact ⟨rfl,bthen b027 b027.size (bthen hbel hbs hb28)⟩
     | succ f=>
       have hii:(i:Int)<(WK.length:Int):=by omega
       have hil:i<WK.length:=by omega
       obtain ⟨gw,ow,rfl,hgw,hcw⟩:=hatw (by omega)
       obtain ⟨x,hx⟩ : ∃ x,WK[i]?=some x:=⟨_,List.getElem?_eq_getElem hil⟩
       have hxi:=hwok x (List.mem_of_getElem? hx)
       have hlx:=fun W (hW:Below w27.heap.size w27 W)=>run_ldvI_at (show World.rangeAt W gw (ow+i*32) (u8s x).toList from rangeAt_below (hcw i x hx) hgw hW) hxi
       have htk:=fun W (hW:Below w27.heap.size w27 W)=>ids_take (iw.below hW) (m:=i) (by omega)
       have htok : ∀ z∈WK.take i,z.length=32:=fun z hz=>hwok z (List.mem_of_mem_take hz)
       have hin1:=fun W (hW:Below w27.heap.size w27 W)=>hin (WK.take i) htok _ W (htk W hW) x hxi
       simp only [(hnew hx).out] at hin1
       have hkx:=hkid hx
       have hic:(i:Int)≤(cw:Int):=by omega
       have hi0:(0:Int)≤(i:Int):=by omega
       have hic2:i≤cw:=by omega
       clear hatw htk htok hkid hnew hKn iw
       go_upto_region 23 with (fail)
       refine wp_region_class (C:=fun W=>Below wr.heap.size wr W) (by kernel_rfl) (by kernel_rfl) (Below.refl _ _).drew ?_
       repeat
        first
         | ((with_reducible refine wpQuiet_ex ?_ ?_)
            ·(go_simp;done)
            apply Exists.intro
            refine ⟨fun W hW=>?_,?_⟩
            ·first
              | (have q0:=hlx W (bthen hbel hbs hW)
                 have q1:=bel_keepG hW (hin1 W (bthen hbel hbs hW))
                 go_simp
                 first
                  | rfl
                  | (with_reducible exact q1))
            simp only [Act.put,List.setIfInBounds_toArray,List.set_cons_zero,List.set_cons_succ])
         | ((with_reducible refine wpQuiet_pass ?_ ?_)
            ·(first | rfl | (go_simp;done))
            simp only [Act.put,List.setIfInBounds_toArray,List.set_cons_zero,List.set_cons_succ])
       with_reducible refine wpQuiet_nil ?_
       intro w28 hW28
       have b28:=bthen hbel hbs hW28
       clear hin1 hic hi0 hic2 hbel hbs hW28
       go_wp2_with (fail)
       go_loopg [25,26] i (fun f2 vch vk wr2 => ∃ (k:Nat) (ch:Bool),vch = .bool ch∧vk = .int .i64 k∧k+f2=i∧Hid (ch=kidsB S (WK.take k) x)∧Below w27.heap.size w27 wr2)
       case atStart=>exact ⟨0,false,rfl,rfl,by omega,Lib.hid rfl,b28⟩
       case round=>
        obtain ⟨k,ch,rfl,rfl,hkf,hch,hbel2⟩:=hrel
        have hbs2:=hbel2.size
        cases gk with
        | zero=>
          have hki : ¬ (k:Int)<(i:Int):=by omega
          have hke:k=i:=by omega
          have hfin:Hid ((!ch && !inL E x)=false):=Lib.hid (by rw [hch.out,hke];exact hkx.out)
          clear hke hch hkx hob hcw hx hkf
          go_upto_region 30 with (fail)
          refine wp_region_go0 9 (by kernel_rfl) (by kernel_rfl) (by kernel_rfl) (by kernel_rfl) ?_
          simp only [exSp]
          iterate 9 apply Exists.intro
          repeat
           first
            | ((with_reducible apply lx0_ex)
               ·(go_simp;done)
               apply Exists.intro
               apply And.intro
               ·apply Eq.refl
               apply And.intro
               ·intro W hW hD
                have q0:=lS27 W (bthen hbel2 hbs2 hW)
                have q1:=hlx W (bthen hbel2 hbs2 hW)
                first
                 | (go_simp
                    rfl)
                 | (obtain ⟨F,o2,_⟩:=hD.at 0 rfl (by kernel_rfl)
                    have q2:=hin E heok _ W (SliceAt.of_own (idsK heok) o2) x hxi
                    go_simp
                    with_reducible exact q2)
               simp only [Act.put,List.setIfInBounds_toArray,List.set_cons_zero,List.set_cons_succ])
            | ((with_reducible apply lx0_pass)
               ·(first | rfl | (go_simp;done))
               ·apply Eq.refl
               simp only [Act.put,List.setIfInBounds_toArray,List.set_cons_zero,List.set_cons_succ])
            | ((with_reducible refine lx0_new (ownR wr.heap.size 42 32 E.length (rowsOf idC E)) rfl ?_ (ownR_stab _ _ _ _ _) ?_ ?_)
               ·(go_simp;done)
               ·intro W hW hD
                unfold doesAt Oper.wp execOp
                go_simp
                (with_reducible refine (hen W (bthen hbel2 hbs2 hW)).mono ?_)
                rintro e w' ⟨v,rfl,ho, -,hb⟩
                exact ⟨hb,ownR_new hW.size ho⟩
               intro v
               simp only [Act.put,List.setIfInBounds_toArray,List.set_cons_zero,List.set_cons_succ])
          refine lx0_nil ?_ fun w31 hW31 hD31=>?_
          ·exact List.nodup_nil
          have b31:=bthen hbel2 hbs2 hW31
          clear hD31 hen hin hlx lS27 hW31 hbel2 hbs2
          generalize inL E x=fi at *
          cases ch with
          | true=>
            clear hfin
            go_wp2_with (fail)
            go_roundg f
            case rel=>exact ⟨i+1,by go_num,by omega,b31⟩
            case measure=>omega
          | false=>
            cases fi with
            | true=>
              clear hfin
              go_wp2_with (fail)
              go_roundg f
              case rel=>exact ⟨i+1,by go_num,by omega,b31⟩
              case measure=>omega
            | false=>exact absurd hfin.out (by decide)
        | succ f2=>
          have hki:(k:Int)<(i:Int):=by omega
          have hkw:(k:Int)<(WK.length:Int):=by omega
          obtain ⟨y,hy⟩ : ∃ y,WK[k]?=some y:=⟨_,List.getElem?_eq_getElem (by omega)⟩
          have hyi:=hwok y (List.mem_of_getElem? hy)
          have hly:=fun W (hW:Below w27.heap.size w27 W)=>run_ldvI_at (show World.rangeAt W gw (ow+k*32) (u8s y).toList from rangeAt_below (hcw k y hy) hgw hW) hyi
          have hmore:Hid (kidsB S (WK.take (k+1)) x=(ch||inL (parS S y) x)):=Lib.hid (by rw [kidsB_more hy,←hch.out])
          have hpok:=hpar y
          obtain ⟨PS,hPS⟩ : ∃ PS,parS S y=PS:=⟨_,rfl⟩
          rw [hPS] at hmore hpok
          clear hcw hx hy hch hen hkx
          go_upto_region 28 with (fail)
          refine wp_region_go0 8 (by kernel_rfl) (by kernel_rfl) (by kernel_rfl) (by kernel_rfl) ?_
          simp only [exSp]
          iterate 8 apply Exists.intro
          repeat
           first
            | ((with_reducible apply lx0_ex)
               ·(go_simp;done)
               apply Exists.intro
               apply And.intro
               ·apply Eq.refl
               apply And.intro
               ·intro W hW hD
                have q0:=lS27 W (bthen hbel2 hbs2 hW)
                have q1:=hly W (bthen hbel2 hbs2 hW)
                go_simp
                rfl
               simp only [Act.put,List.setIfInBounds_toArray,List.set_cons_zero,List.set_cons_succ])
            | ((with_reducible apply lx0_pass)
               ·(first | rfl | (go_simp;done))
               ·apply Eq.refl
               simp only [Act.put,List.setIfInBounds_toArray,List.set_cons_zero,List.set_cons_succ])
            | ((with_reducible refine lx0_new (parF w27 S y) rfl ?_ (parF_stab _ _ _) ?_ ?_)
               ·(go_simp;done)
               ·intro W hW hD
                unfold doesAt Oper.wp execOp
                go_simp
                (with_reducible refine (hob W (bthen hbel2 hbs2 hW) y hyi).mono ?_)
                rintro e w' ⟨⟨X,vp,rfl,h1,h2,h3,h4⟩,hb⟩
                exact ⟨hb,fun _ _ _ _=>⟨X,vp,rfl,h1,h2,h3,h4⟩⟩
               intro v
               simp only [Act.put,List.setIfInBounds_toArray,List.set_cons_zero,List.set_cons_succ])
            | ((with_reducible apply lx_al 54 zObj hzo)
               ·apply Eq.refl
               intro v
               simp only [Act.put,List.setIfInBounds_toArray,List.set_cons_zero,List.set_cons_succ])
            | ((with_reducible apply lx_st' 6 54 zObj szObjZ (by kernel_rfl))
               ·exact rfl
               ·apply Eq.refl
               apply Exists.intro
               apply Exists.intro
               apply And.intro
               ·(go_simp;rfl)
               apply And.intro
               ·(go_simp;rfl)
               refine ⟨?_,fun W hW hD=>?_,?_⟩
               ·first | exact List.Mem.head _ | exact List.Mem.tail _ (List.Mem.head _) | exact List.Mem.tail _ (List.Mem.tail _ (List.Mem.head _)) | exact List.Mem.tail _ (List.Mem.tail _ (List.Mem.tail _ (List.Mem.head _)))
               ·obtain ⟨F,X,vp,rfl,h1,h2,h3,h4⟩:=hD.at 1 rfl (by kernel_rfl)
                exact ⟨X,rfl,h1.trans zObj_size.symm,h2⟩)
          refine lx0_nil ?_ fun w29 hW29 hD29=>?_
          ·exact (by simp [stsOf])
          obtain ⟨_,X,vp,rfl,hX72,hX1,hXp,hvp⟩:=hD29 _ (.tail _ (.tail _ (.head _)))
          rw [hPS] at hvp
          obtain ⟨_,g30,cs30,rfl,hcs30,hg30,_,hQ30⟩:=hD29 _ (.head _)
          obtain rfl:X=cs30:=by injection hcs30
          clear hD29 hcs30 hPS hob
          have b29:=bthen hbel2 hbs2 hW29
          have hcp:=fun W (hW:Below w29.heap.size w29 W)=>((hQ30.below hW hQ30.lt).cell 35).trans hXp
          obtain ⟨Ap,cp,rfl,_⟩:=id hvp
          clear hX72 hX1 hXp hQ30 hbel2 hbs2 hW29
          cases ch with
          | true=>
            have hmo:Hid (true=kidsB S (WK.take (k+1)) x):=Lib.hid (by rw [hmore.out,Bool.true_or])
            clear hmore hin hvp hcp
            go_upto_region 29 with (fail)
            refine wp_region_class (C:=fun W=>Below w29.heap.size w29 W) (by kernel_rfl) (by kernel_rfl) (Below.refl _ _).drew ?_
            repeat
             first
              | ((with_reducible refine wpQuiet_ex ?_ ?_)
                 ·(go_simp;done)
                 apply Exists.intro
                 refine ⟨fun W hW=>?_,?_⟩
                 ·first
                   | (go_simp
                      rfl)
                 simp only [Act.put,List.setIfInBounds_toArray,List.set_cons_zero,List.set_cons_succ])
              | ((with_reducible refine wpQuiet_pass ?_ ?_)
                 ·(first | rfl | (go_simp;done))
                 simp only [Act.put,List.setIfInBounds_toArray,List.set_cons_zero,List.set_cons_succ])
            with_reducible refine wpQuiet_nil ?_
            intro w32 hW32
            have b32:=bthen b29 b29.size hW32
            clear hly hlx lS27 hW32
            go_wp2_with (fail)
            go_roundg f2
            case rel=>exact ⟨k+1,true,rfl,by go_num,by omega,hmo,b32⟩
            case measure=>omega
          | false=>
            have hmo:Hid (inL PS x=kidsB S (WK.take (k+1)) x):=Lib.hid (by rw [hmore.out,Bool.false_or])
            have hinp:=fun W (hW:Below w29.heap.size w29 W)=>hin PS hpok _ W (hvp.below (bthen b29 b29.size hW)) x hxi
            obtain ⟨fi,hfi⟩ : ∃ fi,inL PS x=fi:=⟨_,rfl⟩
            simp only [hfi] at hmo hinp
            clear hmore hin hvp hpok hfi
            go_upto_region 29 with (fail)
            refine wp_region_class (C:=fun W=>Below w29.heap.size w29 W) (by kernel_rfl) (by kernel_rfl) (Below.refl _ _).drew ?_
            repeat
             first
              | ((with_reducible refine wpQuiet_ex ?_ ?_)
                 ·(go_simp;done)
                 apply Exists.intro
                 refine ⟨fun W hW=>?_,?_⟩
                 ·first
                   | (have q0:=hcp W hW
                      have q1:=hlx W (bthen b29 b29.size hW)
                      have q2:=bel_keepG hW (hinp W hW)
                      go_simp
                      first
                       | rfl
                       | (with_reducible exact q2))
                 simp only [Act.put,List.setIfInBounds_toArray,List.set_cons_zero,List.set_cons_succ])
              | ((with_reducible refine wpQuiet_pass ?_ ?_)
                 ·(first | rfl | (go_simp;done))
                 simp only [Act.put,List.setIfInBounds_toArray,List.set_cons_zero,List.set_cons_succ])
            with_reducible refine wpQuiet_nil ?_
            intro w32 hW32
            have b32:=bthen b29 b29.size hW32
            clear hly hlx lS27 hW32 hinp hcp
            go_wp2_with (fail)
            go_roundg f2
            case rel=>exact ⟨k+1,fi,rfl,by go_num,by omega,hmo,b32⟩
            case measure=>omega
end Go.Proofs.YtlojebhcemfodaaGreatDoor
namespace Go.Proofs.YtlojebhcemfodaaGreatDoor
open Go.ChangeShapes Go.WideShapes Go.ChangeAt Go.RowKit
theorem open_u8s {H:Type} {enc:TypeId×Value→H} {w:World} {base:Nat} {sp:Nat→Bool} {held:Bool} {v:Value} {d:DataW H} {p:List MemPlace} (h:DataW.Trod enc Tryz.prog w base sp held 23 v d p) (hc:v.cells.toList=[v]) : ∃ l:Txt,SliceAt w 1 byC v l:=by
 obtain ⟨fuel,hf⟩:=h
 rw [hc] at hf
 obtain ⟨l,hl,_⟩:=open_elems byC 1 (by omega) (fun _=>True) Tryz.underlying23 (by kernel_rfl) (fun y _=>rfl) elem_byte hf
 exact ⟨l,hl⟩
end Go.Proofs.YtlojebhcemfodaaGreatDoor
namespace Go.Proofs.YtlojebhcemfodaaGreatDoor
open Go.ChangeShapes Go.WideShapes Go.ChangeAt Go.RowKit
theorem gTab : Tryz.prog.globalNamed "knapsack/sha256.constants" = some 0:=by kernel_rfl
theorem gTabType : (Tryz.prog.globals[0]?).map (·.type)=some 109:=by kernel_rfl
theorem cellsTab : Tryz.prog.cellsOf 109=64:=by kernel_rfl
theorem cellsU32 : Tryz.prog.cellsOf 52=1:=by kernel_rfl
theorem laid_is : (Rows.laid_knapsack_sha256_constants:DataW Unit)=Lib.tabData .u32 (K256.map fun n=>((n:Nat):Int)):=by kernel_rfl
theorem tabK_of {W:World} (h:laidMetH Tryz.prog [("knapsack/sha256.constants",Rows.laid_knapsack_sha256_constants)] W):TabK W:=by
 rw [laid_is] at h
 have ht:=Lib.tabIs_of_head (rest:=[]) gTab gTabType Tryz.underlying109 Tryz.underlying52 cellsU32 cellsTab h
 have hc (t:Nat) (h64:t<64):W.cell? ⟨0,t,none⟩=some (.int .u32 (K256.getD t 0:Nat)):=by
  rw [ht.cell gTab t (by rw [List.length_map,K256_length];exact h64)]
  have:t<K256.length:=by rw [K256_length];exact h64
  simp [List.getD,List.getElem?_map,List.getElem?_eq_getElem this]
 exact ⟨World.block_lt_of_cell? W _ (hc 0 (by omega)),hc⟩
/-- A world for the witness: the settled one, the table as its initialiser lays it. -/
noncomputable def laidWorld (os:Os):World:=
 { World.holding Tryz.prog os ⟨#[], #[],[]⟩ with heap:=(World.holding Tryz.prog os ⟨#[], #[],[]⟩).heap.modify 0 fun
  | .cells _ t frozen => .cells (u32s K256) t frozen
  | o=>o }
end Go.Proofs.YtlojebhcemfodaaGreatDoor
