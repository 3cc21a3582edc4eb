/- Texts of this claim, laid together: IdSo, IdSm, DocI, HexP, Hex, Unhex, DocP, GsE, GsC, GsT. -/
import Derived.Test.YtlojebhcemfodaaGreatDoorMh
import Derived.Deep.CutBlock
import Derived.Lib.Bytealg
import Derived.Deep.RegionHeld3
import Derived.StillTailTactics
import Derived.Great.FillDense
namespace Go.Proofs.YtlojebhcemfodaaGreatDoor
open Go.RowKit
attribute [local go_sem ↓] ldvI_eq
theorem keepQ {w W:World} {f:FuncId} {args:Array Value} {v:Value} (h:Calls Tryz.prog f args W fun e w'=>e = .returned v∧Below W.heap.size W w') (hW:Below w.heap.size w W) :
 Calls Tryz.prog f args W fun e w'=>e = .returned v∧Below w.heap.size w w':=h.mono fun _ _ ⟨he,hb⟩=>⟨he,hW.trans (hb.mono hW.size)⟩
theorem idsK {l:List Txt} (h : ∀ x∈l,x.length=32) : ∀ x∈l,(idC x).length=32:=fun x hx=>idC_len (h x hx)
/-- The form of a slice of ids that is one's own. -/
def IdForm (w:World) (base:Nat) (A:Option Addr) (c:Nat) (l:List Txt):Prop:=(A=none∧c=0∧l=[]) ∨ ∃ g,A=some ⟨g,0,none⟩∧base≤g∧Row w g 42 32 idC c l
theorem ids_form {w:World} {base:Nat} {v:Value} {l:List Txt} (hok : ∀ x∈l,x.length=32) (h:OwnIds w base v l) : ∃ A c,v = .slice A l.length c∧IdForm w base A c l:=by
 rcases Row.of_own (idsK hok) h with ⟨rfl,rfl⟩ | ⟨g,cap,rfl,hg,hr⟩
 ·exact ⟨none,0,rfl, .inl ⟨rfl,rfl,rfl⟩⟩
 ·exact ⟨_,cap,rfl, .inr ⟨g,rfl,hg,hr⟩⟩
theorem src_take {w:World} {g c n:Nat} {l:List Txt} (hk : ∀ x∈l,(idC x).length=32) (h:Row w g 42 32 idC c l) (hn:n≤l.length):SrcAt 32 w (.slice (some ⟨g,0,none⟩) n c) n (rowsOf idC (l.take n)):=by
 have hk2 : ∀ x∈l.take n,(idC x).length=32:=fun x hx=>hk x (List.mem_of_mem_take hx)
 have hl:(l.take n).length=n:=by simp;omega
 refine .inl ⟨_,c,rfl,by rw [rowsOf_length hk2,hl],?_⟩
 have:=range_news ((h.cut n).range_from hk2 0)
 rwa [Nat.zero_mul] at this
theorem src_drop {w:World} {g c c' n m:Nat} {ad:Addr} {l:List Txt} (hk : ∀ x∈l,(idC x).length=32) (h:Row w g 42 32 idC c l) (had:ad=⟨g,n*32,none⟩∨l.length≤n) (hm:m=l.length-n):SrcAt 32 w (.slice (some ad) m c') m (rowsOf idC (l.drop n)):=by
 subst hm
 have hk2 : ∀ x∈l.drop n,(idC x).length=32:=fun x hx=>hk x (List.mem_of_mem_drop hx)
 refine .inl ⟨_,c',rfl,by rw [rowsOf_length hk2,List.length_drop],?_⟩
 rcases had with rfl | he
 ·exact range_news (h.range_from hk n)
 ·intro j u hu
  rw [List.drop_eq_nil_of_le he] at hu
  simp [rowsOf] at hu
set_option maxRecDepth 100000 in
set_option maxHeartbeats 4000000 in
theorem sorted02_calls (l:List Txt) (hok : ∀ x∈l,x.length=32) (hbig:l.length≤1000000) (v:Value) (w:World) (hv:Ids w v l) :
 Calls Tryz.prog 37 #[v] w fun e w' => ∃ v',e = .returned v'∧OwnIds w' w.heap.size v' (sortU l)∧Below w.heap.size w w':=by
 obtain ⟨S,hS⟩ : ∃ S,S=sortU l:=⟨_,rfl⟩
 have hfin:Hid (S=sortU (l.take l.length)):=Lib.hid (by rw [hS,List.take_length])
 rw [←hS]
 obtain ⟨A,cap,rfl,hcap1,hcap2,hat⟩:=hv
 clear hS
 go_enter Tryz.func37,Tryz.ntmps37
 go_wp2
 go_loopg [3,4] l.length (fun f vo vi wr => ∃ (k:Nat) (acc:List Txt),vi = .int .i64 k∧k+f≤l.length∧l.length≤k+f∧acc.length≤k∧Hid (acc=sortU (l.take k))∧Hid (∀ x∈acc,x.length=32)∧OwnIds wr w.heap.size vo acc∧Below w.heap.size w wr)
 case atStart=>exact ⟨0,[],rfl,by omega,by omega,by simp,Lib.hid rfl,Lib.hid (fun x hx=>by simp at hx),World.ownsRow_nil _ _ _ _,Below.refl _ _⟩
 case round=>
  obtain ⟨k,acc,rfl,hk1,hk2,hal,hacc,hall,hown,hbel⟩:=hrel
  cases gk with
  | succ f=>
    have hki:(k:Int)<(l.length:Int):=by omega
    obtain ⟨ga,oa,rfl,hga,hca⟩:=hat (by omega)
    obtain ⟨x,hx⟩ : ∃ x,l[k]?=some x:=⟨_,List.getElem?_eq_getElem (by omega)⟩
    have hxi:=hok x (List.mem_of_getElem? hx)
    have hnext:Hid (insU acc x=sortU (l.take (k+1))):=Lib.hid (by rw [sortU_more hx,hacc.out])
    have hnok:Hid (∀ y∈insU acc x,y.length=32):=Lib.hid fun y hy=>by
     rcases insU_mem hy with h | h
     ·exact hall.out y h
     ·rw [h];exact hxi
    have hnl:=insU_len acc x
    have hins:Hid (insU acc x=if freshB acc x (posL acc x acc.length)=true then acc.take (posL acc x acc.length)++[x]++acc.drop (posL acc x acc.length) else acc):=rfl
    have hPle:=posL_le acc x acc.length
    obtain ⟨PP,hPP⟩ : ∃ PP,posL acc x acc.length=PP:=⟨_,rfl⟩
    rw [hPP] at hPle hins
    replace hPP:=Lib.hid hPP
    obtain ⟨fb,hfb⟩ : ∃ fb,Hid (freshB acc x PP=fb):=⟨_,Lib.hid rfl⟩
    rw [hfb.out] at hins
    generalize insU acc x=NX at *
    have hlx : ∀ W,Below wr.heap.size wr W→(ldvI ⟨ga,oa+k*32,none⟩).run Tryz.prog W = .ok (.agg (u8s x)) W:=fun W hW=>by
     have hr:=rangeAt_below (hca k x hx) hga (hbel.trans (hW.mono hbel.size))
     exact run_ldvI_at (show World.rangeAt W ga (oa+k*32) (u8s x).toList from hr) hxi
    obtain ⟨A3,c3,rfl,hform⟩:=ids_form hall.out hown
    have hlo:Hid (∀ m y,acc[m]?=some y → ∃ g3,A3=some ⟨g3,0,none⟩ ∧ ∀ W,Below wr.heap.size wr W→(ldvI ⟨g3,m*32,none⟩).run Tryz.prog W = .ok (.agg (u8s y)) W):=Lib.hid fun m y hy=>by
     rcases hform with ⟨_,_,rfl⟩ | ⟨g3,h1,h2,hr⟩
     ·simp at hy
     ·refine ⟨g3,h1,fun W hW=>?_⟩
      have hr2:=(hr.below hW).at_ m y hy
      exact run_ldvI_at (show World.rangeAt W g3 (m*32) (u8s y).toList from hr2) (hall.out y (List.mem_of_getElem? hy))
    replace hform:=Lib.hid hform
    clear hx hca hat hok
    rename World=>wo
    go_upto_block 2 with (fail)
    go_cut [5] from 6 to 58 (fun s5 wx=>s5 = .int .i64 PP∧Below wo.heap.size wo wx)
    case first=>
     clear hfb hins hnext hnok hform hown hk1 hk2
     go_wp2_with (fail)
     go_loopg [5] acc.length (fun f vm wq=>vm = .int .i64 f∧f≤acc.length∧Hid (posL acc x f=PP)∧Below wo.heap.size wo wq)
     case atStart=>exact ⟨rfl,Nat.le_refl _,hPP,Below.refl _ _⟩
     case round=>
      obtain ⟨rfl,hm,hpm,hbq⟩:=hrel
      clear hPP
      cases gk with
      | zero=>
        obtain rfl:0=PP:=by rw [←hpm.out];rfl
        clear hpm hlx hlo
        go_simp
        go_step
        go_step
        refine wp_region_class (C:=fun W=>Below wo.heap.size wo W) (by kernel_rfl) (by kernel_rfl) hbq.drew ?_
        repeat
         first
          | ((with_reducible refine wpQuiet_ex ?_ ?_)
             ·(go_simp;done)
             apply Exists.intro
             refine ⟨fun W hW=>?_,?_⟩
             ·first
               | (go_simp
                  rfl)
             simp only [Act.put,List.setIfInBounds_toArray,List.set_cons_zero,List.set_cons_succ])
          | ((with_reducible refine wpQuiet_pass ?_ ?_)
             ·(first | rfl | (go_simp;done))
             simp only [Act.put,List.setIfInBounds_toArray,List.set_cons_zero,List.set_cons_succ])
        with_reducible refine wpQuiet_nil ?_
        intro w5 hW5
        go_wp2_with (fail)
        go_meet
        case rel=>exact ⟨rfl,hW5⟩
      | succ m=>
        obtain ⟨y,hy⟩ : ∃ y,acc[m]?=some y:=⟨_,List.getElem?_eq_getElem (by omega)⟩
        have hyi:=hall.out y (List.mem_of_getElem? hy)
        obtain ⟨g3,rfl,hly⟩:=hlo.out m y hy
        have hyx:Hid (posL acc x (m+1)=if Op.bytesLess x y=true then posL acc x m else m+1):=Lib.hid (by rw [posL,List.getD_eq_getElem?_getD,hy];rfl)
        have hls:=fun W=>refLess_calls x y hxi hyi W
        generalize Op.bytesLess x y=b at *
        have hmi:(m:Int)<(acc.length:Int):=by omega
        have hw1:IntKind.i64.wrap ((m:Nat):Int)=(m:Int):=IntWalk.i64_in _ (by omega)
        clear hy hlo
        go_simp
        go_step
        go_step
        refine wp_region_class (C:=fun W=>Below wo.heap.size wo W) (by kernel_rfl) (by kernel_rfl) hbq.drew ?_
        repeat
         first
          | ((with_reducible refine wpQuiet_ex ?_ ?_)
             ·(go_simp;done)
             apply Exists.intro
             refine ⟨fun W hW=>?_,?_⟩
             ·first
               | (have q0:=hlx W hW
                  have q1:=hly W hW
                  have q2:=hls W
                  go_simp
                  first
                   | rfl
                   | (with_reducible exact keepQ q2 hW))
             simp only [Act.put,List.setIfInBounds_toArray,List.set_cons_zero,List.set_cons_succ])
          | ((with_reducible refine wpQuiet_pass ?_ ?_)
             ·(first | rfl | (go_simp;done))
             simp only [Act.put,List.setIfInBounds_toArray,List.set_cons_zero,List.set_cons_succ])
        with_reducible refine wpQuiet_nil ?_
        intro w5 hW5
        cases b
        ·obtain rfl:m+1=PP:=by rw [←hpm.out,hyx.out];rfl
         clear hpm hyx hls hly hlx
         go_wp2_with (fail)
         go_meet
         case rel=>exact ⟨rfl,hW5⟩
        ·have hpm2:Hid (posL acc x m=PP):=Lib.hid (by rw [←hpm.out,hyx.out];rfl)
         clear hpm hyx hls hly hlx
         go_wp2_with (fail)
         go_roundg m
         case rel=>exact ⟨by go_num,by omega,hpm2,hW5⟩
         case measure=>omega
    case rest=>
     obtain ⟨rfl,hbc⟩:=hcut
     clear hPP
     go_upto_region 8 with (fail)
     go_cut [5,43] from 6 to 58 (fun s5 s43 wx=>s5 = .int .i64 PP∧s43 = .bool fb∧Below wo.heap.size wo wx)
     case first=>
      clear hins hnext hnok hform hown hk1 hk2
      cases PP with
      | zero=>
        obtain rfl:true=fb:=hfb.out
        clear hfb hlx hlo
        refine wp_region_class (C:=fun W=>Below wo.heap.size wo W) (by kernel_rfl) (by kernel_rfl) hbc.drew ?_
        repeat
         first
          | ((with_reducible refine wpQuiet_ex ?_ ?_)
             ·(go_simp;done)
             apply Exists.intro
             refine ⟨fun W hW=>?_,?_⟩
             ·first
               | (go_simp
                  rfl)
             simp only [Act.put,List.setIfInBounds_toArray,List.set_cons_zero,List.set_cons_succ])
          | ((with_reducible refine wpQuiet_pass ?_ ?_)
             ·(first | rfl | (go_simp;done))
             simp only [Act.put,List.setIfInBounds_toArray,List.set_cons_zero,List.set_cons_succ])
        with_reducible refine wpQuiet_nil ?_
        intro w5 hW5
        go_wp2_with (fail)
        go_meet
        case rel=>exact ⟨rfl,rfl,hW5⟩
      | succ p=>
        obtain ⟨y,hy⟩ : ∃ y,acc[p]?=some y:=⟨_,List.getElem?_eq_getElem (by omega)⟩
        have hyi:=hall.out y (List.mem_of_getElem? hy)
        obtain ⟨g3,rfl,hly⟩:=hlo.out p y hy
        have hyx:fb = !decide (y=x):=by rw [←hfb.out,freshB,List.getD_eq_getElem?_getD,hy];rfl
        have heq:=fun W=>run_neq_id W y x hyi hxi
        rw [←hyx] at heq
        have hmi:(p:Int)<(acc.length:Int):=by omega
        have hw1:IntKind.i64.wrap ((p:Nat):Int)=(p:Int):=IntWalk.i64_in _ (by omega)
        have hp1:(((p+1:Nat):Int)==0)=false:=by simp;omega
        have hp2:((p:Int)+1==0)=false:=by simp;omega
        clear hy hlo hfb hyx
        refine wp_region_class (C:=fun W=>Below wo.heap.size wo W) (by kernel_rfl) (by kernel_rfl) hbc.drew ?_
        repeat
         first
          | ((with_reducible refine wpQuiet_ex ?_ ?_)
             ·(go_simp;done)
             apply Exists.intro
             refine ⟨fun W hW=>?_,?_⟩
             ·first
               | (have q0:=hlx W hW
                  have q1:=hly W hW
                  have q2:=heq W
                  go_simp
                  first
                   | rfl
                   | (simp only [Sem.run_bind,run_eqGuard_agg _ _ _ _ _ _ _ Tryz.eqGuardType42,q2,Result.andThen_ok];rfl))
             simp only [Act.put,List.setIfInBounds_toArray,List.set_cons_zero,List.set_cons_succ])
          | ((with_reducible refine wpQuiet_pass ?_ ?_)
             ·(first | rfl | (go_simp;done))
             simp only [Act.put,List.setIfInBounds_toArray,List.set_cons_zero,List.set_cons_succ])
        with_reducible refine wpQuiet_nil ?_
        intro w5 hW5
        go_wp2_with (fail)
        go_meet
        case rel=>exact ⟨rfl,rfl,hW5⟩
     case rest=>
      obtain ⟨rfl,rfl,hb8⟩:=hcut
      clear hfb hlo hbc
      cases fb with
      | false=>
        have hNX:NX=acc:=by simpa using hins.out
        rw [hNX] at hnext hnok
        have hown2:=own_below hown hb8
        have hbel2:=hbel.trans (hb8.mono hbel.size)
        clear hins hlx hform hown
        go_wp2_with (fail)
        go_roundg f
        case rel=>exact ⟨k+1,acc,by go_num,by omega,by omega,by omega,hnext,hnok,hown2,hbel2⟩
        case measure=>omega
      | true=>
        have hNX:NX=acc.take PP++[x]++acc.drop PP:=by simpa using hins.out
        have hNl:NX.length=0+PP+1+(acc.length-PP):=by rw [hNX];simp only [List.length_append,List.length_take,List.length_drop,List.length_singleton];omega
        have hrow:Hid (rowsOf idC (acc.take PP)++idC x++rowsOf idC (acc.drop PP)=rowsOf idC NX):=by show _=_;rw [hNX,rowsOf_append,rowsOf_append,rowsOf_one]
        have hbel8:=hbel.trans (hb8.mono hbel.size)
        have hidx:(idC x).length=32:=idC_len hxi
        have hk32:=idsK hall.out
        replace hNl:=Lib.hid hNl
        clear hown hins hNX
        rcases hform.out with ⟨rfl,rfl,rfl⟩ | ⟨g3,rfl,hg3,hr3⟩
        ·obtain rfl:PP=0:=by simpa using hPle
         clear hform
         go_upto_region 9 with (fail)
         refine wp_region_go0 16 (by kernel_rfl) (by kernel_rfl) (by kernel_rfl) (by kernel_rfl) ?_
         simp only [exSp]
         iterate 16 apply Exists.intro
         repeat
          first
           | ((with_reducible apply lx0_ex)
              ·(go_simp;done)
              apply Exists.intro
              apply And.intro
              ·apply Eq.refl
              apply And.intro
              ·intro W hW hD
               have q1:=hlx W (hb8.trans (hW.mono hb8.size))
               go_simp
               rfl
              simp only [Act.put,List.setIfInBounds_toArray,List.set_cons_zero,List.set_cons_succ])
           | ((with_reducible apply lx0_pass)
              ·(first | rfl | (go_simp;done))
              ·apply Eq.refl
              simp only [Act.put,List.setIfInBounds_toArray,List.set_cons_zero,List.set_cons_succ])
           | (first | (with_reducible apply lx_move') | (with_reducible apply lx_assign')
              ·apply Eq.refl
              apply Exists.intro
              apply And.intro
              ·(go_simp;rfl)
              simp only [Act.put,List.setIfInBounds_toArray,List.set_cons_zero,List.set_cons_succ])
           | ((with_reducible apply lx_slice0 Tryz.idsTy)
              ·apply Eq.refl
              intro v
              simp only [Act.put,List.setIfInBounds_toArray,List.set_cons_zero,List.set_cons_succ])
           | ((with_reducible apply lx_slice1 Tryz.idsTy (fun cs=>cs=u8s x) (by omega))
              ·apply Eq.refl
              apply Exists.intro
              apply And.intro
              ·(go_simp;rfl)
              refine ⟨fun W hF hD=>?_,?_⟩
              ·exact ⟨u8s x,rfl,by rw [u8s_size,hxi],rfl⟩
              intro v
              simp only [Act.put,List.setIfInBounds_toArray,List.set_cons_zero,List.set_cons_succ])
           | ((with_reducible apply lx_appC Tryz.idsTy 0 0 0 (fun xs=>xs=[]) (fun xs=>xs=rowsOf idC (([]:List Txt).take 0)) (by omega) (by omega) end0_less (by kernel_rfl) (by kernel_rfl) [] (fun q hq=>absurd hq (List.not_mem_nil)))
              ·apply Eq.refl
              apply Exists.intro
              apply Exists.intro
              apply And.intro
              ·(go_simp;rfl)
              apply And.intro
              ·(go_simp;rfl)
              refine ⟨(by first | exact List.Mem.head _ | exact List.Mem.tail _ (List.Mem.head _) | exact List.Mem.tail _ (List.Mem.tail _ (List.Mem.head _)) | exact List.Mem.tail _ (List.Mem.tail _ (List.Mem.tail _ (List.Mem.head _)))),fun W hF hD=>?_,?_⟩
              ·first
                | exact ⟨_,src_take hk32 (hr3.below (far_nil hF)) hPle,rowsOf_one' fun x _=>idC_one x,by rintro _ rfl;rfl⟩
                | exact ⟨[], .inr ⟨0,rfl,rfl,rfl⟩,fun u hu=>by simp at hu,by rintro _ rfl;rfl⟩
              intro v
              simp only [Act.put,List.setIfInBounds_toArray,List.set_cons_zero,List.set_cons_succ])
           | ((with_reducible apply lx_appC Tryz.idsTy 4 (0+0) 1 (fun xs=>xs=rowsOf idC (([]:List Txt).take 0)) (fun xs=>xs=rowsOf idC (([]:List Txt).take 0)++idC x) (by omega) (by omega) end0_less (by kernel_rfl) (by kernel_rfl) [] (fun q hq=>absurd hq (List.not_mem_nil)))
              ·apply Eq.refl
              apply Exists.intro
              apply Exists.intro
              apply And.intro
              ·(go_simp;rfl)
              apply And.intro
              ·(go_simp;rfl)
              refine ⟨(by first | exact List.Mem.head _ | exact List.Mem.tail _ (List.Mem.head _) | exact List.Mem.tail _ (List.Mem.tail _ (List.Mem.head _)) | exact List.Mem.tail _ (List.Mem.tail _ (List.Mem.tail _ (List.Mem.head _)))),fun W hF hD=>?_,?_⟩
              ·obtain ⟨F,g5,cs,rfl,_,hk5,rfl⟩:=hD.at 0 rfl (by kernel_rfl)
               refine ⟨idC x, .inl ⟨_,1,rfl,by rw [hidx],range_news (range_blk hk5)⟩,idC_one x,?_⟩
               rintro _ rfl
               rfl
              intro v
              simp only [Act.put,List.setIfInBounds_toArray,List.set_cons_zero,List.set_cons_succ])
           | ((with_reducible apply lx_appC Tryz.idsTy 10 (0+0+1) (([]:List Txt).length-0) (fun xs=>xs=rowsOf idC (([]:List Txt).take 0)++idC x) (fun xs=>xs=rowsOf idC (([]:List Txt).take 0)++idC x++rowsOf idC (([]:List Txt).drop 0)) (by omega) (by omega) end0_less (by kernel_rfl) (by kernel_rfl) [] (fun q hq=>absurd hq (List.not_mem_nil)))
              ·apply Eq.refl
              apply Exists.intro
              apply Exists.intro
              apply And.intro
              ·(go_simp;rfl)
              apply And.intro
              ·(go_simp;rfl)
              refine ⟨(by first | exact List.Mem.head _ | exact List.Mem.tail _ (List.Mem.head _) | exact List.Mem.tail _ (List.Mem.tail _ (List.Mem.head _)) | exact List.Mem.tail _ (List.Mem.tail _ (List.Mem.tail _ (List.Mem.head _)))),fun W hF hD=>?_,?_⟩
              ·first
                | exact ⟨_,src_drop hk32 (hr3.below (far_nil hF)) (.inl rfl) rfl,rowsOf_one' fun x _=>idC_one x,by rintro _ rfl;rfl⟩
                | exact ⟨_,src_drop hk32 (hr3.below (far_nil hF)) (.inr (by omega)) (by omega),rowsOf_one' fun x _=>idC_one x,by rintro _ rfl;rfl⟩
                | exact ⟨[], .inr ⟨0,rfl,rfl,rfl⟩,fun u hu=>by simp at hu,by rintro _ rfl;rfl⟩
              intro v
              simp only [Act.put,List.setIfInBounds_toArray,List.set_cons_zero,List.set_cons_succ])
         refine lx0_nil ?_ fun w5 hW5 hD5=>?_
         ·exact List.nodup_nil
         obtain ⟨F5,xs5,rfl,ho5,_⟩:=hD5 _ (.head _)
         have hown5:OwnIds w5 w.heap.size v NX:=by
          unfold OwnIds
          rw [hNl.out,←hrow.out]
          exact own_low' ho5 hbel8.size
         have hbel5:=hbel8.trans (hW5.mono hbel8.size)
         clear ho5 hD5 hlx
         go_wp2_with (fail)
         go_roundg f
         case rel=>exact ⟨k+1,NX,by go_num,by omega,by omega,by omega,hnext,hnok,hown5,hbel5⟩
         case measure=>omega
        ·replace hr3:=hr3.below hb8
         have hcl:=hr3.le
         have hc63:=hr3.top63
         have hPi:(PP:Int)≤(acc.length:Int):=by omega
         by_cases hcP:c3=PP
         ·replace hcP:=hcP.symm
          subst hcP
          clear hform
          go_upto_region 9 with (fail)
          refine wp_region_go0 16 (by kernel_rfl) (by kernel_rfl) (by kernel_rfl) (by kernel_rfl) ?_
          simp only [exSp]
          iterate 16 apply Exists.intro
          repeat
           first
            | ((with_reducible apply lx0_ex)
               ·(go_simp;done)
               apply Exists.intro
               apply And.intro
               ·apply Eq.refl
               apply And.intro
               ·intro W hW hD
                have q1:=hlx W (hb8.trans (hW.mono hb8.size))
                go_simp
                rfl
               simp only [Act.put,List.setIfInBounds_toArray,List.set_cons_zero,List.set_cons_succ])
            | ((with_reducible apply lx0_pass)
               ·(first | rfl | (go_simp;done))
               ·apply Eq.refl
               simp only [Act.put,List.setIfInBounds_toArray,List.set_cons_zero,List.set_cons_succ])
            | (first | (with_reducible apply lx_move') | (with_reducible apply lx_assign')
               ·apply Eq.refl
               apply Exists.intro
               apply And.intro
               ·(go_simp;rfl)
               simp only [Act.put,List.setIfInBounds_toArray,List.set_cons_zero,List.set_cons_succ])
            | ((with_reducible apply lx_slice0 Tryz.idsTy)
               ·apply Eq.refl
               intro v
               simp only [Act.put,List.setIfInBounds_toArray,List.set_cons_zero,List.set_cons_succ])
            | ((with_reducible apply lx_slice1 Tryz.idsTy (fun cs=>cs=u8s x) (by omega))
               ·apply Eq.refl
               apply Exists.intro
               apply And.intro
               ·(go_simp;rfl)
               refine ⟨fun W hF hD=>?_,?_⟩
               ·exact ⟨u8s x,rfl,by rw [u8s_size,hxi],rfl⟩
               intro v
               simp only [Act.put,List.setIfInBounds_toArray,List.set_cons_zero,List.set_cons_succ])
            | ((with_reducible apply lx_appC Tryz.idsTy 0 0 PP (fun xs=>xs=[]) (fun xs=>xs=rowsOf idC (acc.take PP)) (by omega) (by omega) end0_less (by kernel_rfl) (by kernel_rfl) [] (fun q hq=>absurd hq (List.not_mem_nil)))
               ·apply Eq.refl
               apply Exists.intro
               apply Exists.intro
               apply And.intro
               ·(go_simp;rfl)
               apply And.intro
               ·(go_simp;rfl)
               refine ⟨(by first | exact List.Mem.head _ | exact List.Mem.tail _ (List.Mem.head _) | exact List.Mem.tail _ (List.Mem.tail _ (List.Mem.head _)) | exact List.Mem.tail _ (List.Mem.tail _ (List.Mem.tail _ (List.Mem.head _)))),fun W hF hD=>?_,?_⟩
               ·first
                 | exact ⟨_,src_take hk32 (hr3.below (far_nil hF)) hPle,rowsOf_one' fun x _=>idC_one x,by rintro _ rfl;rfl⟩
                 | exact ⟨[], .inr ⟨0,rfl,rfl,rfl⟩,fun u hu=>by simp at hu,by rintro _ rfl;rfl⟩
               intro v
               simp only [Act.put,List.setIfInBounds_toArray,List.set_cons_zero,List.set_cons_succ])
            | ((with_reducible apply lx_appC Tryz.idsTy 4 (0+PP) 1 (fun xs=>xs=rowsOf idC (acc.take PP)) (fun xs=>xs=rowsOf idC (acc.take PP)++idC x) (by omega) (by omega) end0_less (by kernel_rfl) (by kernel_rfl) [] (fun q hq=>absurd hq (List.not_mem_nil)))
               ·apply Eq.refl
               apply Exists.intro
               apply Exists.intro
               apply And.intro
               ·(go_simp;rfl)
               apply And.intro
               ·(go_simp;rfl)
               refine ⟨(by first | exact List.Mem.head _ | exact List.Mem.tail _ (List.Mem.head _) | exact List.Mem.tail _ (List.Mem.tail _ (List.Mem.head _)) | exact List.Mem.tail _ (List.Mem.tail _ (List.Mem.tail _ (List.Mem.head _)))),fun W hF hD=>?_,?_⟩
               ·obtain ⟨F,g5,cs,rfl,_,hk5,rfl⟩:=hD.at 0 rfl (by kernel_rfl)
                refine ⟨idC x, .inl ⟨_,1,rfl,by rw [hidx],range_news (range_blk hk5)⟩,idC_one x,?_⟩
                rintro _ rfl
                rfl
               intro v
               simp only [Act.put,List.setIfInBounds_toArray,List.set_cons_zero,List.set_cons_succ])
            | ((with_reducible apply lx_appC Tryz.idsTy 10 (0+PP+1) 0 (fun xs=>xs=rowsOf idC (acc.take PP)++idC x) (fun xs=>xs=rowsOf idC (acc.take PP)++idC x++rowsOf idC (acc.drop PP)) (by omega) (by omega) end0_less (by kernel_rfl) (by kernel_rfl) [] (fun q hq=>absurd hq (List.not_mem_nil)))
               ·apply Eq.refl
               apply Exists.intro
               apply Exists.intro
               apply And.intro
               ·(go_simp;rfl)
               apply And.intro
               ·(go_simp;rfl)
               refine ⟨(by first | exact List.Mem.head _ | exact List.Mem.tail _ (List.Mem.head _) | exact List.Mem.tail _ (List.Mem.tail _ (List.Mem.head _)) | exact List.Mem.tail _ (List.Mem.tail _ (List.Mem.tail _ (List.Mem.head _)))),fun W hF hD=>?_,?_⟩
               ·first
                 | exact ⟨_,src_drop hk32 (hr3.below (far_nil hF)) (.inl rfl) rfl,rowsOf_one' fun x _=>idC_one x,by rintro _ rfl;rfl⟩
                 | exact ⟨_,src_drop hk32 (hr3.below (far_nil hF)) (.inr (by omega)) (by omega),rowsOf_one' fun x _=>idC_one x,by rintro _ rfl;rfl⟩
                 | exact ⟨[], .inr ⟨0,rfl,rfl,rfl⟩,fun u hu=>by simp at hu,by rintro _ rfl;rfl⟩
               intro v
               simp only [Act.put,List.setIfInBounds_toArray,List.set_cons_zero,List.set_cons_succ])
          refine lx0_nil ?_ fun w5 hW5 hD5=>?_
          ·exact List.nodup_nil
          obtain ⟨F5,xs5,rfl,ho5,_⟩:=hD5 _ (.head _)
          have hown5:OwnIds w5 w.heap.size v NX:=by
           unfold OwnIds
           rw [hNl.out,←hrow.out,show acc.length-PP=0 from by omega]
           exact own_low' ho5 hbel8.size
          have hbel5:=hbel8.trans (hW5.mono hbel8.size)
          clear ho5 hD5 hlx
          go_wp2_with (fail)
          go_roundg f
          case rel=>exact ⟨k+1,NX,by go_num,by omega,by omega,by omega,hnext,hnok,hown5,hbel5⟩
          case measure=>omega
         ·have hPc:(PP:Int)≤(c3:Int):=by omega
          clear hform
          go_upto_region 9 with (fail)
          refine wp_region_go0 16 (by kernel_rfl) (by kernel_rfl) (by kernel_rfl) (by kernel_rfl) ?_
          simp only [exSp]
          iterate 16 apply Exists.intro
          repeat
           first
            | ((with_reducible apply lx0_ex)
               ·(go_simp;done)
               apply Exists.intro
               apply And.intro
               ·apply Eq.refl
               apply And.intro
               ·intro W hW hD
                have q1:=hlx W (hb8.trans (hW.mono hb8.size))
                go_simp
                rfl
               simp only [Act.put,List.setIfInBounds_toArray,List.set_cons_zero,List.set_cons_succ])
            | ((with_reducible apply lx0_pass)
               ·(first | rfl | (go_simp;done))
               ·apply Eq.refl
               simp only [Act.put,List.setIfInBounds_toArray,List.set_cons_zero,List.set_cons_succ])
            | (first | (with_reducible apply lx_move') | (with_reducible apply lx_assign')
               ·apply Eq.refl
               apply Exists.intro
               apply And.intro
               ·(go_simp;rfl)
               simp only [Act.put,List.setIfInBounds_toArray,List.set_cons_zero,List.set_cons_succ])
            | ((with_reducible apply lx_slice0 Tryz.idsTy)
               ·apply Eq.refl
               intro v
               simp only [Act.put,List.setIfInBounds_toArray,List.set_cons_zero,List.set_cons_succ])
            | ((with_reducible apply lx_slice1 Tryz.idsTy (fun cs=>cs=u8s x) (by omega))
               ·apply Eq.refl
               apply Exists.intro
               apply And.intro
               ·(go_simp;rfl)
               refine ⟨fun W hF hD=>?_,?_⟩
               ·exact ⟨u8s x,rfl,by rw [u8s_size,hxi],rfl⟩
               intro v
               simp only [Act.put,List.setIfInBounds_toArray,List.set_cons_zero,List.set_cons_succ])
            | ((with_reducible apply lx_appC Tryz.idsTy 0 0 PP (fun xs=>xs=[]) (fun xs=>xs=rowsOf idC (acc.take PP)) (by omega) (by omega) end0_less (by kernel_rfl) (by kernel_rfl) [] (fun q hq=>absurd hq (List.not_mem_nil)))
               ·apply Eq.refl
               apply Exists.intro
               apply Exists.intro
               apply And.intro
               ·(go_simp;rfl)
               apply And.intro
               ·(go_simp;rfl)
               refine ⟨(by first | exact List.Mem.head _ | exact List.Mem.tail _ (List.Mem.head _) | exact List.Mem.tail _ (List.Mem.tail _ (List.Mem.head _)) | exact List.Mem.tail _ (List.Mem.tail _ (List.Mem.tail _ (List.Mem.head _)))),fun W hF hD=>?_,?_⟩
               ·first
                 | exact ⟨_,src_take hk32 (hr3.below (far_nil hF)) hPle,rowsOf_one' fun x _=>idC_one x,by rintro _ rfl;rfl⟩
                 | exact ⟨[], .inr ⟨0,rfl,rfl,rfl⟩,fun u hu=>by simp at hu,by rintro _ rfl;rfl⟩
               intro v
               simp only [Act.put,List.setIfInBounds_toArray,List.set_cons_zero,List.set_cons_succ])
            | ((with_reducible apply lx_appC Tryz.idsTy 4 (0+PP) 1 (fun xs=>xs=rowsOf idC (acc.take PP)) (fun xs=>xs=rowsOf idC (acc.take PP)++idC x) (by omega) (by omega) end0_less (by kernel_rfl) (by kernel_rfl) [] (fun q hq=>absurd hq (List.not_mem_nil)))
               ·apply Eq.refl
               apply Exists.intro
               apply Exists.intro
               apply And.intro
               ·(go_simp;rfl)
               apply And.intro
               ·(go_simp;rfl)
               refine ⟨(by first | exact List.Mem.head _ | exact List.Mem.tail _ (List.Mem.head _) | exact List.Mem.tail _ (List.Mem.tail _ (List.Mem.head _)) | exact List.Mem.tail _ (List.Mem.tail _ (List.Mem.tail _ (List.Mem.head _)))),fun W hF hD=>?_,?_⟩
               ·obtain ⟨F,g5,cs,rfl,_,hk5,rfl⟩:=hD.at 0 rfl (by kernel_rfl)
                refine ⟨idC x, .inl ⟨_,1,rfl,by rw [hidx],range_news (range_blk hk5)⟩,idC_one x,?_⟩
                rintro _ rfl
                rfl
               intro v
               simp only [Act.put,List.setIfInBounds_toArray,List.set_cons_zero,List.set_cons_succ])
            | ((with_reducible apply lx_appC Tryz.idsTy 10 (0+PP+1) (acc.length-PP) (fun xs=>xs=rowsOf idC (acc.take PP)++idC x) (fun xs=>xs=rowsOf idC (acc.take PP)++idC x++rowsOf idC (acc.drop PP)) (by omega) (by omega) end0_less (by kernel_rfl) (by kernel_rfl) [] (fun q hq=>absurd hq (List.not_mem_nil)))
               ·apply Eq.refl
               apply Exists.intro
               apply Exists.intro
               apply And.intro
               ·(go_simp;rfl)
               apply And.intro
               ·(go_simp;rfl)
               refine ⟨(by first | exact List.Mem.head _ | exact List.Mem.tail _ (List.Mem.head _) | exact List.Mem.tail _ (List.Mem.tail _ (List.Mem.head _)) | exact List.Mem.tail _ (List.Mem.tail _ (List.Mem.tail _ (List.Mem.head _)))),fun W hF hD=>?_,?_⟩
               ·first
                 | exact ⟨_,src_drop hk32 (hr3.below (far_nil hF)) (.inl rfl) rfl,rowsOf_one' fun x _=>idC_one x,by rintro _ rfl;rfl⟩
                 | exact ⟨_,src_drop hk32 (hr3.below (far_nil hF)) (.inr (by omega)) (by omega),rowsOf_one' fun x _=>idC_one x,by rintro _ rfl;rfl⟩
                 | exact ⟨[], .inr ⟨0,rfl,rfl,rfl⟩,fun u hu=>by simp at hu,by rintro _ rfl;rfl⟩
               intro v
               simp only [Act.put,List.setIfInBounds_toArray,List.set_cons_zero,List.set_cons_succ])
          refine lx0_nil ?_ fun w5 hW5 hD5=>?_
          ·exact List.nodup_nil
          obtain ⟨F5,xs5,rfl,ho5,_⟩:=hD5 _ (.head _)
          have hown5:OwnIds w5 w.heap.size v NX:=by
           unfold OwnIds
           rw [hNl.out,←hrow.out]
           exact own_low' ho5 hbel8.size
          have hbel5:=hbel8.trans (hW5.mono hbel8.size)
          clear ho5 hD5 hlx
          go_wp2_with (fail)
          go_roundg f
          case rel=>exact ⟨k+1,NX,by go_num,by omega,by omega,by omega,hnext,hnok,hown5,hbel5⟩
          case measure=>omega
  | zero=>
    have hki : ¬ (k:Int)<(l.length:Int):=by omega
    have hkl:k=l.length:=by omega
    subst hkl
    go_wp2_with (fail)
    go_ret
    refine ⟨_,rfl,?_,hbel⟩
    rw [hfin.out,←hacc.out]
    exact hown
end Go.Proofs.YtlojebhcemfodaaGreatDoor
namespace Go.Proofs.YtlojebhcemfodaaGreatDoor
open Go.RowKit
attribute [local go_sem ↓] ldvI_eq
/-- What lies there while two lists of ids are looked at. -/
structure TwoC (w:World) (ga oa gb ob:Nat) (x:Txt) (w':World):Prop where
 a_:w'.rangeAt ga oa (idC x)
 b_:w'.rangeAt gb ob (idC x)
 bel:Below w.heap.size w w'
theorem TwoC.drew {w:World} {ga oa gb ob:Nat} {x:Txt} {w':World} (h:TwoC w ga oa gb ob x w'):TwoC w ga oa gb ob x w'.drew:=⟨h.a_,h.b_,h.bel.drew⟩
theorem quiet_neq_idC {C:World→Prop} {W:World} {a:Act} {d:Option Tmp} {rt t':TypeId} {pos:String} {af:Array Edge} {gd:Option (Nat×Bool)} {x y:Operand} (p:Txt) (hp:p.length=32)
 (hx:a.eval x = .agg (idC p).toArray) (hy:a.eval y = .agg (idC p).toArray):Oper.quietUpon Tryz.prog C W (.bool false) ((execOp a.eval { dst:=d,op := .binOp .neq 42 x y t',type:=rt,pos:=pos,after:=af,guard:=gd }).run Tryz.prog W):=by
 have e:(idC p).toArray=u8s p:=by simp [idC]
 rw [e] at hx hy
 unfold execOp
 simp only [hx,hy,Sem.run_bind,run_eqGuard_agg _ _ _ _ _ _ _ Tryz.eqGuardType42,run_neq_id W p p hp hp,Result.andThen_ok,decide_true,Bool.not_true]
 exact ⟨rfl,rfl⟩
set_option maxRecDepth 100000 in
set_option maxHeartbeats 2000000 in
theorem refSame02_calls (l:List Txt) (hok : ∀ x∈l,x.length=32) (va vb:Value) (w:World) (ha:Ids w va l) (hb:Ids w vb l) :
 Calls Tryz.prog 13 #[va,vb] w fun e w'=>e = .returned (.bool true)∧Below w.heap.size w w':=by
 have hla:=ha.len
 obtain ⟨A,capa,rfl,ha1,ha2,hata⟩:=ha
 obtain ⟨B',capb,rfl,hb1,hb2,hatb⟩:=hb
 go_enter Tryz.func13,Tryz.ntmps13
 go_wp2
 go_loopw [5] (fun i wr => ∃ k:Nat,i = .int .i64 k∧k≤l.length∧Below w.heap.size w wr) (fun i _=>l.length-(intOf i).toNat)
 case atStart=>exact ⟨0,rfl,by omega,Below.refl _ _⟩
 case round=>
  obtain ⟨k,rfl,hk,hbel⟩:=hrel
  by_cases hlt:k<l.length
  ·have hki:(k:Int)<(l.length:Int):=by omega
   obtain ⟨ga,oa,rfl,hga,hca⟩:=hata (by omega)
   obtain ⟨gb,ob,rfl,hgb,hcb⟩:=hatb (by omega)
   obtain ⟨x,hx⟩ : ∃ x,l[k]?=some x:=⟨_,List.getElem?_eq_getElem hlt⟩
   have hxok:=hok x (List.mem_of_getElem? hx)
   have hS:TwoC w ga (oa+k*32) gb (ob+k*32) x wr:=⟨rangeAt_below (hca k x hx) hga hbel,rangeAt_below (hcb k x hx) hgb hbel,hbel⟩
   have hsz:(Tryz.prog.info? 42).map (·.size)=some (idC x).length:=by rw [idC_len hxok];exact sz32
   clear hx hata hatb hca hcb hbel hok
   go_wp2
   refine wp_region_class (C:=TwoC w ga (oa+k*32) gb (ob+k*32) x) (by kernel_rfl) (by kernel_rfl) hS.drew ?_
   repeat
    first
     | ((with_reducible refine wpQuiet_ex ?_ ?_)
        ·(go_simp;done)
        apply Exists.intro
        refine ⟨fun W hW=>?_,?_⟩
        ·first
          | exact quiet_load_mid _ _ rfl ga (oa+k*32) rfl (idC x) _ hW.a_ Tryz.underlying42 rfl hsz rfl
          | exact quiet_load_mid _ _ rfl gb (ob+k*32) rfl (idC x) _ hW.b_ Tryz.underlying42 rfl hsz rfl
          | ((with_reducible refine quiet_neq_idC x hxok ?_ ?_)<;>rfl)
          | (go_simp
             first
              | rfl)
        simp only [Act.put,List.setIfInBounds_toArray,List.set_cons_zero,List.set_cons_succ])
     | ((with_reducible refine wpQuiet_pass ?_ ?_)
        ·(first | rfl | (go_simp;done))
        simp only [Act.put,List.setIfInBounds_toArray,List.set_cons_zero,List.set_cons_succ])
   with_reducible refine wpQuiet_nil ?_
   intro w5 hW5
   go_wp2
   go_roundw
   case rel=>exact ⟨k+1,by go_num,by omega,hW5.bel⟩
   case measure=>simp [intOf];omega
  ·have hki : ¬ (k:Int)<(l.length:Int):=by omega
   go_wp2
   go_ret
   exact ⟨rfl,hbel⟩
end Go.Proofs.YtlojebhcemfodaaGreatDoor
namespace Go.Proofs.YtlojebhcemfodaaGreatDoor
open Go.RowKit
attribute [local go_sem ↓] ldvI_eq
end Go.Proofs.YtlojebhcemfodaaGreatDoor
namespace Go.Proofs.YtlojebhcemfodaaGreatDoor
/-- A figure's number; 16: it is none. -/
def figN (c:UInt8):Nat:=if 48≤c.toNat∧c.toNat≤57 then c.toNat-48 else if 97≤c.toNat∧c.toNat≤102 then c.toNat-87 else 16
/-- Is it a text of an id? -/
def fg (s:List UInt8) (i:Nat):Nat:=figN (s.getD i 0)
def Figs (s:List UInt8) (i:Nat):Prop := ∀ j,j<i→fg s j<16
theorem Figs.step {s:List UInt8} {i:Nat} (h:Figs s i) (hi:fg s i<16):Figs s (i+1):=fun j hj=>by
 rcases Nat.lt_or_ge j i with h1 | h1
 ·exact h j h1
 ·rw [show j=i from by omega];exact hi
end Go.Proofs.YtlojebhcemfodaaGreatDoor
namespace Go.Proofs.YtlojebhcemfodaaGreatDoor
open Go.RowKit
--FI
end Go.Proofs.YtlojebhcemfodaaGreatDoor
namespace Go.Proofs.YtlojebhcemfodaaGreatDoor
open Go.RowKit
--FI
end Go.Proofs.YtlojebhcemfodaaGreatDoor
namespace Go.Proofs.YtlojebhcemfodaaGreatDoor
open Go.RowKit
theorem results_row2_tmp {P:Program} {fn:Func} {p q r:Tmp} {ty ty':TypeId} (h:fn.results = #[.cell p ty, .cell q ty', .tmp r]) (tmps:Array Value) (w:World) (g g':Nat) (t t':TypeId) (cs cs':Array Value) (fr fr':Nat×Nat) (d d':TypeDesc)
 (hp:tmps.getD p undef = .pointer (some ⟨g,0,none⟩)) (hg:w.heap[g]?=some (.cells cs t fr)) (hq:tmps.getD q undef = .pointer (some ⟨g',0,none⟩)) (hg':w.heap[g']?=some (.cells cs' t' fr'))
 (hu:P.underlying ty=some d) (hd:(match d with | .struct _ | .array _ _=>true | _=>false)=true) (hi:(P.info? ty).map (·.size)=some cs.size)
 (hu':P.underlying ty'=some d') (hd':(match d' with | .struct _ | .array _ _=>true | _=>false)=true) (hi':(P.info? ty').map (·.size)=some cs'.size) :
 (results fn tmps).run P w = .ok (.tuple #[.agg cs, .agg cs',tmps.getD r undef]) w:=by
 have hp':tmps[p]?.getD undef = .pointer (some ⟨g,0,none⟩):=by simpa using hp
 have hq':tmps[q]?.getD undef = .pointer (some ⟨g',0,none⟩):=by simpa using hq
 simp [results,h,hp',hq',asAddr,run_loadVar_row w g t ty cs fr d hg hu hd hi,run_loadVar_row w g' t' ty' cs' fr' d' hg' hu' hd' hi']
theorem built_docSt (A:Option Addr) (n c:Nat):Tryz.prog.built 28 [(0, .slice A n c)]=some #[.slice A n c]:=by kernel_rfl
set_option maxRecDepth 100000 in
theorem built_dit {w:World} (e:DiL) (he:DitOk w e):Tryz.prog.built 62 [(0, .agg (u8s e.st.id)),(1, .string (B e.st.text)),(2, .agg (objC e.o e.ve e.vp).toArray)]=some (ditC e).toArray:=by
 obtain ⟨it,hi,hz,hs,hb⟩:=Tryz.ditTy.hi
 have hpl:(match Tryz.prog.underlying 62 with | some (.struct fields)=>fields.toList.mapM (fun f=>(Tryz.prog.info? f.type).map fun i=>(f.offset,i.size)) | _=>none)=some [(0,32),(32,1),(33,72)]:=by kernel_rfl
 have hu:=Tryz.underlying62
 rw [hu] at hpl
 unfold Program.built
 rw [hi,hu]
 simp only [hz]
 simp only at hpl
 rw [hpl]
 have hid:=he.id
 have hO:=objC_len he.val.ok e.ve e.vp
 have e0:(Value.agg (u8s e.st.id)).cells=u8s e.st.id:=rfl
 have e1:(Value.string (B e.st.text)).cells = #[.string (B e.st.text)]:=rfl
 have e2:(Value.agg (objC e.o e.ve e.vp).toArray).cells=(objC e.o e.ve e.vp).toArray:=rfl
 have f1 : ∀ c:Array Value,Array.foldl (fun cs (x:Value×Nat)=>cs.setIfInBounds (32+x.snd) x.fst) c (#[.string (B e.st.text)]:Array Value).zipIdx=c.setIfInBounds 32 (.string (B e.st.text)):=fun c=>rfl
 have f0 : ∀ c:Array Value,Array.foldl (fun cs (x:Value×Nat)=>cs.setIfInBounds (0+x.snd) x.fst) c (u8s e.st.id).zipIdx=(u8s e.st.id).toList.zipIdx.foldl (fun cs (x:Value×Nat)=>cs.setIfInBounds (0+x.snd) x.fst) c:=fun c=>by
  rw [←Array.foldl_toList,Array.toList_zipIdx]
 have f2 : ∀ c:Array Value,Array.foldl (fun cs (x:Value×Nat)=>cs.setIfInBounds (33+x.snd) x.fst) c (objC e.o e.ve e.vp).toArray.zipIdx=(objC e.o e.ve e.vp).zipIdx.foldl (fun cs (x:Value×Nat)=>cs.setIfInBounds (33+x.snd) x.fst) c:=fun c=>by
  rw [←Array.foldl_toList,Array.toList_zipIdx,List.toList_toArray]
 have g0:(#[(0,32),(32,1),(33,72)]:Array (Nat×Nat))[0]?=some (0,32):=rfl
 have g1:(#[(0,32),(32,1),(33,72)]:Array (Nat×Nat))[1]?=some (32,1):=rfl
 have g2:(#[(0,32),(32,1),(33,72)]:Array (Nat×Nat))[2]?=some (33,72):=rfl
 obtain ⟨Z,hZ⟩ : ∃ Z,Z=zDit.cells:=⟨_,rfl⟩
 have hZl:Z.size=105:=by rw [hZ];rfl
 have hidl:(u8s e.st.id).toList.length=32:=by rw [u8s_lenS,hid]
 have h1:(u8s e.st.id).toList.zipIdx.foldl (fun cs (x:Value×Nat)=>cs.setIfInBounds (0+x.snd) x.fst) Z=([]++((u8s e.st.id).toList++Z.toList.drop 32)).toArray:=by
  refine fold_mid 0 _ [] (u8s e.st.id).toList (Z.toList.drop 32) rfl (by rw [List.length_drop,hidl,Array.length_toList,hZl]) (fun i hi=>absurd hi (by omega)) (fun i=>?_)
  rw [hidl,List.getElem?_drop,Array.getElem?_toList,Nat.zero_add]
 have hd32:Z.toList.drop 32=Z.toList[32]'(by rw [Array.length_toList,hZl];omega)::Z.toList.drop 33:=List.drop_eq_getElem_cons (by rw [Array.length_toList,hZl];omega)
 have h2:(([]:List Value)++((u8s e.st.id).toList++Z.toList.drop 32)).toArray.setIfInBounds 32 (.string (B e.st.text))=((u8s e.st.id).toList++Value.string (B e.st.text)::Z.toList.drop 33).toArray:=by
  rw [List.nil_append,List.setIfInBounds_toArray,List.set_append_right _ _ (by omega),hidl,hd32]
  rfl
 have h3:(objC e.o e.ve e.vp).zipIdx.foldl (fun cs (x:Value×Nat)=>cs.setIfInBounds (33+x.snd) x.fst) ((u8s e.st.id).toList++Value.string (B e.st.text)::Z.toList.drop 33).toArray=(((u8s e.st.id).toList++[Value.string (B e.st.text)])++(objC e.o e.ve e.vp++[])).toArray:=by
  refine fold_mid 33 _ ((u8s e.st.id).toList++[Value.string (B e.st.text)]) (objC e.o e.ve e.vp) [] (by rw [List.length_append,hidl];rfl) ?_ (fun i hi=>?_) (fun i=>?_)
  ·rw [List.size_toArray,List.length_append,hidl,List.length_cons,List.length_drop,Array.length_toList,hZl,hO];rfl
  ·rw [List.getElem?_toArray,show (u8s e.st.id).toList++Value.string (B e.st.text)::Z.toList.drop 33=((u8s e.st.id).toList++[Value.string (B e.st.text)])++Z.toList.drop 33 from by simp,List.getElem?_append_left (by rw [List.length_append,hidl];exact hi)]
  ·rw [List.getElem?_toArray,hO,List.getElem?_eq_none (by rw [List.length_append,hidl,List.length_cons,List.length_drop,Array.length_toList,hZl];omega)]
   rfl
 simp only [Instr.fill,g0,g1,g2,e0,e1,e2]
 rw [←hZ,f0,if_neg (by simp [u8s_size,hid,hZl]),h1,f1,if_neg (by simp [hidl,hZl]),h2,f2,if_neg (by simp [hidl,hZl,hO]),h3]
 congr 1
 unfold ditC
 simp
/-- The document's list while it is laid anew: k items seen; nw stands at p. -/
def accL (es:List DiL) (nw:DiL) (p k:Nat):List DiL:=if p<k then es.take p++[nw]++(es.take k).drop p else es.take k
theorem acc_before {es:List DiL} {nw x:DiL} {p k:Nat} (hx:es[k]?=some x) (h:k<p):accL es nw p (k+1)=accL es nw p k++[x]:=by
 unfold accL
 rw [if_neg (by omega),if_neg (by omega),List.take_add_one,hx]
 rfl
theorem acc_at {es:List DiL} {nw x:DiL} {p:Nat} (hx:es[p]?=some x):accL es nw p (p+1)=accL es nw p p++[nw]++[x]:=by
 have hlt:=(List.getElem?_eq_some_iff.1 hx).1
 unfold accL
 rw [if_pos (by omega),if_neg (by omega),List.take_add_one,hx]
 congr 1
 rw [List.drop_append,List.drop_eq_nil_of_le (by rw [List.length_take];omega),List.length_take,Nat.min_eq_left (by omega),Nat.sub_self]
 rfl
theorem acc_behind {es:List DiL} {nw x:DiL} {p k:Nat} (hx:es[k]?=some x) (h:p<k):accL es nw p (k+1)=accL es nw p k++[x]:=by
 have hlt:=(List.getElem?_eq_some_iff.1 hx).1
 unfold accL
 rw [if_pos (by omega),if_pos h,List.take_add_one,hx,List.drop_append_of_le_length (by rw [List.length_take];omega),List.append_assoc,List.append_assoc,List.append_assoc]
 rfl
theorem acc_end {es:List DiL} {nw:DiL} {p:Nat} (h:p<es.length):accL es nw p es.length=es.take p++[nw]++es.drop p:=by
 unfold accL
 rw [if_pos h,List.take_length]
theorem acc_last {es:List DiL} {nw:DiL}:accL es nw es.length es.length++[nw]=es.take es.length++[nw]++es.drop es.length:=by
 unfold accL
 rw [if_neg (by omega),List.drop_length,List.append_nil]
theorem acc_len (es:List DiL) (nw:DiL) (p k:Nat):(accL es nw p k).length≤es.length+1:=by
 unfold accL
 split
 ·simp only [List.length_append,List.length_take,List.length_drop,List.length_cons,List.length_nil];omega
 ·rw [List.length_take];omega
theorem OwnDits.more {w:World} {B:Nat} {v:Value} {l:List DiL} {x:DiL} (h:w.ownsRow B 62 105 v (l.length+1) (rowsOf ditC l++(ditC x).toArray.toList)):OwnDits w B v (l++[x]):=by
 unfold OwnDits
 rw [rowsOf_append,rowsOf_one,List.length_append]
 rwa [List.toList_toArray] at h
end Go.Proofs.YtlojebhcemfodaaGreatDoor
namespace Go.Proofs.YtlojebhcemfodaaGreatDoor
open Go.RowKit
attribute [local go_sem ↓] ldvO_eq
theorem fold_at (q:Nat) (c0:Array Value) (pre:List Value) (l:List Value) (hq:pre.length=q) (h0:c0.size=q+l.length) (hp : ∀ i,i<q→c0[i]?=pre[i]?) :
 (l.zipIdx 0).foldl (fun cs (x:Value×Nat)=>cs.setIfInBounds (q+x.2) x.1) c0=(pre++l).toArray:=by
 obtain ⟨h1,h2⟩:=Great.foldl_set q l 0 c0
 apply Array.ext_getElem?
 intro k
 rw [h2 k]
 by_cases hk:k<q
 ·rw [if_neg (by omega),hp k hk]
  simp [List.getElem?_append_left (show k<pre.length by omega)]
 ·by_cases hk2:k<q+l.length
  ·rw [if_pos ⟨by omega,by omega,by omega⟩]
   simp [List.getElem?_append_right (show pre.length≤k by omega),hq]
  ·rw [if_neg (by omega),Array.getElem?_eq_none (by omega)]
   symm
   rw [Array.getElem?_eq_none (by simp;omega)]
theorem zEnt_cells : zEnt.cells.size=34:=rfl
set_option maxRecDepth 100000 in
theorem built_entry (n:Txt) (k:Int) (id:Txt) (hid:id.length=32):Tryz.prog.built 134 [(1, .int .i64 k),(0, .string (B n)),(2, .agg (u8s id))]=some (entC ⟨n,k,id⟩).toArray:=by
 obtain ⟨it,hi,hz,hs,hb⟩:=Tryz.entTy.hi
 have hpl:(match Tryz.prog.underlying 134 with | some (.struct fields)=>fields.toList.mapM (fun f=>(Tryz.prog.info? f.type).map fun i=>(f.offset,i.size)) | _=>none)=some [(0,1),(1,1),(2,32)]:=by kernel_rfl
 have hu:=Tryz.underlying134
 rw [hu] at hpl
 unfold Program.built
 rw [hi,hu]
 simp only [hz]
 simp only at hpl
 rw [hpl]
 have h34:=zEnt_cells
 have e0:(Value.string (B n)).cells = #[.string (B n)]:=rfl
 have e1:(Value.int .i64 k).cells = #[.int .i64 k]:=rfl
 have e2:(Value.agg (u8s id)).cells=u8s id:=rfl
 have f0 : ∀ c:Array Value,Array.foldl (fun cs (x:Value×Nat)=>cs.setIfInBounds (0+x.snd) x.fst) c (#[.string (B n)]:Array Value).zipIdx=c.setIfInBounds 0 (.string (B n)):=fun c=>rfl
 have f1 : ∀ c:Array Value,Array.foldl (fun cs (x:Value×Nat)=>cs.setIfInBounds (1+x.snd) x.fst) c (#[.int .i64 k]:Array Value).zipIdx=c.setIfInBounds 1 (.int .i64 k):=fun c=>rfl
 have f2 : ∀ c:Array Value,Array.foldl (fun cs (x:Value×Nat)=>cs.setIfInBounds (2+x.snd) x.fst) c (u8s id).zipIdx=(id.map u8v).zipIdx.foldl (fun cs (x:Value×Nat)=>cs.setIfInBounds (2+x.snd) x.fst) c:=fun c=>by
  rw [←Array.foldl_toList,Array.toList_zipIdx]
  rfl
 have g0:(#[(0,1),(1,1),(2,32)]:Array (Nat×Nat))[0]?=some (0,1):=rfl
 have g1:(#[(0,1),(1,1),(2,32)]:Array (Nat×Nat))[1]?=some (1,1):=rfl
 have g2:(#[(0,1),(1,1),(2,32)]:Array (Nat×Nat))[2]?=some (2,32):=rfl
 have hfin:(id.map u8v).zipIdx.foldl (fun cs (x:Value×Nat)=>cs.setIfInBounds (2+x.snd) x.fst) ((zEnt.cells.setIfInBounds 1 (.int .i64 k)).setIfInBounds 0 (.string (B n)))=(entC ⟨n,k,id⟩).toArray:=by
  rw [fold_at 2 _ [.string (B n), .int .i64 k] (id.map u8v) rfl (by rw [Array.size_setIfInBounds,Array.size_setIfInBounds,h34,List.length_map,hid]) (fun i hi=>by
   rw [Array.getElem?_setIfInBounds,Array.getElem?_setIfInBounds]
   match i,hi with
   | 0,_=>simp [h34]
   | 1,_=>simp [h34])]
  unfold entC
  rw [show (u8s id).toList=id.map u8v from by simp [u8s]]
  rfl
 simp only [Instr.fill,g0,g1,g2,e0,e1,e2]
 rw [f1,if_neg (by simp [h34]),f0,if_neg (by simp [h34]),f2,if_neg (by simp [u8s_size,hid,h34]),hfin]
theorem takeN_le (s:Txt):(takeN s).2≤s.length∧(takeN s).1.length≤s.length:=by
 by_cases h:(getN s).2=0
 ·rw [takeN_zero h];simp
 ·by_cases h2:s.length-(getN s).2<(getN s).1
  ·rw [takeN_short h h2];simp
  ·rw [takeN_yes h (by omega)]
   have:=getN_le s
   simp
   omega
/-- What lies there while an object is guessed: the result's cells, and all that was. -/
structure GsI (w:World) (W:World):Prop where
 z:Blk W w.heap.size 54 zObj
 bel:Below w.heap.size w W
theorem GsI.below {w W W':World} (h:GsI w W) (hb:Below W.heap.size W W'):GsI w W':=⟨h.z.below hb h.z.lt,bthen h.bel h.bel.size hb⟩
theorem GsI.low {w W W':World} {B0:Nat} (h:GsI w W) (hB:w.heap.size<B0) (hb:Below B0 W W'):GsI w W':=⟨(hb.block _ hB).trans h.z,h.bel.trans (hb.mono (Nat.le_of_lt hB))⟩
theorem GsI.set_ {w W:World} (h:GsI w W) {g o:Nat} (hg:w.heap.size<g) (v:Value):GsI w (W.setCell ⟨g,o,none⟩ v):=⟨h.z.far (by simp;omega) v,h.bel.setCell (Nat.le_of_lt hg) v⟩
theorem GsI.cells_ {w W:World} (h:GsI w W) {g o:Nat} (hg:w.heap.size<g) (vs:List Value):GsI w (W.setCells g o vs):=
 ⟨(Far.cells (S:=[some g]) (g:=g) (.inl (by simp)) vs o W (Far.refl _ W)).blk h.z (by simp;omega),h.bel.trans ((Far.cells (S:=[some g]) (g:=g) (.inl (by simp)) vs o W (Far.refl _ W)).below h.bel.size (fun k hk=>by simp at hk;omega))⟩
/-- What guess returns. -/
def GsR (o:ObjL) (w:World) (e:Ending) (w':World):Prop:=(∃ A1 A2 k1 k2,e = .returned (.agg (objC o (.slice A1 o.ents.length k1) (.slice A2 o.pars.length k2)).toArray)∧ObjV w' (.slice A1 o.ents.length k1) (.slice A2 o.pars.length k2) o∧OwnEnts w' w.heap.size (.slice A1 o.ents.length k1) o.ents∧OwnIds w' w.heap.size (.slice A2 o.pars.length k2) o.pars)∧Below w.heap.size w w'
/-- The object is read out and returned. -/
theorem GsR.of {w W:World} {B0:Nat} {o:ObjL} {ve vp:Value} (ho:ObjOk o) (hz:GsI w W) (he:OwnEnts W B0 ve o.ents) (hp:OwnIds W B0 vp o.pars) (hB:w.heap.size<B0) :
 GsR o w (.returned (.agg (objC o ve vp).toArray)) (W.setRow w.heap.size (objC o ve vp).toArray):=by
 have hv:=objV_row ho he hp hB (objC o ve vp).toArray
 obtain ⟨A1,k1,e1,_⟩:=hv.ents
 obtain ⟨A2,k2,e2,_⟩:=hv.pars
 subst e1 e2
 exact ⟨⟨A1,A2,k1,k2,rfl,hv,own_low' (own_row he hB _) (Nat.le_of_lt hB),own_low' (own_row hp hB _) (Nat.le_of_lt hB)⟩,below_setRow hz.bel (Nat.le_refl _) _⟩
theorem zero_smallG : Small zeroO:=⟨by decide,by simp [zeroO],by decide,by decide,by decide,by decide⟩
theorem zero_okG (w:World):ObjV w (.slice none 0 0) (.slice none 0 0) zeroO:=⟨⟨noId_len,noId_len,by simp [zeroO],by simp [zeroO],by decide,by decide,by decide,by decide,by decide,by decide,by decide,by decide⟩,SliceAt.nil,SliceAt.nil⟩
theorem objC_all' (o:ObjL) {ve vp:Value} {W:World} {B0:Nat} (he:OwnEnts W B0 ve o.ents) (hp:OwnIds W B0 vp o.pars):(objC o ve vp).toArray.all (·.oneCell')=true:=by
 obtain ⟨A1,k1,rfl⟩:=own_form' he
 obtain ⟨A2,k2,rfl⟩:=own_form' hp
 exact objC_all o A1 A2 _ k1 _ k2
end Go.Proofs.YtlojebhcemfodaaGreatDoor
namespace Go.Proofs.YtlojebhcemfodaaGreatDoor
open Go.RowKit
attribute [local go_sem ↓] ldvO_eq
theorem ObjB.drewN {w:World} {g:Nat} {o:ObjL} {ve vp:Value} (h:ObjB w g o ve vp) (n:Nat):ObjB (w.drewN n) g o ve vp:=⟨h.blk.drewN n,h.tr,h.ta⟩
theorem GsI.drewN {w W:World} (h:GsI w W) (n:Nat):GsI w (W.drewN n):=⟨h.z.drewN n,bdrewN h.bel n⟩
theorem plainO_ok (n:Int) (hn:0≤n) (hn2:n<256) (t:Txt) (ht:t.length≤5000):ObjOk ⟨n,t,[],noId,[],0,[],noId,0,[]⟩:=
 ⟨noId_len,noId_len,(fun _ h=>by cases h),(fun _ h=>by cases h),by show t.length≤_;omega,by simp,by simp,by simp,by show _≤n;omega,by show n≤_;omega,by simp,by simp⟩
theorem tagO_ok (i:Txt) (hi:i.length=32) (n:Int) (hn:0≤n) (hn2:n<256) (t:Txt) (ht:t.length≤5000):ObjOk ⟨4,[],[],noId,[],0,[],i,n,t⟩:=
 ⟨noId_len,hi,(fun _ h=>by cases h),(fun _ h=>by cases h),by simp,by simp,by show t.length≤_;omega,by simp,by simp,by simp,by show _≤n;omega,by show n≤_;omega⟩
set_option maxRecDepth 100000 in
set_option maxHeartbeats 4000000 in
theorem guess_blob (c:UInt8) (q:Txt) (hl:q.length≤5000) (hk:c.toNat=1) (hn0 : ¬ (takeN q).2=0) (w:World):Calls Tryz.prog 91 #[.string (B (c::q))] w fun e w'=>GsR ⟨1,(takeN q).1,[],noId,[],0,[],noId,0,[]⟩ w e w':=by
 have HK:=Lib.hid hk
 clear hk
 have hzv:=zeroObj
 have hzl:zObj.size=72:=zObj_size
 have htl:(takeN q).1.length≤q.length:=(takeN_le q).2
 have htk : ∀ W,Calls Tryz.prog 108 #[.string (B q)] W fun e w'=>e = .returned (.tuple #[.string (B (takeN q).1), .int .i64 (takeN q).2])∧W=w':=fun W=>(refTake_calls q (by omega) W).mono fun _ _ h=>⟨h.1,h.2.symm⟩
 generalize (takeN q).1=t at *
 generalize (takeN q).2=kn at *
 have hki:((kn:Int)==0)=false:=by simp;omega
 have hex:(B (c::q)).extract 1 (q.length+1)=B q:=by
  rw [extract_B]
  simp
 obtain ⟨W1,hW1⟩ : ∃ W1,w.alloc (.cells zObj 54)=W1:=⟨_,rfl⟩
 have hx1:Blk W1 w.heap.size 54 zObj:=by rw [←hW1];exact Blk.new _ _ _
 have b1:Below w.heap.size w W1:=by rw [←hW1];exact (Below.refl _ _).alloc (Nat.le_refl _) _
 have hs1:w.heap.size<W1.heap.size:=by rw [←hW1];simp
 have htk:=Lib.hid htk
 have hc0:0≤(c.toNat:Int):=by omega
 have hc1:(c.toNat:Int)<256:=by have:=c.toNat_lt;omega
 have hbd:=built_kobj (c.toNat:Int)
 have e72:(objC ⟨c.toNat,[],[],noId,[],0,[],noId,0,[]⟩ (.slice none 0 0) (.slice none 0 0)).toArray.size=72:=by rw [List.size_toArray];unfold objC;simp only [List.length_cons,List.length_append,u8s_len,noId_len,List.length_nil]
 have eone:(objC ⟨c.toNat,[],[],noId,[],0,[],noId,0,[]⟩ (.slice none 0 0) (.slice none 0 0)).toArray.all (·.oneCell')=true:=by kernel_rfl
 obtain ⟨X,hX⟩ : ∃ X,Hid ((⟨1,t,[],noId,[],0,[],noId,0,[]⟩:ObjL)=X):=⟨_,Lib.hid rfl⟩
 rw [hX.out]
 go_enter Tryz.func91,Tryz.ntmps91
 go_upto_if 26 with (first
  | ((with_reducible refine lit_build1 hbd ?_ ?_);rfl)
  | ((with_reducible refine lit_new 54 (.tmp 3) (.tmp 18) (objC ⟨c.toNat,[],[],noId,[],0,[],noId,0,[]⟩ (.slice none 0 0) (.slice none 0 0)).toArray 72 szObj e72 eone _ ?_ ?_ ?_ ?_)
     ·first | exact hzl | rfl
     ·rfl
     ·rfl
     intro W2 hb2 hbl2
     have hO2:ObjB W2 W1.heap.size ⟨c.toNat,[],[],noId,[],0,[],noId,0,[]⟩ (.slice none 0 0) (.slice none 0 0):=⟨hb2,noId_len,noId_len⟩
     have hI2:GsI w W2:=⟨hx1.below hbl2 hx1.lt,bthen b1 b1.size hbl2⟩
     have hgOB:W1.heap.size<W2.heap.size:=hb2.lt
     have tk2:=htk.out W2
     have tk2:=Lib.hid tk2
     clear hx1 b1 hb2 hbl2)
  | ((with_reducible refine tk2.out.mono ?_);rintro e w3 ⟨rfl,rfl⟩
     clear tk2))
 have ck:=hO2.kind
 simp only at ck
 have hsO:=hs1
 clear hW1 hbd e72 eone hs1
 generalize W1.heap.size=gO at *
 obtain ⟨BB,hBB⟩ : ∃ BB,BB=W2.heap.size:=⟨_,rfl⟩
 rw [←hBB] at hgOB
 have hnE:OwnEnts W2 BB (.slice none 0 0) []:=World.ownsRow_nil _ _ _ _
 have hnP:OwnIds W2 BB (.slice none 0 0) []:=World.ownsRow_nil _ _ _ _
 have hBs:BB≤W2.heap.size:=by omega
 have hwB:w.heap.size<BB:=by omega
 clear hBB
 rw [HK.out] at hO2 ck
 have hki2:(c.toNat:Int)=1:=by rw [HK.out];rfl
 clear hc0 hc1
 have f1:=hO2.fr 1
 have d1:=hO2.data
 have hO3:ObjB _ gO ⟨1,t,[],noId,[],0,[],noId,0,[]⟩ _ _:=hO2.setData t
 have hI3:=hI2.set_ (o:=1) hsO (.string (B t))
 have hnE3:=own_set (p:=⟨gO,1,none⟩) hnE hgOB (.string (B t))
 have hnP3:=own_set (p:=⟨gO,1,none⟩) hnP hgOB (.string (B t))
 have hok:ObjOk (⟨1,t,[],noId,[],0,[],noId,0,[]⟩:ObjL):=plainO_ok 1 (by omega) (by omega) t (by omega)
 have hzF:=hI3.z
 have hfin:=Lib.hid (GsR.of hok hI3 hnE3 hnP3 hwB)
 have hq:=run_ldvO hO3 hok
 have hc72:(objC (⟨1,t,[],noId,[],0,[],noId,0,[]⟩:ObjL) (.slice none 0 0) (.slice none 0 0)).toArray.size=72:=by rw [List.size_toArray,objC_len hok]
 have hcone:=objC_all' (⟨1,t,[],noId,[],0,[],noId,0,[]⟩:ObjL) hnE3 hnP3
 clear hI3 hI2 hO2 hO3 hnE hnP hnE3 hnP3
 generalize hcs:(objC (⟨1,t,[],noId,[],0,[],noId,0,[]⟩:ObjL) (.slice none 0 0) (.slice none 0 0)).toArray=cs at *
 have HC:=Lib.hid hcs
 clear hcs
 have hcsz:(Tryz.prog.info? 54).map (·.size)=some cs.size:=by rw [hc72];exact szObj
 go_wp2_with (first
  | (refine wpList_store_row rfl 54 (.tmp 2) (.tmp 138) rfl w.heap.size cs rfl rfl _ _ hzF hcsz (by rw [hzl,hc72]) hcone ?_))
 exact bodyPost_ret (results_cell_row rfl _ _ w.heap.size _ _ _ _ rfl (setRow_heap _ _ _ _ _ _ hzF) Tryz.underlying54 rfl hcsz) rfl (by rw [←hX.out];exact hfin.out)
set_option maxRecDepth 100000 in
set_option maxHeartbeats 4000000 in
theorem guess_other (c:UInt8) (q:Txt) (hl:q.length≤5000) (hk:c.toNat≠1∧c.toNat≠2∧c.toNat≠3∧c.toNat≠4) (hn0 : ¬ (takeN q).2=0) (w:World):Calls Tryz.prog 91 #[.string (B (c::q))] w fun e w'=>GsR (nObj c.toNat) w e w':=by
 have HK:=Lib.hid hk
 clear hk
 have hzv:=zeroObj
 have hzl:zObj.size=72:=zObj_size
 have htl:(takeN q).1.length≤q.length:=(takeN_le q).2
 have htk : ∀ W,Calls Tryz.prog 108 #[.string (B q)] W fun e w'=>e = .returned (.tuple #[.string (B (takeN q).1), .int .i64 (takeN q).2])∧W=w':=fun W=>(refTake_calls q (by omega) W).mono fun _ _ h=>⟨h.1,h.2.symm⟩
 generalize (takeN q).1=t at *
 generalize (takeN q).2=kn at *
 have hki:((kn:Int)==0)=false:=by simp;omega
 have hex:(B (c::q)).extract 1 (q.length+1)=B q:=by
  rw [extract_B]
  simp
 obtain ⟨W1,hW1⟩ : ∃ W1,w.alloc (.cells zObj 54)=W1:=⟨_,rfl⟩
 have hx1:Blk W1 w.heap.size 54 zObj:=by rw [←hW1];exact Blk.new _ _ _
 have b1:Below w.heap.size w W1:=by rw [←hW1];exact (Below.refl _ _).alloc (Nat.le_refl _) _
 have hs1:w.heap.size<W1.heap.size:=by rw [←hW1];simp
 have htk:=Lib.hid htk
 have hc0:0≤(c.toNat:Int):=by omega
 have hc1:(c.toNat:Int)<256:=by have:=c.toNat_lt;omega
 have hbd:=built_kobj (c.toNat:Int)
 have e72:(objC ⟨c.toNat,[],[],noId,[],0,[],noId,0,[]⟩ (.slice none 0 0) (.slice none 0 0)).toArray.size=72:=by rw [List.size_toArray];unfold objC;simp only [List.length_cons,List.length_append,u8s_len,noId_len,List.length_nil]
 have eone:(objC ⟨c.toNat,[],[],noId,[],0,[],noId,0,[]⟩ (.slice none 0 0) (.slice none 0 0)).toArray.all (·.oneCell')=true:=by kernel_rfl
 obtain ⟨X,hX⟩ : ∃ X,Hid (nObj c.toNat=X):=⟨_,Lib.hid rfl⟩
 rw [hX.out]
 go_enter Tryz.func91,Tryz.ntmps91
 go_upto_if 26 with (first
  | ((with_reducible refine lit_build1 hbd ?_ ?_);rfl)
  | ((with_reducible refine lit_new 54 (.tmp 3) (.tmp 18) (objC ⟨c.toNat,[],[],noId,[],0,[],noId,0,[]⟩ (.slice none 0 0) (.slice none 0 0)).toArray 72 szObj e72 eone _ ?_ ?_ ?_ ?_)
     ·first | exact hzl | rfl
     ·rfl
     ·rfl
     intro W2 hb2 hbl2
     have hO2:ObjB W2 W1.heap.size ⟨c.toNat,[],[],noId,[],0,[],noId,0,[]⟩ (.slice none 0 0) (.slice none 0 0):=⟨hb2,noId_len,noId_len⟩
     have hI2:GsI w W2:=⟨hx1.below hbl2 hx1.lt,bthen b1 b1.size hbl2⟩
     have hgOB:W1.heap.size<W2.heap.size:=hb2.lt
     have tk2:=htk.out W2
     have tk2:=Lib.hid tk2
     clear hx1 b1 hb2 hbl2)
  | ((with_reducible refine tk2.out.mono ?_);rintro e w3 ⟨rfl,rfl⟩
     clear tk2))
 have ck:=hO2.kind
 simp only at ck
 have hsO:=hs1
 clear hW1 hbd e72 eone hs1
 generalize W1.heap.size=gO at *
 obtain ⟨BB,hBB⟩ : ∃ BB,BB=W2.heap.size:=⟨_,rfl⟩
 rw [←hBB] at hgOB
 have hnE:OwnEnts W2 BB (.slice none 0 0) []:=World.ownsRow_nil _ _ _ _
 have hnP:OwnIds W2 BB (.slice none 0 0) []:=World.ownsRow_nil _ _ _ _
 have hBs:BB≤W2.heap.size:=by omega
 have hwB:w.heap.size<BB:=by omega
 clear hBB
 have k1:((c.toNat:Int)==1)=false:=by have:=HK.out.1;simp;omega
 have k2:((c.toNat:Int)==2)=false:=by have:=HK.out.2.1;simp;omega
 have k3:((c.toNat:Int)==3)=false:=by have:=HK.out.2.2.1;simp;omega
 have k4:((c.toNat:Int)==4)=false:=by have:=HK.out.2.2.2;simp;omega
 have hok:ObjOk (⟨c.toNat,[],[],noId,[],0,[],noId,0,[]⟩:ObjL):=plainO_ok c.toNat hc0 hc1 [] (by simp)
 have hzF:=hI2.z
 have hfin:=Lib.hid (GsR.of hok hI2 hnE hnP hwB)
 have hq:=run_ldvO hO2 hok
 have hc72:(objC (⟨c.toNat,[],[],noId,[],0,[],noId,0,[]⟩:ObjL) (.slice none 0 0) (.slice none 0 0)).toArray.size=72:=by rw [List.size_toArray,objC_len hok]
 have hcone:=objC_all' (⟨c.toNat,[],[],noId,[],0,[],noId,0,[]⟩:ObjL) hnE hnP
 clear hI2 hO2 hnE hnP
 generalize hcs:(objC (⟨c.toNat,[],[],noId,[],0,[],noId,0,[]⟩:ObjL) (.slice none 0 0) (.slice none 0 0)).toArray=cs at *
 have HC:=Lib.hid hcs
 clear hcs
 have hcsz:(Tryz.prog.info? 54).map (·.size)=some cs.size:=by rw [hc72];exact szObj
 go_wp2_with (first
  | (refine wpList_store_row rfl 54 (.tmp 2) (.tmp 138) rfl w.heap.size cs rfl rfl _ _ hzF hcsz (by rw [hzl,hc72]) hcone ?_))
 exact bodyPost_ret (results_cell_row rfl _ _ w.heap.size _ _ _ _ rfl (setRow_heap _ _ _ _ _ _ hzF) Tryz.underlying54 rfl hcsz) rfl (by rw [←hX.out];exact hfin.out)
set_option maxRecDepth 100000 in
set_option maxHeartbeats 4000000 in
theorem guess_tag (c:UInt8) (q:Txt) (hl:q.length≤5000) (hk:c.toNat=4) (hn0 : ¬ (takeN q).2=0) (w:World):Calls Tryz.prog 91 #[.string (B (c::q))] w fun e w'=>GsR (gTag (takeN q).1) w e w':=by
 have HK:=Lib.hid hk
 clear hk
 have hzv:=zeroObj
 have hzl:zObj.size=72:=zObj_size
 have htl:(takeN q).1.length≤q.length:=(takeN_le q).2
 have htk : ∀ W,Calls Tryz.prog 108 #[.string (B q)] W fun e w'=>e = .returned (.tuple #[.string (B (takeN q).1), .int .i64 (takeN q).2])∧W=w':=fun W=>(refTake_calls q (by omega) W).mono fun _ _ h=>⟨h.1,h.2.symm⟩
 generalize (takeN q).1=t at *
 generalize (takeN q).2=kn at *
 have hki:((kn:Int)==0)=false:=by simp;omega
 have hex:(B (c::q)).extract 1 (q.length+1)=B q:=by
  rw [extract_B]
  simp
 obtain ⟨W1,hW1⟩ : ∃ W1,w.alloc (.cells zObj 54)=W1:=⟨_,rfl⟩
 have hx1:Blk W1 w.heap.size 54 zObj:=by rw [←hW1];exact Blk.new _ _ _
 have b1:Below w.heap.size w W1:=by rw [←hW1];exact (Below.refl _ _).alloc (Nat.le_refl _) _
 have hs1:w.heap.size<W1.heap.size:=by rw [←hW1];simp
 have htk:=Lib.hid htk
 have hc0:0≤(c.toNat:Int):=by omega
 have hc1:(c.toNat:Int)<256:=by have:=c.toNat_lt;omega
 have hbd:=built_kobj (c.toNat:Int)
 have e72:(objC ⟨c.toNat,[],[],noId,[],0,[],noId,0,[]⟩ (.slice none 0 0) (.slice none 0 0)).toArray.size=72:=by rw [List.size_toArray];unfold objC;simp only [List.length_cons,List.length_append,u8s_len,noId_len,List.length_nil]
 have eone:(objC ⟨c.toNat,[],[],noId,[],0,[],noId,0,[]⟩ (.slice none 0 0) (.slice none 0 0)).toArray.all (·.oneCell')=true:=by kernel_rfl
 obtain ⟨X,hX⟩ : ∃ X,Hid (gTag t=X):=⟨_,Lib.hid rfl⟩
 rw [hX.out]
 go_enter Tryz.func91,Tryz.ntmps91
 go_upto_if 26 with (first
  | ((with_reducible refine lit_build1 hbd ?_ ?_);rfl)
  | ((with_reducible refine lit_new 54 (.tmp 3) (.tmp 18) (objC ⟨c.toNat,[],[],noId,[],0,[],noId,0,[]⟩ (.slice none 0 0) (.slice none 0 0)).toArray 72 szObj e72 eone _ ?_ ?_ ?_ ?_)
     ·first | exact hzl | rfl
     ·rfl
     ·rfl
     intro W2 hb2 hbl2
     have hO2:ObjB W2 W1.heap.size ⟨c.toNat,[],[],noId,[],0,[],noId,0,[]⟩ (.slice none 0 0) (.slice none 0 0):=⟨hb2,noId_len,noId_len⟩
     have hI2:GsI w W2:=⟨hx1.below hbl2 hx1.lt,bthen b1 b1.size hbl2⟩
     have hgOB:W1.heap.size<W2.heap.size:=hb2.lt
     have tk2:=htk.out W2
     have tk2:=Lib.hid tk2
     clear hx1 b1 hb2 hbl2)
  | ((with_reducible refine tk2.out.mono ?_);rintro e w3 ⟨rfl,rfl⟩
     clear tk2))
 have ck:=hO2.kind
 simp only at ck
 have hsO:=hs1
 clear hW1 hbd e72 eone hs1
 generalize W1.heap.size=gO at *
 obtain ⟨BB,hBB⟩ : ∃ BB,BB=W2.heap.size:=⟨_,rfl⟩
 rw [←hBB] at hgOB
 have hnE:OwnEnts W2 BB (.slice none 0 0) []:=World.ownsRow_nil _ _ _ _
 have hnP:OwnIds W2 BB (.slice none 0 0) []:=World.ownsRow_nil _ _ _ _
 have hBs:BB≤W2.heap.size:=by omega
 have hwB:w.heap.size<BB:=by omega
 clear hBB
 rw [HK.out] at hO2 ck
 have hki2:(c.toNat:Int)=4:=by rw [HK.out];rfl
 clear hc0 hc1
 have hXX:Hid ((⟨4,[],[],noId,[],0,[],idG (t.drop 1),(t.headD 0).toNat,(takeN ((t.drop 1).drop 32)).1⟩:ObjL)=X):=hX.out
 clear hX
 have hX:=hXX
 clear hXX
 have hc8:(t.headD 0).toNat<256:=(t.headD 0).toNat_lt
 have hb1 : ∀ W,Calls Tryz.prog 109 #[.string (B t), .int .i64 1] W fun e w'=>e = .returned (.string (B (t.drop 1))) ∧ ∃ nq,w'=W.drewN nq:=fun W=>behind_calls t 1 (by omega) (by omega) W
 have hd1:(t.drop 1).length≤t.length:=by rw [List.length_drop];omega
 have hd2:((t.drop 1).drop 32).length≤t.length:=by rw [List.length_drop,List.length_drop];omega
 have hb2 : ∀ W,Calls Tryz.prog 109 #[.string (B (t.drop 1)), .int .i64 32] W fun e w'=>e = .returned (.string (B ((t.drop 1).drop 32))) ∧ ∃ nq,w'=W.drewN nq:=fun W=>behind_calls (t.drop 1) 32 (by omega) (by omega) W
 have hgi:=fun W=>Lib.hid (gid_calls (t.drop 1) (by omega) W)
 have hi32:=idG_len (t.drop 1)
 have htk2 : ∀ W,Calls Tryz.prog 108 #[.string (B ((t.drop 1).drop 32))] W fun e w'=>e = .returned (.tuple #[.string (B (takeN ((t.drop 1).drop 32)).1), .int .i64 (takeN ((t.drop 1).drop 32)).2])∧W=w':=fun W=>(refTake_calls ((t.drop 1).drop 32) (by omega) W).mono fun _ _ h=>⟨h.1,h.2.symm⟩
 have hnl:=(takeN_le ((t.drop 1).drop 32)).2
 have hb1:=Lib.hid hb1
 have hb2:=Lib.hid hb2
 have htk2:=Lib.hid htk2
 generalize takeN ((t.drop 1).drop 32)=NM at *
 generalize (t.drop 1).drop 32=R2 at *
 generalize idG (t.drop 1)=ID at *
 generalize t.drop 1=R1 at *
 cases t with
 | nil=>
   go_upto_region 35 with (first
    | ((with_reducible refine (hb1.out _).mono ?_);rintro e w3 ⟨rfl,nq,rfl⟩
       have hO3:=(hO2).drewN nq
       have hI3:=(hI2).drewN nq)
    | ((with_reducible refine (hgi _).out.mono ?_);rintro e w4 ⟨rfl,hb4⟩
       have hO4:=hO3.below hb4
       have hI4:=hI3.below hb4
       have ht4:=hO4.there 38 32 (by omega)
       clear hO3 hI3)
    | ((with_reducible refine lit_store_id (.tmp 130) (.tmp 129) gO 38 ID hi32 ht4 ?_ ?_ ?_);rfl;rfl
       have hO5:=hO4.setTarget ID hi32
       have hI5:=hI4.cells_ (o:=38) hsO (u8s ID).toList
       clear hO4 hI4 ht4)
    | ((with_reducible refine (hb2.out _).mono ?_);rintro e w6 ⟨rfl,nq2,rfl⟩
       have hO6:=hO5.drewN nq2
       have hI6:=hI5.drewN nq2
       have f71:=hO6.fr 71
       have c71:=hO6.name
       clear hO5 hI5)
    | ((with_reducible refine (htk2.out _).mono ?_);rintro e w7 ⟨rfl,rfl⟩
       have hO7:=hO6.setName NM.1
       have hI7:=hI6.set_ (o:=71) hsO (.string (B NM.1))
       clear hO6 hI6))
   have hE7 : ∀ W,OwnEnts W BB (.slice none 0 0) []:=fun W=>World.ownsRow_nil _ _ _ _
   have hP7 : ∀ W,OwnIds W BB (.slice none 0 0) []:=fun W=>World.ownsRow_nil _ _ _ _
   have hok:ObjOk (⟨4,[],[],noId,[],0,[],ID,0,NM.1⟩:ObjL):=tagO_ok ID hi32 0 (by omega) (by omega) NM.1 (by omega)
   have hzF:=hI7.z
   have hfin:=Lib.hid (GsR.of hok hI7 (hE7 _) (hP7 _) hwB)
   have hq:=run_ldvO hO7 hok
   have hc72:(objC (⟨4,[],[],noId,[],0,[],ID,0,NM.1⟩:ObjL) (.slice none 0 0) (.slice none 0 0)).toArray.size=72:=by rw [List.size_toArray,objC_len hok]
   have hcone:=objC_all' (⟨4,[],[],noId,[],0,[],ID,0,NM.1⟩:ObjL) (hE7 W2) (hP7 W2)
   clear hI7 hO7 hE7 hP7
   generalize hcs:(objC (⟨4,[],[],noId,[],0,[],ID,0,NM.1⟩:ObjL) (.slice none 0 0) (.slice none 0 0)).toArray=cs at *
   have HC:=Lib.hid hcs
   clear hcs
   have hcsz:(Tryz.prog.info? 54).map (·.size)=some cs.size:=by rw [hc72];exact szObj
   go_wp2_with (first
    | (refine wpList_store_row rfl 54 (.tmp 2) (.tmp 138) rfl w.heap.size cs rfl rfl _ _ hzF hcsz (by rw [hzl,hc72]) hcone ?_))
   exact bodyPost_ret (results_cell_row rfl _ _ w.heap.size _ _ _ _ rfl (setRow_heap _ _ _ _ _ _ hzF) Tryz.underlying54 rfl hcsz) rfl (by rw [←hX.out];exact hfin.out)
 | cons d t1=>
   have f70:=hO2.fr 70
   have c70:=hO2.of_
   have hd0:0≤(d.toNat:Int):=by omega
   have hd1:(d.toNat:Int)<256:=by have:=d.toNat_lt;omega
   have hOa:=hO2.setOf d.toNat
   have hIa:=hI2.set_ (o:=70) hsO (.int .i64 d.toNat)
   go_upto_region 35 with (first
    | ((with_reducible refine (hb1.out _).mono ?_);rintro e w3 ⟨rfl,nq,rfl⟩
       have hO3:=(hOa).drewN nq
       have hI3:=(hIa).drewN nq)
    | ((with_reducible refine (hgi _).out.mono ?_);rintro e w4 ⟨rfl,hb4⟩
       have hO4:=hO3.below hb4
       have hI4:=hI3.below hb4
       have ht4:=hO4.there 38 32 (by omega)
       clear hO3 hI3)
    | ((with_reducible refine lit_store_id (.tmp 130) (.tmp 129) gO 38 ID hi32 ht4 ?_ ?_ ?_);rfl;rfl
       have hO5:=hO4.setTarget ID hi32
       have hI5:=hI4.cells_ (o:=38) hsO (u8s ID).toList
       clear hO4 hI4 ht4)
    | ((with_reducible refine (hb2.out _).mono ?_);rintro e w6 ⟨rfl,nq2,rfl⟩
       have hO6:=hO5.drewN nq2
       have hI6:=hI5.drewN nq2
       have f71:=hO6.fr 71
       have c71:=hO6.name
       clear hO5 hI5)
    | ((with_reducible refine (htk2.out _).mono ?_);rintro e w7 ⟨rfl,rfl⟩
       have hO7:=hO6.setName NM.1
       have hI7:=hI6.set_ (o:=71) hsO (.string (B NM.1))
       clear hO6 hI6))
   have hE7 : ∀ W,OwnEnts W BB (.slice none 0 0) []:=fun W=>World.ownsRow_nil _ _ _ _
   have hP7 : ∀ W,OwnIds W BB (.slice none 0 0) []:=fun W=>World.ownsRow_nil _ _ _ _
   have hok:ObjOk (⟨4,[],[],noId,[],0,[],ID,d.toNat,NM.1⟩:ObjL):=tagO_ok ID hi32 d.toNat hd0 hd1 NM.1 (by omega)
   have hzF:=hI7.z
   have hfin:=Lib.hid (GsR.of hok hI7 (hE7 _) (hP7 _) hwB)
   have hq:=run_ldvO hO7 hok
   have hc72:(objC (⟨4,[],[],noId,[],0,[],ID,d.toNat,NM.1⟩:ObjL) (.slice none 0 0) (.slice none 0 0)).toArray.size=72:=by rw [List.size_toArray,objC_len hok]
   have hcone:=objC_all' (⟨4,[],[],noId,[],0,[],ID,d.toNat,NM.1⟩:ObjL) (hE7 W2) (hP7 W2)
   clear hI7 hO7 hE7 hP7
   generalize hcs:(objC (⟨4,[],[],noId,[],0,[],ID,d.toNat,NM.1⟩:ObjL) (.slice none 0 0) (.slice none 0 0)).toArray=cs at *
   have HC:=Lib.hid hcs
   clear hcs
   have hcsz:(Tryz.prog.info? 54).map (·.size)=some cs.size:=by rw [hc72];exact szObj
   go_wp2_with (first
    | (refine wpList_store_row rfl 54 (.tmp 2) (.tmp 138) rfl w.heap.size cs rfl rfl _ _ hzF hcsz (by rw [hzl,hc72]) hcone ?_))
   exact bodyPost_ret (results_cell_row rfl _ _ w.heap.size _ _ _ _ rfl (setRow_heap _ _ _ _ _ _ hzF) Tryz.underlying54 rfl hcsz) rfl (by rw [←hX.out];exact hfin.out)
end Go.Proofs.YtlojebhcemfodaaGreatDoor
namespace Go.Proofs.YtlojebhcemfodaaGreatDoor
open Go.RowKit
attribute [local go_sem ↓] ldvO_eq
theorem gEnt_ok (d:UInt8) (t:Txt) (h:t.length≤1000000):EntOk (gEnt d t):=by
 have h1:=(takeN_le t).2
 have h2:=d.toNat_lt
 exact ⟨idG_len _,by show (takeN t).1.length≤_;omega,by show _≤(d.toNat:Int);omega,by show (d.toNat:Int)≤_;omega⟩
theorem gTree_ok : ∀ (f:Nat) (t:Txt) (acc:List EntL),t.length≤1000000→(∀ e∈acc,EntOk e) → ∀ e∈gTree f t acc,EntOk e
 | 0,t,acc,_,h=>by rw [gTree];exact h;intro a b c hc;cases hc
 | f+1,[],acc,_,h=>by rw [gTree];exact h;intro a b c hc hd;cases hd
 | f+1,d::t,acc,hl,h=>by
   rw [gTree]
   simp only [List.length_cons] at hl
   refine gTree_ok f _ _ (by simp only [List.length_drop];omega) ?_
   intro e he
   rcases List.mem_append.1 he with he | he
   ·exact h e he
   ·obtain rfl:=List.mem_singleton.1 he
    exact gEnt_ok d t (by omega)
theorem gTree_end {f:Nat} {t:Txt} {acc:List EntL} (h:f=0∨t=[]):gTree f t acc=acc:=by
 rcases h with rfl | rfl
 ·rw [gTree];intro a b c hc;cases hc
 ·cases f with
  | zero=>rw [gTree];intro a b c hc;cases hc
  | succ f=>rw [gTree];intro a b c hc hd;cases hd
theorem gTree_step {f:Nat} {d:UInt8} {t:Txt} {acc:List EntL}:gTree (f+1) (d::t) acc=gTree f ((t.drop (takeN t).2).drop 32) (acc++[⟨(takeN t).1,d.toNat,idG (t.drop (takeN t).2)⟩]):=by rw [gTree];rfl
theorem treeO_ok (n:Int) (hn:0≤n) (hn2:n<256) (l:List EntL) (h : ∀ e∈l,EntOk e):ObjOk ⟨n,[],l,noId,[],0,[],noId,0,[]⟩:=
 ⟨noId_len,noId_len,h,(fun _ h=>by cases h),by simp,by simp,by simp,by simp,by show _≤n;omega,by show n≤_;omega,by simp,by simp⟩
set_option maxRecDepth 100000 in
set_option maxHeartbeats 4000000 in
theorem guess_tree (c:UInt8) (q:Txt) (hl:q.length≤5000) (hk:c.toNat=2) (hn0 : ¬ (takeN q).2=0) (w:World):Calls Tryz.prog 91 #[.string (B (c::q))] w fun e w'=>GsR ⟨2,[],gTree 65 (takeN q).1 [],noId,[],0,[],noId,0,[]⟩ w e w':=by
 have hgok:=Lib.hid (gTree_ok 65 (takeN q).1 [] (by have:=(takeN_le q).2;omega) (by simp))
 have HK:=Lib.hid hk
 clear hk
 have hzv:=zeroObj
 have hzl:zObj.size=72:=zObj_size
 have htl:(takeN q).1.length≤q.length:=(takeN_le q).2
 have htk : ∀ W,Calls Tryz.prog 108 #[.string (B q)] W fun e w'=>e = .returned (.tuple #[.string (B (takeN q).1), .int .i64 (takeN q).2])∧W=w':=fun W=>(refTake_calls q (by omega) W).mono fun _ _ h=>⟨h.1,h.2.symm⟩
 generalize (takeN q).1=t at *
 generalize (takeN q).2=kn at *
 have hki:((kn:Int)==0)=false:=by simp;omega
 have hex:(B (c::q)).extract 1 (q.length+1)=B q:=by
  rw [extract_B]
  simp
 obtain ⟨W1,hW1⟩ : ∃ W1,w.alloc (.cells zObj 54)=W1:=⟨_,rfl⟩
 have hx1:Blk W1 w.heap.size 54 zObj:=by rw [←hW1];exact Blk.new _ _ _
 have b1:Below w.heap.size w W1:=by rw [←hW1];exact (Below.refl _ _).alloc (Nat.le_refl _) _
 have hs1:w.heap.size<W1.heap.size:=by rw [←hW1];simp
 have htk:=Lib.hid htk
 have hc0:0≤(c.toNat:Int):=by omega
 have hc1:(c.toNat:Int)<256:=by have:=c.toNat_lt;omega
 have hbd:=built_kobj (c.toNat:Int)
 have e72:(objC ⟨c.toNat,[],[],noId,[],0,[],noId,0,[]⟩ (.slice none 0 0) (.slice none 0 0)).toArray.size=72:=by rw [List.size_toArray];unfold objC;simp only [List.length_cons,List.length_append,u8s_len,noId_len,List.length_nil]
 have eone:(objC ⟨c.toNat,[],[],noId,[],0,[],noId,0,[]⟩ (.slice none 0 0) (.slice none 0 0)).toArray.all (·.oneCell')=true:=by kernel_rfl
 obtain ⟨X,hX⟩ : ∃ X,Hid ((⟨2,[],gTree 65 t [],noId,[],0,[],noId,0,[]⟩:ObjL)=X):=⟨_,Lib.hid rfl⟩
 rw [hX.out]
 go_enter Tryz.func91,Tryz.ntmps91
 go_upto_if 26 with (first
  | ((with_reducible refine lit_build1 hbd ?_ ?_);rfl)
  | ((with_reducible refine lit_new 54 (.tmp 3) (.tmp 18) (objC ⟨c.toNat,[],[],noId,[],0,[],noId,0,[]⟩ (.slice none 0 0) (.slice none 0 0)).toArray 72 szObj e72 eone _ ?_ ?_ ?_ ?_)
     ·first | exact hzl | rfl
     ·rfl
     ·rfl
     intro W2 hb2 hbl2
     have hO2:ObjB W2 W1.heap.size ⟨c.toNat,[],[],noId,[],0,[],noId,0,[]⟩ (.slice none 0 0) (.slice none 0 0):=⟨hb2,noId_len,noId_len⟩
     have hI2:GsI w W2:=⟨hx1.below hbl2 hx1.lt,bthen b1 b1.size hbl2⟩
     have hgOB:W1.heap.size<W2.heap.size:=hb2.lt
     have tk2:=htk.out W2
     have tk2:=Lib.hid tk2
     clear hx1 b1 hb2 hbl2)
  | ((with_reducible refine tk2.out.mono ?_);rintro e w3 ⟨rfl,rfl⟩
     clear tk2))
 have ck:=hO2.kind
 simp only at ck
 have hsO:=hs1
 clear hW1 hbd e72 eone hs1
 generalize W1.heap.size=gO at *
 obtain ⟨BB,hBB⟩ : ∃ BB,BB=W2.heap.size:=⟨_,rfl⟩
 rw [←hBB] at hgOB
 have hnE:OwnEnts W2 BB (.slice none 0 0) []:=World.ownsRow_nil _ _ _ _
 have hnP:OwnIds W2 BB (.slice none 0 0) []:=World.ownsRow_nil _ _ _ _
 have hBs:BB≤W2.heap.size:=by omega
 have hwB:w.heap.size<BB:=by omega
 clear hBB
 rw [HK.out] at hO2 ck
 clear hnP
 have hki2:(c.toNat:Int)=2:=by rw [HK.out];rfl
 obtain ⟨Y,hY⟩ : ∃ Y,Hid (gTree 65 t []=Y):=⟨_,Lib.hid rfl⟩
 rw [hY.out] at hX hgok
 clear hc0 hc1
 go_wp2_with (fail)
 clear hki hki2 ck HK
 go_loopg [4,6] 65 (fun f s4 s6 wr => ∃ (n:Nat) (t':Txt) (acc:List EntL) (ve:Value),s6 = .int .i64 n∧s4 = .string (B t')∧n+f≤65∧65≤n+f∧acc.length≤n∧t'.length≤5000∧Hid (gTree f t' acc=Y)∧OwnEnts wr BB ve acc∧ObjB wr gO ⟨2,[],acc,noId,[],0,[],noId,0,[]⟩ ve (.slice none 0 0)∧GsI w wr∧BB≤wr.heap.size)
 case atStart=>exact ⟨0,t,[], .slice none 0 0,rfl,rfl,by omega,by omega,by simp,by omega,hY,hnE,hO2,hI2,hBs⟩
 case round=>
  obtain ⟨n,t',acc,ve,rfl,rfl,hn1,hn2,hacc,ht',hrel,hown,hOb,hI,hsz⟩:=hrel
  clear hnE hO2 hI2 hBs
  by_cases hend:gk=0∨t'=[]
  ·have hx:Hid (acc=Y):=by show _=_;rw [←hrel.out];exact (gTree_end hend).symm
   rw [hx.out] at hown hOb
   clear hrel hacc hx
   have hnP:OwnIds wr BB (.slice none 0 0) []:=World.ownsRow_nil _ _ _ _
   have hok:ObjOk (⟨2,[],Y,noId,[],0,[],noId,0,[]⟩:ObjL):=treeO_ok 2 (by omega) (by omega) Y hgok.out
   have hzF:=hI.z
   have hfin:=Lib.hid (GsR.of hok hI hown hnP hwB)
   have hq:=run_ldvO hOb hok
   have hc72:(objC (⟨2,[],Y,noId,[],0,[],noId,0,[]⟩:ObjL) ve (.slice none 0 0)).toArray.size=72:=by rw [List.size_toArray,objC_len hok]
   have hcone:=objC_all' (⟨2,[],Y,noId,[],0,[],noId,0,[]⟩:ObjL) hown hnP
   clear hI hown hOb hnP
   generalize hcs:(objC (⟨2,[],Y,noId,[],0,[],noId,0,[]⟩:ObjL) ve (.slice none 0 0)).toArray=cs at *
   have HC:=Lib.hid hcs
   clear hcs
   have hcsz:(Tryz.prog.info? 54).map (·.size)=some cs.size:=by rw [hc72];exact szObj
   by_cases hlt:n<65
   ·obtain rfl:t'=[]:=by
     rcases hend with h | h
     ·omega
     ·exact h
    have hlti:(n:Int)<65:=by omega
    clear hend
    go_wp2_with (first
     | (refine wpList_store_row rfl 54 (.tmp 2) (.tmp 138) rfl w.heap.size cs rfl rfl _ _ hzF hcsz (by rw [hzl,hc72]) hcone ?_))
    exact bodyPost_ret (results_cell_row rfl _ _ w.heap.size _ _ _ _ rfl (setRow_heap _ _ _ _ _ _ hzF) Tryz.underlying54 rfl hcsz) rfl (by rw [←hX.out];exact hfin.out)
   ·have hlti : ¬ (n:Int)<65:=by omega
    clear hend
    go_wp2_with (first
     | (refine wpList_store_row rfl 54 (.tmp 2) (.tmp 138) rfl w.heap.size cs rfl rfl _ _ hzF hcsz (by rw [hzl,hc72]) hcone ?_))
    exact bodyPost_ret (results_cell_row rfl _ _ w.heap.size _ _ _ _ rfl (setRow_heap _ _ _ _ _ _ hzF) Tryz.underlying54 rfl hcsz) rfl (by rw [←hX.out];exact hfin.out)
  ·cases gk with
   | zero=>exact absurd (.inl rfl) hend
   | succ f=>
   match t',hend with
   | [],hend=>exact absurd (.inr rfl) hend
   | d::t1,_=>
     clear hend
     have hlti:(n:Int)<65:=by omega
     simp only [List.length_cons] at ht'
     rw [gTree_step] at hrel
     have hm:=(takeN_le t1).1
     have hnm:=(takeN_le t1).2
     have htk1 : ∀ W,Calls Tryz.prog 108 #[.string (B t1)] W fun e w'=>e = .returned (.tuple #[.string (B (takeN t1).1), .int .i64 (takeN t1).2])∧W=w':=fun W=>(refTake_calls t1 (by omega) W).mono fun _ _ h=>⟨h.1,h.2.symm⟩
     have hbe1 : ∀ W,Calls Tryz.prog 109 #[.string (B (d::t1)), .int .i64 (1+((takeN t1).2:Int))] W fun e w'=>e = .returned (.string (B (t1.drop (takeN t1).2))) ∧ ∃ nq,w'=W.drewN nq:=fun W=>by
      have:=behind_calls (d::t1) (1+(takeN t1).2) (by simp only [List.length_cons];omega) (by omega) W
      rw [Int.natCast_add,Nat.add_comm 1,List.drop_succ_cons] at this
      exact this
     have hbe2 : ∀ W,Calls Tryz.prog 109 #[.string (B (t1.drop (takeN t1).2)), .int .i64 32] W fun e w'=>e = .returned (.string (B ((t1.drop (takeN t1).2).drop 32))) ∧ ∃ nq,w'=W.drewN nq:=fun W=>behind_calls (t1.drop (takeN t1).2) 32 (by rw [List.length_drop];omega) (by omega) W
     have hrl:(t1.drop (takeN t1).2).length≤t1.length:=by rw [List.length_drop];omega
     have hidc:=fun W=>Lib.hid (gid_calls (t1.drop (takeN t1).2) (by omega) W)
     have hex1:(B (d::t1)).extract 1 (t1.length+1)=B t1:=by
      rw [extract_B]
      simp
     have hdl:((t1.drop (takeN t1).2).drop 32).length≤5000:=by rw [List.length_drop];omega
     generalize (t1.drop (takeN t1).2).drop 32=RR at *
     generalize t1.drop (takeN t1).2=RS at *
     generalize (takeN t1).1=NM at *
     generalize (takeN t1).2=m at *
     have htk1:=Lib.hid htk1
     have hbe1:=Lib.hid hbe1
     have hbe2:=Lib.hid hbe2
     have hd0:0≤(d.toNat:Int):=by omega
     have hd1:(d.toNat:Int)<256:=by have:=d.toNat_lt;omega
     have hm0:(m:Int)≤5000:=by omega
     clear hex tk2
     go_upto_region 14 with (first
      | ((with_reducible refine (htk1.out _).mono ?_);rintro e w3 ⟨rfl,rfl⟩)
      | ((with_reducible refine (hbe1.out _).mono ?_);rintro e w4 ⟨rfl,nq,rfl⟩))
     all_goals try (exfalso;omega)
     have hbd:=built_entry NM (d.toNat:Int) (idG RS) (idG_len RS)
     have hxok:EntOk ⟨NM,d.toNat,idG RS⟩:=⟨idG_len RS,by show NM.length≤_;omega,by show _≤(d.toNat:Int);omega,by show (d.toNat:Int)≤_;omega⟩
     have hotr:=hOb.tr
     have hota:=hOb.ta
     have hF1:F1 BB gO 54 (objC ⟨2,[],acc,noId,[],0,[],noId,0,[]⟩ ve (.slice none 0 0)).toArray 134 34 ve acc.length (rowsOf entC acc) (GsI w) (fun _=>True) (wr.drewN nq).drew:=⟨(hOb.blk.drewN nq).drew,hown,⟨(hI.z.drewN nq).drew,(bdrewN hI.bel nq).drew⟩,trivial,hsz⟩
     have hcO:(objC ⟨2,[],acc,noId,[],0,[],noId,0,[]⟩ ve (.slice none 0 0)).toArray.size=72:=by rw [List.size_toArray];unfold objC;simp only [List.length_cons,List.length_append,u8s_len,noId_len,List.length_nil]
     have hve:(objC ⟨2,[],acc,noId,[],0,[],noId,0,[]⟩ ve (.slice none 0 0)).toArray[2]?=some ve:=rfl
     have hset:Hid (∀ v':Value,(objC ⟨2,[],acc,noId,[],0,[],noId,0,[]⟩ ve (.slice none 0 0)).toArray.setIfInBounds 2 v'=(objC ⟨2,[],acc++[⟨NM,d.toNat,idG RS⟩],noId,[],0,[],noId,0,[]⟩ v' (.slice none 0 0)).toArray):=fun v'=>by rw [List.setIfInBounds_toArray];rfl
     have hrow:Hid (rowsOf entC acc++entC ⟨NM,d.toNat,idG RS⟩=rowsOf entC (acc++[⟨NM,d.toNat,idG RS⟩])):=by show _=_;rw [rowsOf_append,rowsOf_one]
     have hm1:acc.length+1≤9223372036854775807:=by omega
     have hm2:(acc.length+1)*56≤140737488355328:=by omega
     have hIb:=fun w1 w2 (h:GsI w w1) (hb:Below w1.heap.size w1 w2)=>h.below hb
     have hIB:=fun w1 w2 (h:GsI w w1) (hb:Below BB w1 w2)=>h.low hwB hb
     have hIs:=fun v w1 (h:GsI w w1)=>h.set_ (o:=2) hsO v
     have hJb:=fun (w1 w2:World) (_:True) (_:Below w1.heap.size w1 w2)=>trivial
     clear hOb hown hI htk1 hbe1
     generalize (objC ⟨2,[],acc,noId,[],0,[],noId,0,[]⟩ ve (.slice none 0 0)).toArray=cO at *
     generalize hxx:(⟨NM,d.toNat,idG RS⟩:EntL)=x at *
     clear hxx
     obtain ⟨n',hn'⟩ : ∃ n',Hid (acc.length=n'):=⟨_,Lib.hid rfl⟩
     rw [hn'.out] at hF1 hm1 hm2
     obtain ⟨xs,hxs⟩ : ∃ xs,Hid (rowsOf entC acc=xs):=⟨_,Lib.hid rfl⟩
     rw [hxs.out] at hF1
     obtain ⟨II,hII⟩ : ∃ II,Hid (GsI w=II):=⟨_,Lib.hid rfl⟩
     rw [hII.out] at hF1
     have hIb : ∀ w1 w2,II w1→Below w1.heap.size w1 w2→II w2:=hII.out▸hIb
     have hIB : ∀ w1 w2,II w1→Below BB w1 w2→II w2:=hII.out▸hIB
     have hIs : ∀ v w1,II w1→II (w1.setCell ⟨gO,2,none⟩ v):=hII.out▸hIs
     obtain ⟨V,hV⟩ : ∃ V:Nat→Value,V=fun i=>[(.pointer (some ⟨gO,2,none⟩)),ve,(.string (B (d::t1))),(.int .u8 d.toNat),(.int .i64 d.toNat),(.string (B NM)),(.string (B RS)),(.agg (u8s (idG RS))),(.agg (entC x).toArray),undef,undef,(.pointer (some ⟨gO,2,none⟩)),undef].getD i undef:=⟨_,rfl⟩
     have v0:V 0=(.pointer (some ⟨gO,2,none⟩)):=by rw [hV];rfl
     have v1:V 1=ve:=by rw [hV];rfl
     have v2:V 2=(.string (B (d::t1))):=by rw [hV];rfl
     have v3:V 3=(.int .u8 d.toNat):=by rw [hV];rfl
     have v4:V 4=(.int .i64 d.toNat):=by rw [hV];rfl
     have v5:V 5=(.string (B NM)):=by rw [hV];rfl
     have v6:V 6=(.string (B RS)):=by rw [hV];rfl
     have v7:V 7=(.agg (u8s (idG RS))):=by rw [hV];rfl
     have v8:V 8=(.agg (entC x).toArray):=by rw [hV];rfl
     have v11:V 11=(.pointer (some ⟨gO,2,none⟩)):=by rw [hV];rfl
     have v12:V 12=undef:=by rw [hV];rfl
     clear hV
     refine wp_region_listed (C:=Stage 10 12 (F1 BB gO 54 cO 134 34 ve n' xs II (fun _=>True)) (F2 BB gO 54 cO II) (F3 BB gO 2 54 cO 134 34 n' xs (entC x) II)) (R:=StR V 9 10 (LitR BB 134 ve (entC x)) (AppR BB 134 34 n' xs (entC x))) (by kernel_rfl) (by kernel_rfl) (by kernel_rfl) ?_ ?_ ?_ ?_
     ·exact sizes_spec (n:=139) (by kernel_rfl)
     ·exact Stage.start hF1
     ·intro i o listed a w1 ho hi hL
      have hin:=(ready_spec hi).1
      have hsz:listed.size=13:=hL.size
      match i,ho with
      | 0,ho=>
        obtain rfl:=(Option.some.inj ho).symm
        have e0:a.tmps[3]?.getD undef=(.pointer (some ⟨gO,0,none⟩)):=(slot_eval a 3).trans (hL.get_old hi (by kernel_rfl))
        have hc:=Stage.same (i:=0) hL.cls (by decide) (by decide)
        refine step_wp rfl rfl ?_
        clear hi ho hL hin
        refine wp_val (v:=(.pointer (some ⟨gO,2,none⟩))) ?_ ⟨_,rfl,StR.mk (by decide) (by decide) v0.symm,hc,fun _ _ _ h=>h⟩
        clear v0 v1 v2 v3 v4 v5 v6 v7 v8 v11 v12 hc
        unfold execOp
        go_simp
      | 1,ho=>
        obtain rfl:=(Option.some.inj ho).symm
        have hla:listed.getD 10 false=false:=hL.later (j:=10) hi (by kernel_rfl)
        have hls:listed.getD 12 false=false:=hL.later2 hla (by kernel_rfl)
        have hc1:=Stage.one hL.cls hla hls
        have e0:a.tmps[54]?.getD undef=(.pointer (some ⟨gO,2,none⟩)):=(slot_eval a 54).trans (((hL.get_new (j:=0) hi (by kernel_rfl)).at_ (by decide) (by decide)).trans v0)
        have hc:=Stage.same (i:=1) hL.cls (by decide) (by decide)
        refine step_wp rfl rfl ?_
        clear hi ho hL hin
        refine wp_val (v:=ve) ?_ ⟨_,rfl,StR.mk (by decide) (by decide) v1.symm,hc,fun _ _ _ h=>h⟩
        have f0:w1.cell? ⟨gO,2,none⟩=some ve:=by rw [hc1.blk.cell];exact hve
        clear hc1
        clear v0 v1 v2 v3 v4 v5 v6 v7 v8 v11 v12 hc
        unfold execOp
        go_simp
      | 2,ho=>
        obtain rfl:=(Option.some.inj ho).symm
        have e0:a.tmps[4]?.getD undef=(.string (B (d::t1))):=(slot_eval a 4).trans (hL.get_old hi (by kernel_rfl))
        have hc:=Stage.same (i:=2) hL.cls (by decide) (by decide)
        refine step_wp rfl rfl ?_
        clear hi ho hL hin
        refine wp_val (v:=(.string (B (d::t1)))) ?_ ⟨_,rfl,StR.mk (by decide) (by decide) v2.symm,hc,fun _ _ _ h=>h⟩
        clear v0 v1 v2 v3 v4 v5 v6 v7 v8 v11 v12 hc
        unfold execOp
        go_simp
      | 3,ho=>
        obtain rfl:=(Option.some.inj ho).symm
        have e0:a.tmps[56]?.getD undef=(.string (B (d::t1))):=(slot_eval a 56).trans (((hL.get_new (j:=2) hi (by kernel_rfl)).at_ (by decide) (by decide)).trans v2)
        have hc:=Stage.same (i:=3) hL.cls (by decide) (by decide)
        refine step_wp rfl rfl ?_
        clear hi ho hL hin
        refine wp_val (v:=(.int .u8 d.toNat)) ?_ ⟨_,rfl,StR.mk (by decide) (by decide) v3.symm,hc,fun _ _ _ h=>h⟩
        clear v0 v1 v2 v3 v4 v5 v6 v7 v8 v11 v12 hc
        unfold execOp
        go_simp
      | 4,ho=>
        obtain rfl:=(Option.some.inj ho).symm
        have e0:a.tmps[57]?.getD undef=(.int .u8 d.toNat):=(slot_eval a 57).trans (((hL.get_new (j:=3) hi (by kernel_rfl)).at_ (by decide) (by decide)).trans v3)
        have hc:=Stage.same (i:=4) hL.cls (by decide) (by decide)
        refine step_wp rfl rfl ?_
        clear hi ho hL hin
        refine wp_val (v:=(.int .i64 d.toNat)) ?_ ⟨_,rfl,StR.mk (by decide) (by decide) v4.symm,hc,fun _ _ _ h=>h⟩
        clear v0 v1 v2 v3 v4 v5 v6 v7 v8 v11 v12 hc
        unfold execOp
        go_simp
        exact IntWalk.i64_in _ (by omega)
      | 5,ho=>
        obtain rfl:=(Option.some.inj ho).symm
        have e0:a.tmps[7]?.getD undef=(.string (B NM)):=(slot_eval a 7).trans (hL.get_old hi (by kernel_rfl))
        have hc:=Stage.same (i:=5) hL.cls (by decide) (by decide)
        refine step_wp rfl rfl ?_
        clear hi ho hL hin
        refine wp_val (v:=(.string (B NM))) ?_ ⟨_,rfl,StR.mk (by decide) (by decide) v5.symm,hc,fun _ _ _ h=>h⟩
        clear v0 v1 v2 v3 v4 v5 v6 v7 v8 v11 v12 hc
        unfold execOp
        go_simp
      | 6,ho=>
        obtain rfl:=(Option.some.inj ho).symm
        have e0:a.tmps[9]?.getD undef=(.string (B RS)):=(slot_eval a 9).trans (hL.get_old hi (by kernel_rfl))
        have hc:=Stage.same (i:=6) hL.cls (by decide) (by decide)
        refine step_wp rfl rfl ?_
        clear hi ho hL hin
        refine wp_val (v:=(.string (B RS))) ?_ ⟨_,rfl,StR.mk (by decide) (by decide) v6.symm,hc,fun _ _ _ h=>h⟩
        clear v0 v1 v2 v3 v4 v5 v6 v7 v8 v11 v12 hc
        unfold execOp
        go_simp
      | 7,ho=>
        obtain rfl:=(Option.some.inj ho).symm
        have hla:listed.getD 10 false=false:=hL.later2 (hL.later2 (hL.later (j:=8) hi (by kernel_rfl)) (by kernel_rfl:waitsB _ 9 8=true)) (by kernel_rfl)
        have hls:listed.getD 12 false=false:=hL.later2 hla (by kernel_rfl)
        have hc1:=Stage.one hL.cls hla hls
        have e0:a.tmps[60]?.getD undef=(.string (B RS)):=(slot_eval a 60).trans (((hL.get_new (j:=6) hi (by kernel_rfl)).at_ (by decide) (by decide)).trans v6)
        refine step_wp rfl rfl ?_
        refine call_step rfl (vals := #[.string (B RS)]) (map1 (slot_is e0)) (by go_simp) (hidc w1).out ?_
        rintro e w2 ⟨rfl,hb2⟩
        exact ⟨_,rfl,_,rfl,StR.mk (by decide) (by decide) v7.symm,Stage.to1 (hc1.below hb2 (hIb _ _ hc1.inv hb2) trivial) hla hls (by decide) (by decide),fun j u _ h=>StR.keep (fun _ h=>h.below hb2) (fun _ h=>h.below hb2) j u h⟩
      | 8,ho=>
        obtain rfl:=(Option.some.inj ho).symm
        have hla:listed.getD 10 false=false:=hL.later2 (hL.later (j:=9) hi (by kernel_rfl)) (by kernel_rfl)
        have hls:listed.getD 12 false=false:=hL.later2 hla (by kernel_rfl)
        have hc1:=Stage.one hL.cls hla hls
        have e0:a.tmps[58]?.getD undef=(.int .i64 d.toNat):=(slot_eval a 58).trans (((hL.get_new (j:=4) hi (by kernel_rfl)).at_ (by decide) (by decide)).trans v4)
        have e1:a.tmps[59]?.getD undef=(.string (B NM)):=(slot_eval a 59).trans (((hL.get_new (j:=5) hi (by kernel_rfl)).at_ (by decide) (by decide)).trans v5)
        have e2:a.tmps[61]?.getD undef=(.agg (u8s (idG RS))):=(slot_eval a 61).trans (((hL.get_new (j:=7) hi (by kernel_rfl)).at_ (by decide) (by decide)).trans v7)
        refine step_wp rfl rfl ?_
        refine build_step rfl hbd (parts3 (slot_is e0) (slot_is e1) (slot_is e2)) ⟨_,rfl,StR.mk (by decide) (by decide) v8.symm,Stage.to1 hc1 hla hls (by decide) (by decide),fun _ _ _ h=>h⟩
      | 9,ho=>
        obtain rfl:=(Option.some.inj ho).symm
        have hla:listed.getD 10 false=false:=hL.later (j:=10) hi (by kernel_rfl)
        have hls:listed.getD 12 false=false:=hL.later2 hla (by kernel_rfl)
        have hc1:=Stage.one hL.cls hla hls
        have e0:a.tmps[62]?.getD undef=(.agg (entC x).toArray):=(slot_eval a 62).trans (((hL.get_new (j:=8) hi (by kernel_rfl)).at_ (by decide) (by decide)).trans v8)
        refine step_wp rfl rfl ?_
        have hbA:Below w1.heap.size w1 (w1.alloc (.cells (entC x).toArray 134)):=(Below.refl _ _).alloc (Nat.le_refl _) _
        refine slice_step rfl Tryz.entTy (by decide) (entC_len hxok) (.inl ( ((slot_eval a 62).symm.trans e0))) ⟨_,rfl,StR.mkLit ⟨w1.heap.size,rfl,Blk.new _ _ _,hc1.size,fun h=>by have:=(World.ownsRow.lt hc1.own _ h).2;omega⟩,Stage.to1 (hc1.below hbA (hIb _ _ hc1.inv hbA) (hJb _ _ hc1.pre hbA)) hla hls (by decide) (by decide),fun j u _ h=>StR.keep (fun _ h=>h.below hbA) (fun _ h=>h.below hbA) j u h⟩
      | 10,ho=>
        obtain rfl:=(Option.some.inj ho).symm
        have hla:listed.getD 10 false=false:=(getD_of_size (by rw [hsz];exact hin)).trans (ready_spec hi).2.1
        have hls:listed.getD 12 false=false:=hL.later2 hla (by kernel_rfl)
        have hc1:=Stage.one hL.cls hla hls
        have hx:=(hL.get_new (j:=9) (t:=63) hi (by kernel_rfl)).lit
        have hs:a.eval (.tmp 55)=ve:=((hL.get_new (j:=1) hi (by kernel_rfl)).at_ (by decide) (by decide)).trans v1
        refine step_wp rfl rfl ?_
        refine app_step rfl Tryz.entTy hc1 hgOB hx (entC_len hxok) (entC_one x) hm1 hm2 (fun w2 hb=>hIB _ _ hc1.inv hb) hs rfl ?_
        intro v2 w2 hf2 ha2 hk2 hb2
        exact ⟨_,rfl,StR.mkApp ha2 (by decide),Stage.to2 hf2 hls (by rw [hsz];decide) (by decide),fun j u hj h=>StR.keepL hk2 (fun e=>by rw [e,hla] at hj;cases hj) h⟩
      | 11,ho=>
        obtain rfl:=(Option.some.inj ho).symm
        have e0:a.tmps[3]?.getD undef=(.pointer (some ⟨gO,0,none⟩)):=(slot_eval a 3).trans (hL.get_old hi (by kernel_rfl))
        have hc:=Stage.same (i:=11) hL.cls (by decide) (by decide)
        refine step_wp rfl rfl ?_
        clear hi ho hL hin
        refine wp_val (v:=(.pointer (some ⟨gO,2,none⟩))) ?_ ⟨_,rfl,StR.mk (by decide) (by decide) v11.symm,hc,fun _ _ _ h=>h⟩
        clear v0 v1 v2 v3 v4 v5 v6 v7 v8 v11 v12 hc
        unfold execOp
        go_simp
      | 12,ho=>
        obtain rfl:=(Option.some.inj ho).symm
        have hla:listed.getD 10 false=true:=hL.before hi (by kernel_rfl)
        have hls:listed.getD 12 false=false:=(getD_of_size (by rw [hsz];exact hin)).trans (ready_spec hi).2.1
        have hc2:=Stage.two hL.cls hla hls
        have e0:a.tmps[65]?.getD undef=(.pointer (some ⟨gO,2,none⟩)):=(slot_eval a 65).trans (((hL.get_new (j:=11) hi (by kernel_rfl)).at_ (by decide) (by decide)).trans v11)
        have hv:=(hL.get_new (j:=10) (t:=64) hi (by kernel_rfl)).app (by decide)
        obtain ⟨vA,vK,hvv⟩:=own_form' hv
        rw [hvv] at hv
        have e1:a.tmps[64]?.getD undef=_:=(slot_eval a 64).trans hvv
        have c0:(w1.cell? ⟨gO,2,none⟩).isSome=true:=(hc2.blk.there (o:=2) (n:=1) (by rw [hcO];decide) 0 (by decide)).1
        obtain ⟨c0v,c0⟩:=Option.isSome_iff_exists.1 c0
        have f0:=hc2.blk.frozen 2
        have hR:=fun u=>AppR.set_ (p:=⟨gO,2,none⟩) (hv) hgOB u
        have h3:=Stage.to3 (ap:=10) (P1:=(F1 BB gO 54 cO 134 34 ve n' xs II (fun _=>True))) (P2:=(F2 BB gO 54 cO II)) (hc2.stored (off:=2) hv hgOB (hIs _ _ hc2.inv)) (listed:=listed) (st:=12) (by rw [hsz];decide)
        refine step_wp rfl rfl ?_
        clear hi ho hL hin hc2
        refine wp_skip (w':=w1.setCell ⟨gO,2,none⟩ _) ?_ ⟨_,rfl,StR.mk (by decide) (by decide) v12.symm,h3,fun j u _ h=>StR.keep (fun _ h=>h.set_ hgOB _) (fun _ h=>AppR.set_ h hgOB _) j u h⟩
        clear v0 v1 v2 v3 v4 v5 v6 v7 v8 v11 v12 h3
        unfold execOp
        go_simp
      | (n+13),ho=>exact absurd hin (by simp)
     ·intro a w1 listed hL hall
      obtain ⟨v3,hb3,ho3,hi3,hsz3⟩:=Stage.three hL.cls (hall 12 (by decide))
      rw [←hII.out] at hi3
      rw [hset.out] at hb3
      have hob3:ObjB w1 gO ⟨2,[],acc++[x],noId,[],0,[],noId,0,[]⟩ v3 (.slice none 0 0):=⟨hb3,hotr,hota⟩
      rw [←hxs.out,←hn'.out,hrow.out] at ho3
      have hown3:OwnEnts w1 BB v3 (acc++[x]):=by unfold OwnEnts;rw [List.length_append];exact ho3
      have hl3:(acc++[x]).length≤n+1:=by rw [List.length_append];simp only [List.length_cons,List.length_nil];omega
      have hd4:=hL.frame (by kernel_rfl) (sizes_spec (n:=139) (by kernel_rfl)) hall
      obtain ⟨vs,rfl,hR⟩:=hd4
      clear hL hall hR hF1 hIb hIB hIs hJb hII hset hrow hxs hn' hm1 hm2 hb3 ho3 hve hcO hidc hbd
      simp only [putAll,Act.put,List.setIfInBounds_toArray,List.set_cons_zero,List.set_cons_succ]
      go_wp2_with (first
       | ((with_reducible refine (hbe2.out _).mono ?_);rintro e w5 ⟨rfl,nq2,rfl⟩))
      go_roundg f
      case rel=>exact ⟨n+1,RR,acc++[x],v3,by go_num,rfl,by omega,by omega,hl3,hdl,hrel,hown3,⟨hob3.blk.drewN nq2,hob3.tr,hob3.ta⟩,⟨hi3.z.drewN nq2,bdrewN hi3.bel nq2⟩,hsz3⟩
      case measure=>exact Nat.lt_succ_self f
end Go.Proofs.YtlojebhcemfodaaGreatDoor
