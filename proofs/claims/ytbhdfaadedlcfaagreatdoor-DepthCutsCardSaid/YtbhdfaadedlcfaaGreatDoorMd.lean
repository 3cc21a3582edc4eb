/- Texts of this claim, laid together: IdSo, LitC, DepN, NilS, DepK, OpenE, OpenObj, Seed, His, StitE, RdP, ShaP, ShaR, StoP, StitCl, StitBs, Shelf. -/
import Derived.Test.YtbhdfaadedlcfaaGreatDoorMc
import Derived.Test.YtbhdfaadedlcfaaGreatDoorProg
import Derived.Deep.CutBlock
import Derived.Lib.LaidTab
import Derived.Below
import Derived.Lib.SliceRun
import Derived.Shelf.Strings.Builder1
import Derived.Shelf.Strings.Builder2
import Derived.Shelf.Strings.OnBuilder
import Derived.Shelf.Small.Bits
import Derived.Shelf.Small.Strs
import Derived.Shelf.Strings.BuilderF
import Derived.Shelf.Strings.BuilderK
import Derived.Shelf.Strings.Builder2Cap
import Derived.Shelf.Strconv.Itoa0
import Derived.Shelf.Strings.Search1
import Derived.Shelf.Strings.Prefix
import Derived.Shelf.Bits.Mul64
import Derived.Shelf.Strings.Repeat
import Derived.Shelf.Strings.BuilderCap
namespace Go.Proofs.YtbhdfaadedlcfaaGreatDoor
open Go.RowKit
section
attribute [local go_sem ↓] ldvI_eq
theorem keepQ {w W:World} {f:FuncId} {args:Array Value} {v:Value} (h:Calls Tryz.prog f args W fun e w'=>e = .returned v∧Below W.heap.size W w') (hW:Below w.heap.size w W) :
 Calls Tryz.prog f args W fun e w'=>e = .returned v∧Below w.heap.size w w':=h.mono fun _ _ ⟨he,hb⟩=>⟨he,hW.trans (hb.mono hW.size)⟩
theorem idsK {l:List Txt} (h : ∀ x∈l,x.length=32) : ∀ x∈l,(idC x).length=32:=fun x hx=>idC_len (h x hx)
def IdForm (w:World) (base:Nat) (A:Option Addr) (c:Nat) (l:List Txt):Prop:=(A=none∧c=0∧l=[]) ∨ ∃ g,A=some ⟨g,0,none⟩∧base≤g∧Row w g 46 32 idC c l
theorem ids_form {w:World} {base:Nat} {v:Value} {l:List Txt} (hok : ∀ x∈l,x.length=32) (h:OwnIds w base v l) : ∃ A c,v = .slice A l.length c∧IdForm w base A c l:=by
 rcases Row.of_own (idsK hok) h with ⟨rfl,rfl⟩ | ⟨g,cap,rfl,hg,hr⟩
 ·exact ⟨none,0,rfl, .inl ⟨rfl,rfl,rfl⟩⟩
 ·exact ⟨_,cap,rfl, .inr ⟨g,rfl,hg,hr⟩⟩
theorem src_take {w:World} {g c n:Nat} {l:List Txt} (hk : ∀ x∈l,(idC x).length=32) (h:Row w g 46 32 idC c l) (hn:n≤l.length):SrcAt 32 w (.slice (some ⟨g,0,none⟩) n c) n (rowsOf idC (l.take n)):=by
 have hk2 : ∀ x∈l.take n,(idC x).length=32:=fun x hx=>hk x (List.mem_of_mem_take hx)
 have hl:(l.take n).length=n:=by simp;omega
 refine .inl ⟨_,c,rfl,by rw [zAn hk2,hl],?_⟩
 have:=zAE ((h.cut n).range_from hk2 0)
 rwa [Nat.zero_mul] at this
theorem zCZ {w:World} {g c c' n m:Nat} {ad:Addr} {l:List Txt} (hk : ∀ x∈l,(idC x).length=32) (h:Row w g 46 32 idC c l) (had:ad=⟨g,n*32,none⟩∨l.length≤n) (hm:m=l.length-n):SrcAt 32 w (.slice (some ad) m c') m (rowsOf idC (l.drop n)):=by
 subst hm
 have hk2 : ∀ x∈l.drop n,(idC x).length=32:=fun x hx=>hk x (List.mem_of_mem_drop hx)
 refine .inl ⟨_,c',rfl,by rw [zAn hk2,List.length_drop],?_⟩
 rcases had with rfl | he
 ·exact zAE (h.range_from hk n)
 ·intro j u hu
  rw [List.drop_eq_nil_of_le he] at hu
  simp [rowsOf] at hu
set_option maxRecDepth 100000 in
set_option maxHeartbeats 4000000 in
theorem zDg (l:List Txt) (hok : ∀ x∈l,x.length=32) (hbig:l.length≤1000000) (v:Value) (w:World) (hv:Ids w v l) :
 Calls Tryz.prog 19 #[v] w fun e w' => ∃ v',e = .returned v'∧OwnIds w' w.heap.size v' (sortU l)∧Below w.heap.size w w':=by
 obtain ⟨S,hS⟩ : ∃ S,S=sortU l:=⟨_,rfl⟩
 have hfin:Hid (S=sortU (l.take l.length)):=Lib.hid (by rw [hS,List.take_length])
 rw [←hS]
 obtain ⟨A,cap,rfl,hcap1,hcap2,hat⟩:=hv
 clear hS
 go_enter Tryz.func19,Tryz.ntmps19
 go_wp2
 go_loopg [3,4] l.length (fun f vo vi wr => ∃ (k:Nat) (acc:List Txt),vi = .int .i64 k∧k+f≤l.length∧l.length≤k+f∧acc.length≤k∧Hid (acc=sortU (l.take k))∧Hid (∀ x∈acc,x.length=32)∧OwnIds wr w.heap.size vo acc∧Below w.heap.size w wr)
 case atStart=>exact ⟨0,[],rfl,by omega,by omega,by simp,Lib.hid rfl,Lib.hid (fun x hx=>by simp at hx),World.ownsRow_nil _ _ _ _,Below.refl _ _⟩
 case round=>
  obtain ⟨k,acc,rfl,hk1,hk2,hal,hacc,hall,hown,hbel⟩:=hrel
  cases gk with
  | succ f=>
    have hki:(k:Int)<(l.length:Int):=by omega
    obtain ⟨ga,oa,rfl,hga,hca⟩:=hat (by omega)
    obtain ⟨x,hx⟩ : ∃ x,l[k]?=some x:=⟨_,List.getElem?_eq_getElem (by omega)⟩
    have hxi:=hok x (List.mem_of_getElem? hx)
    have hnext:Hid (insU acc x=sortU (l.take (k+1))):=Lib.hid (by rw [sortU_more hx,hacc.out])
    have hnok:Hid (∀ y∈insU acc x,y.length=32):=Lib.hid fun y hy=>by
     rcases insU_mem hy with h | h
     ·exact hall.out y h
     ·rw [h];exact hxi
    have hnl:=insU_len acc x
    have hins:Hid (insU acc x=if freshB acc x (posL acc x acc.length)=true then acc.take (posL acc x acc.length)++[x]++acc.drop (posL acc x acc.length) else acc):=rfl
    have hPle:=posL_le acc x acc.length
    obtain ⟨PP,hPP⟩ : ∃ PP,posL acc x acc.length=PP:=⟨_,rfl⟩
    rw [hPP] at hPle hins
    replace hPP:=Lib.hid hPP
    obtain ⟨fb,hfb⟩ : ∃ fb,Hid (freshB acc x PP=fb):=⟨_,Lib.hid rfl⟩
    rw [hfb.out] at hins
    generalize insU acc x=NX at *
    have hlx : ∀ W,Below wr.heap.size wr W→(ldvI ⟨ga,oa+k*32,none⟩).run Tryz.prog W = .ok (.agg (u8s x)) W:=fun W hW=>by
     have hr:=zAc (hca k x hx) hga (hbel.trans (hW.mono hbel.size))
     exact zAb (show World.rangeAt W ga (oa+k*32) (u8s x).toList from hr) hxi
    obtain ⟨A3,c3,rfl,hform⟩:=ids_form hall.out hown
    have hlo:Hid (∀ m y,acc[m]?=some y → ∃ g3,A3=some ⟨g3,0,none⟩ ∧ ∀ W,Below wr.heap.size wr W→(ldvI ⟨g3,m*32,none⟩).run Tryz.prog W = .ok (.agg (u8s y)) W):=Lib.hid fun m y hy=>by
     rcases hform with ⟨_,_,rfl⟩ | ⟨g3,h1,h2,hr⟩
     ·simp at hy
     ·refine ⟨g3,h1,fun W hW=>?_⟩
      have hr2:=(hr.below hW).at_ m y hy
      exact zAb (show World.rangeAt W g3 (m*32) (u8s y).toList from hr2) (hall.out y (List.mem_of_getElem? hy))
    replace hform:=Lib.hid hform
    clear hx hca hat hok
    rename World=>wo
    go_upto_block 2 with (fail)
    go_cut [5] from 6 to 58 (fun s5 wx=>s5 = .int .i64 PP∧Below wo.heap.size wo wx)
    case first=>
     clear hfb hins hnext hnok hform hown hk1 hk2
     go_wp2_with (fail)
     go_loopg [5] acc.length (fun f vm wq=>vm = .int .i64 f∧f≤acc.length∧Hid (posL acc x f=PP)∧Below wo.heap.size wo wq)
     case atStart=>exact ⟨rfl,Nat.le_refl _,hPP,Below.refl _ _⟩
     case round=>
      obtain ⟨rfl,hm,hpm,hbq⟩:=hrel
      clear hPP
      cases gk with
      | zero=>
        obtain rfl:0=PP:=by rw [←hpm.out];rfl
        clear hpm hlx hlo
        go_simp
        go_step
        go_step
        refine zAd (C:=fun W=>Below wo.heap.size wo W) (by kernel_rfl) (by kernel_rfl) hbq.drew ?_
        repeat
         first
          | ((with_reducible refine zAl ?_ ?_)
             ·(go_simp;done)
             apply Exists.intro
             refine ⟨fun W hW=>?_,?_⟩
             ·first
               | (go_simp
                  rfl)
             simp only [Act.put,zA,zB,zC])
          | ((with_reducible refine zAh ?_ ?_)
             ·(first | rfl | (go_simp;done))
             simp only [Act.put,zA,zB,zC])
        with_reducible refine wpQuiet_nil ?_
        intro w5 hW5
        go_wp2_with (fail)
        go_meet
        case rel=>exact ⟨rfl,hW5⟩
      | succ m=>
        obtain ⟨y,hy⟩ : ∃ y,acc[m]?=some y:=⟨_,List.getElem?_eq_getElem (by omega)⟩
        have hyi:=hall.out y (List.mem_of_getElem? hy)
        obtain ⟨g3,rfl,hly⟩:=hlo.out m y hy
        have hyx:Hid (posL acc x (m+1)=if Op.bytesLess x y=true then posL acc x m else m+1):=Lib.hid (by rw [posL,List.getD_eq_getElem?_getD,hy];rfl)
        have hls:=fun W=>zD1 x y hxi hyi W
        generalize Op.bytesLess x y=b at *
        have hmi:(m:Int)<(acc.length:Int):=by omega
        have hw1:IntKind.i64.wrap ((m:Nat):Int)=(m:Int):=IntWalk.i64_in _ (by omega)
        clear hy hlo
        go_simp
        go_step
        go_step
        refine zAd (C:=fun W=>Below wo.heap.size wo W) (by kernel_rfl) (by kernel_rfl) hbq.drew ?_
        repeat
         first
          | ((with_reducible refine zAl ?_ ?_)
             ·(go_simp;done)
             apply Exists.intro
             refine ⟨fun W hW=>?_,?_⟩
             ·first
               | (have q0:=hlx W hW
                  have q1:=hly W hW
                  have q2:=hls W
                  go_simp
                  first
                   | rfl
                   | (with_reducible exact keepQ q2 hW))
             simp only [Act.put,zA,zB,zC])
          | ((with_reducible refine zAh ?_ ?_)
             ·(first | rfl | (go_simp;done))
             simp only [Act.put,zA,zB,zC])
        with_reducible refine wpQuiet_nil ?_
        intro w5 hW5
        cases b
        ·obtain rfl:m+1=PP:=by rw [←hpm.out,hyx.out];rfl
         clear hpm hyx hls hly hlx
         go_wp2_with (fail)
         go_meet
         case rel=>exact ⟨rfl,hW5⟩
        ·have hpm2:Hid (posL acc x m=PP):=Lib.hid (by rw [←hpm.out,hyx.out];rfl)
         clear hpm hyx hls hly hlx
         go_wp2_with (fail)
         go_roundg m
         case rel=>exact ⟨by go_num,by omega,hpm2,hW5⟩
         case measure=>omega
    case rest=>
     obtain ⟨rfl,hbc⟩:=hcut
     clear hPP
     go_upto_region 8 with (fail)
     go_cut [5,43] from 6 to 58 (fun s5 s43 wx=>s5 = .int .i64 PP∧s43 = .bool fb∧Below wo.heap.size wo wx)
     case first=>
      clear hins hnext hnok hform hown hk1 hk2
      cases PP with
      | zero=>
        obtain rfl:true=fb:=hfb.out
        clear hfb hlx hlo
        refine zAd (C:=fun W=>Below wo.heap.size wo W) (by kernel_rfl) (by kernel_rfl) hbc.drew ?_
        repeat
         first
          | ((with_reducible refine zAl ?_ ?_)
             ·(go_simp;done)
             apply Exists.intro
             refine ⟨fun W hW=>?_,?_⟩
             ·first
               | (go_simp
                  rfl)
             simp only [Act.put,zA,zB,zC])
          | ((with_reducible refine zAh ?_ ?_)
             ·(first | rfl | (go_simp;done))
             simp only [Act.put,zA,zB,zC])
        with_reducible refine wpQuiet_nil ?_
        intro w5 hW5
        go_wp2_with (fail)
        go_meet
        case rel=>exact ⟨rfl,rfl,hW5⟩
      | succ p=>
        obtain ⟨y,hy⟩ : ∃ y,acc[p]?=some y:=⟨_,List.getElem?_eq_getElem (by omega)⟩
        have hyi:=hall.out y (List.mem_of_getElem? hy)
        obtain ⟨g3,rfl,hly⟩:=hlo.out p y hy
        have hyx:fb = !decide (y=x):=by rw [←hfb.out,freshB,List.getD_eq_getElem?_getD,hy];rfl
        have heq:=fun W=>zC3 W y x hyi hxi
        rw [←hyx] at heq
        have hmi:(p:Int)<(acc.length:Int):=by omega
        have hw1:IntKind.i64.wrap ((p:Nat):Int)=(p:Int):=IntWalk.i64_in _ (by omega)
        have hp1:(((p+1:Nat):Int)==0)=false:=by simp;omega
        have hp2:((p:Int)+1==0)=false:=by simp;omega
        clear hy hlo hfb hyx
        refine zAd (C:=fun W=>Below wo.heap.size wo W) (by kernel_rfl) (by kernel_rfl) hbc.drew ?_
        repeat
         first
          | ((with_reducible refine zAl ?_ ?_)
             ·(go_simp;done)
             apply Exists.intro
             refine ⟨fun W hW=>?_,?_⟩
             ·first
               | (have q0:=hlx W hW
                  have q1:=hly W hW
                  have q2:=heq W
                  go_simp
                  first
                   | rfl
                   | (simp only [Sem.run_bind,run_eqGuard_agg _ _ _ _ _ _ _ Tryz.eqGuardType46,q2,Result.andThen_ok];rfl))
             simp only [Act.put,zA,zB,zC])
          | ((with_reducible refine zAh ?_ ?_)
             ·(first | rfl | (go_simp;done))
             simp only [Act.put,zA,zB,zC])
        with_reducible refine wpQuiet_nil ?_
        intro w5 hW5
        go_wp2_with (fail)
        go_meet
        case rel=>exact ⟨rfl,rfl,hW5⟩
     case rest=>
      obtain ⟨rfl,rfl,hb8⟩:=hcut
      clear hfb hlo hbc
      cases fb with
      | false=>
        have hNX:NX=acc:=by simpa using hins.out
        rw [hNX] at hnext hnok
        have hown2:=zAf hown hb8
        have hbel2:=hbel.trans (hb8.mono hbel.size)
        clear hins hlx hform hown
        go_wp2_with (fail)
        go_roundg f
        case rel=>exact ⟨k+1,acc,by go_num,by omega,by omega,by omega,hnext,hnok,hown2,hbel2⟩
        case measure=>omega
      | true=>
        have hNX:NX=acc.take PP++[x]++acc.drop PP:=by simpa using hins.out
        have hNl:NX.length=0+PP+1+(acc.length-PP):=by rw [hNX];simp only [List.length_append,List.length_take,List.length_drop,List.length_singleton];omega
        have hrow:Hid (rowsOf idC (acc.take PP)++idC x++rowsOf idC (acc.drop PP)=rowsOf idC NX):=by show _=_;rw [hNX,zAo,zAo,zAx]
        have hbel8:=hbel.trans (hb8.mono hbel.size)
        have hidx:(idC x).length=32:=idC_len hxi
        have hk32:=idsK hall.out
        replace hNl:=Lib.hid hNl
        clear hown hins hNX
        rcases hform.out with ⟨rfl,rfl,rfl⟩ | ⟨g3,rfl,hg3,hr3⟩
        ·obtain rfl:PP=0:=by simpa using hPle
         clear hform
         go_upto_region 9 with (fail)
         refine zAA 16 (by kernel_rfl) (by kernel_rfl) (by kernel_rfl) (by kernel_rfl) ?_
         simp only [exSp]
         iterate 16 apply Exists.intro
         repeat
          first
           | ((with_reducible apply lx0_ex)
              ·(go_simp;done)
              apply Exists.intro
              apply And.intro
              ·apply Eq.refl
              apply And.intro
              ·intro W hW hD
               have q1:=hlx W (hb8.trans (hW.mono hb8.size))
               go_simp
               rfl
              simp only [Act.put,zA,zB,zC])
           | ((with_reducible apply zA2)
              ·(first | rfl | (go_simp;done))
              ·apply Eq.refl
              simp only [Act.put,zA,zB,zC])
           | (first | (with_reducible apply zA1) | (with_reducible apply zAK)
              ·apply Eq.refl
              apply Exists.intro
              apply And.intro
              ·(go_simp;rfl)
              simp only [Act.put,zA,zB,zC])
           | ((with_reducible apply lx_slice0 Tryz.idsTy)
              ·apply Eq.refl
              intro v
              simp only [Act.put,zA,zB,zC])
           | ((with_reducible apply zB2 Tryz.idsTy (fun cs=>cs=u8s x) (by omega))
              ·apply Eq.refl
              apply Exists.intro
              apply And.intro
              ·(go_simp;rfl)
              refine ⟨fun W hF hD=>?_,?_⟩
              ·exact ⟨u8s x,rfl,by rw [zAj,hxi],rfl⟩
              intro v
              simp only [Act.put,zA,zB,zC])
           | ((with_reducible apply lx_appC Tryz.idsTy 0 0 0 (fun xs=>xs=[]) (fun xs=>xs=rowsOf idC (([]:List Txt).take 0)) (by omega) (by omega) zBx (by kernel_rfl) (by kernel_rfl) [] (fun q hq=>absurd hq (List.not_mem_nil)))
              ·apply Eq.refl
              apply Exists.intro
              apply Exists.intro
              apply And.intro
              ·(go_simp;rfl)
              apply And.intro
              ·(go_simp;rfl)
              refine ⟨(by first | exact List.Mem.head _ | exact List.Mem.tail _ (List.Mem.head _) | exact List.Mem.tail _ (List.Mem.tail _ (List.Mem.head _)) | exact List.Mem.tail _ (List.Mem.tail _ (List.Mem.tail _ (List.Mem.head _)))),fun W hF hD=>?_,?_⟩
              ·first
                | exact ⟨_,src_take hk32 (hr3.below (far_nil hF)) hPle,zAJ fun x _=>idC_one x,by rintro _ rfl;rfl⟩
                | exact ⟨[], .inr ⟨0,rfl,rfl,rfl⟩,fun u hu=>by simp at hu,by rintro _ rfl;rfl⟩
              intro v
              simp only [Act.put,zA,zB,zC])
           | ((with_reducible apply lx_appC Tryz.idsTy 4 (0+0) 1 (fun xs=>xs=rowsOf idC (([]:List Txt).take 0)) (fun xs=>xs=rowsOf idC (([]:List Txt).take 0)++idC x) (by omega) (by omega) zBx (by kernel_rfl) (by kernel_rfl) [] (fun q hq=>absurd hq (List.not_mem_nil)))
              ·apply Eq.refl
              apply Exists.intro
              apply Exists.intro
              apply And.intro
              ·(go_simp;rfl)
              apply And.intro
              ·(go_simp;rfl)
              refine ⟨(by first | exact List.Mem.head _ | exact List.Mem.tail _ (List.Mem.head _) | exact List.Mem.tail _ (List.Mem.tail _ (List.Mem.head _)) | exact List.Mem.tail _ (List.Mem.tail _ (List.Mem.tail _ (List.Mem.head _)))),fun W hF hD=>?_,?_⟩
              ·obtain ⟨F,g5,cs,rfl,_,hk5,rfl⟩:=hD.at 0 rfl (by kernel_rfl)
               refine ⟨idC x, .inl ⟨_,1,rfl,by rw [hidx],zAE (zAi hk5)⟩,idC_one x,?_⟩
               rintro _ rfl
               rfl
              intro v
              simp only [Act.put,zA,zB,zC])
           | ((with_reducible apply lx_appC Tryz.idsTy 10 (0+0+1) (([]:List Txt).length-0) (fun xs=>xs=rowsOf idC (([]:List Txt).take 0)++idC x) (fun xs=>xs=rowsOf idC (([]:List Txt).take 0)++idC x++rowsOf idC (([]:List Txt).drop 0)) (by omega) (by omega) zBx (by kernel_rfl) (by kernel_rfl) [] (fun q hq=>absurd hq (List.not_mem_nil)))
              ·apply Eq.refl
              apply Exists.intro
              apply Exists.intro
              apply And.intro
              ·(go_simp;rfl)
              apply And.intro
              ·(go_simp;rfl)
              refine ⟨(by first | exact List.Mem.head _ | exact List.Mem.tail _ (List.Mem.head _) | exact List.Mem.tail _ (List.Mem.tail _ (List.Mem.head _)) | exact List.Mem.tail _ (List.Mem.tail _ (List.Mem.tail _ (List.Mem.head _)))),fun W hF hD=>?_,?_⟩
              ·first
                | exact ⟨_,zCZ hk32 (hr3.below (far_nil hF)) (.inl rfl) rfl,zAJ fun x _=>idC_one x,by rintro _ rfl;rfl⟩
                | exact ⟨_,zCZ hk32 (hr3.below (far_nil hF)) (.inr (by omega)) (by omega),zAJ fun x _=>idC_one x,by rintro _ rfl;rfl⟩
                | exact ⟨[], .inr ⟨0,rfl,rfl,rfl⟩,fun u hu=>by simp at hu,by rintro _ rfl;rfl⟩
              intro v
              simp only [Act.put,zA,zB,zC])
         refine lx0_nil ?_ fun w5 hW5 hD5=>?_
         ·exact List.nodup_nil
         obtain ⟨F5,xs5,rfl,ho5,_⟩:=hD5 _ (.head _)
         have hown5:OwnIds w5 w.heap.size v NX:=by
          unfold OwnIds
          rw [hNl.out,←hrow.out]
          exact zAw ho5 hbel8.size
         have hbel5:=hbel8.trans (hW5.mono hbel8.size)
         clear ho5 hD5 hlx
         go_wp2_with (fail)
         go_roundg f
         case rel=>exact ⟨k+1,NX,by go_num,by omega,by omega,by omega,hnext,hnok,hown5,hbel5⟩
         case measure=>omega
        ·replace hr3:=hr3.below hb8
         have hcl:=hr3.le
         have hc63:=hr3.top63
         have hPi:(PP:Int)≤(acc.length:Int):=by omega
         by_cases hcP:c3=PP
         ·replace hcP:=hcP.symm
          subst hcP
          clear hform
          go_upto_region 9 with (fail)
          refine zAA 16 (by kernel_rfl) (by kernel_rfl) (by kernel_rfl) (by kernel_rfl) ?_
          simp only [exSp]
          iterate 16 apply Exists.intro
          repeat
           first
            | ((with_reducible apply lx0_ex)
               ·(go_simp;done)
               apply Exists.intro
               apply And.intro
               ·apply Eq.refl
               apply And.intro
               ·intro W hW hD
                have q1:=hlx W (hb8.trans (hW.mono hb8.size))
                go_simp
                rfl
               simp only [Act.put,zA,zB,zC])
            | ((with_reducible apply zA2)
               ·(first | rfl | (go_simp;done))
               ·apply Eq.refl
               simp only [Act.put,zA,zB,zC])
            | (first | (with_reducible apply zA1) | (with_reducible apply zAK)
               ·apply Eq.refl
               apply Exists.intro
               apply And.intro
               ·(go_simp;rfl)
               simp only [Act.put,zA,zB,zC])
            | ((with_reducible apply lx_slice0 Tryz.idsTy)
               ·apply Eq.refl
               intro v
               simp only [Act.put,zA,zB,zC])
            | ((with_reducible apply zB2 Tryz.idsTy (fun cs=>cs=u8s x) (by omega))
               ·apply Eq.refl
               apply Exists.intro
               apply And.intro
               ·(go_simp;rfl)
               refine ⟨fun W hF hD=>?_,?_⟩
               ·exact ⟨u8s x,rfl,by rw [zAj,hxi],rfl⟩
               intro v
               simp only [Act.put,zA,zB,zC])
            | ((with_reducible apply lx_appC Tryz.idsTy 0 0 PP (fun xs=>xs=[]) (fun xs=>xs=rowsOf idC (acc.take PP)) (by omega) (by omega) zBx (by kernel_rfl) (by kernel_rfl) [] (fun q hq=>absurd hq (List.not_mem_nil)))
               ·apply Eq.refl
               apply Exists.intro
               apply Exists.intro
               apply And.intro
               ·(go_simp;rfl)
               apply And.intro
               ·(go_simp;rfl)
               refine ⟨(by first | exact List.Mem.head _ | exact List.Mem.tail _ (List.Mem.head _) | exact List.Mem.tail _ (List.Mem.tail _ (List.Mem.head _)) | exact List.Mem.tail _ (List.Mem.tail _ (List.Mem.tail _ (List.Mem.head _)))),fun W hF hD=>?_,?_⟩
               ·first
                 | exact ⟨_,src_take hk32 (hr3.below (far_nil hF)) hPle,zAJ fun x _=>idC_one x,by rintro _ rfl;rfl⟩
                 | exact ⟨[], .inr ⟨0,rfl,rfl,rfl⟩,fun u hu=>by simp at hu,by rintro _ rfl;rfl⟩
               intro v
               simp only [Act.put,zA,zB,zC])
            | ((with_reducible apply lx_appC Tryz.idsTy 4 (0+PP) 1 (fun xs=>xs=rowsOf idC (acc.take PP)) (fun xs=>xs=rowsOf idC (acc.take PP)++idC x) (by omega) (by omega) zBx (by kernel_rfl) (by kernel_rfl) [] (fun q hq=>absurd hq (List.not_mem_nil)))
               ·apply Eq.refl
               apply Exists.intro
               apply Exists.intro
               apply And.intro
               ·(go_simp;rfl)
               apply And.intro
               ·(go_simp;rfl)
               refine ⟨(by first | exact List.Mem.head _ | exact List.Mem.tail _ (List.Mem.head _) | exact List.Mem.tail _ (List.Mem.tail _ (List.Mem.head _)) | exact List.Mem.tail _ (List.Mem.tail _ (List.Mem.tail _ (List.Mem.head _)))),fun W hF hD=>?_,?_⟩
               ·obtain ⟨F,g5,cs,rfl,_,hk5,rfl⟩:=hD.at 0 rfl (by kernel_rfl)
                refine ⟨idC x, .inl ⟨_,1,rfl,by rw [hidx],zAE (zAi hk5)⟩,idC_one x,?_⟩
                rintro _ rfl
                rfl
               intro v
               simp only [Act.put,zA,zB,zC])
            | ((with_reducible apply lx_appC Tryz.idsTy 10 (0+PP+1) 0 (fun xs=>xs=rowsOf idC (acc.take PP)++idC x) (fun xs=>xs=rowsOf idC (acc.take PP)++idC x++rowsOf idC (acc.drop PP)) (by omega) (by omega) zBx (by kernel_rfl) (by kernel_rfl) [] (fun q hq=>absurd hq (List.not_mem_nil)))
               ·apply Eq.refl
               apply Exists.intro
               apply Exists.intro
               apply And.intro
               ·(go_simp;rfl)
               apply And.intro
               ·(go_simp;rfl)
               refine ⟨(by first | exact List.Mem.head _ | exact List.Mem.tail _ (List.Mem.head _) | exact List.Mem.tail _ (List.Mem.tail _ (List.Mem.head _)) | exact List.Mem.tail _ (List.Mem.tail _ (List.Mem.tail _ (List.Mem.head _)))),fun W hF hD=>?_,?_⟩
               ·first
                 | exact ⟨_,zCZ hk32 (hr3.below (far_nil hF)) (.inl rfl) rfl,zAJ fun x _=>idC_one x,by rintro _ rfl;rfl⟩
                 | exact ⟨_,zCZ hk32 (hr3.below (far_nil hF)) (.inr (by omega)) (by omega),zAJ fun x _=>idC_one x,by rintro _ rfl;rfl⟩
                 | exact ⟨[], .inr ⟨0,rfl,rfl,rfl⟩,fun u hu=>by simp at hu,by rintro _ rfl;rfl⟩
               intro v
               simp only [Act.put,zA,zB,zC])
          refine lx0_nil ?_ fun w5 hW5 hD5=>?_
          ·exact List.nodup_nil
          obtain ⟨F5,xs5,rfl,ho5,_⟩:=hD5 _ (.head _)
          have hown5:OwnIds w5 w.heap.size v NX:=by
           unfold OwnIds
           rw [hNl.out,←hrow.out,show acc.length-PP=0 from by omega]
           exact zAw ho5 hbel8.size
          have hbel5:=hbel8.trans (hW5.mono hbel8.size)
          clear ho5 hD5 hlx
          go_wp2_with (fail)
          go_roundg f
          case rel=>exact ⟨k+1,NX,by go_num,by omega,by omega,by omega,hnext,hnok,hown5,hbel5⟩
          case measure=>omega
         ·have hPc:(PP:Int)≤(c3:Int):=by omega
          clear hform
          go_upto_region 9 with (fail)
          refine zAA 16 (by kernel_rfl) (by kernel_rfl) (by kernel_rfl) (by kernel_rfl) ?_
          simp only [exSp]
          iterate 16 apply Exists.intro
          repeat
           first
            | ((with_reducible apply lx0_ex)
               ·(go_simp;done)
               apply Exists.intro
               apply And.intro
               ·apply Eq.refl
               apply And.intro
               ·intro W hW hD
                have q1:=hlx W (hb8.trans (hW.mono hb8.size))
                go_simp
                rfl
               simp only [Act.put,zA,zB,zC])
            | ((with_reducible apply zA2)
               ·(first | rfl | (go_simp;done))
               ·apply Eq.refl
               simp only [Act.put,zA,zB,zC])
            | (first | (with_reducible apply zA1) | (with_reducible apply zAK)
               ·apply Eq.refl
               apply Exists.intro
               apply And.intro
               ·(go_simp;rfl)
               simp only [Act.put,zA,zB,zC])
            | ((with_reducible apply lx_slice0 Tryz.idsTy)
               ·apply Eq.refl
               intro v
               simp only [Act.put,zA,zB,zC])
            | ((with_reducible apply zB2 Tryz.idsTy (fun cs=>cs=u8s x) (by omega))
               ·apply Eq.refl
               apply Exists.intro
               apply And.intro
               ·(go_simp;rfl)
               refine ⟨fun W hF hD=>?_,?_⟩
               ·exact ⟨u8s x,rfl,by rw [zAj,hxi],rfl⟩
               intro v
               simp only [Act.put,zA,zB,zC])
            | ((with_reducible apply lx_appC Tryz.idsTy 0 0 PP (fun xs=>xs=[]) (fun xs=>xs=rowsOf idC (acc.take PP)) (by omega) (by omega) zBx (by kernel_rfl) (by kernel_rfl) [] (fun q hq=>absurd hq (List.not_mem_nil)))
               ·apply Eq.refl
               apply Exists.intro
               apply Exists.intro
               apply And.intro
               ·(go_simp;rfl)
               apply And.intro
               ·(go_simp;rfl)
               refine ⟨(by first | exact List.Mem.head _ | exact List.Mem.tail _ (List.Mem.head _) | exact List.Mem.tail _ (List.Mem.tail _ (List.Mem.head _)) | exact List.Mem.tail _ (List.Mem.tail _ (List.Mem.tail _ (List.Mem.head _)))),fun W hF hD=>?_,?_⟩
               ·first
                 | exact ⟨_,src_take hk32 (hr3.below (far_nil hF)) hPle,zAJ fun x _=>idC_one x,by rintro _ rfl;rfl⟩
                 | exact ⟨[], .inr ⟨0,rfl,rfl,rfl⟩,fun u hu=>by simp at hu,by rintro _ rfl;rfl⟩
               intro v
               simp only [Act.put,zA,zB,zC])
            | ((with_reducible apply lx_appC Tryz.idsTy 4 (0+PP) 1 (fun xs=>xs=rowsOf idC (acc.take PP)) (fun xs=>xs=rowsOf idC (acc.take PP)++idC x) (by omega) (by omega) zBx (by kernel_rfl) (by kernel_rfl) [] (fun q hq=>absurd hq (List.not_mem_nil)))
               ·apply Eq.refl
               apply Exists.intro
               apply Exists.intro
               apply And.intro
               ·(go_simp;rfl)
               apply And.intro
               ·(go_simp;rfl)
               refine ⟨(by first | exact List.Mem.head _ | exact List.Mem.tail _ (List.Mem.head _) | exact List.Mem.tail _ (List.Mem.tail _ (List.Mem.head _)) | exact List.Mem.tail _ (List.Mem.tail _ (List.Mem.tail _ (List.Mem.head _)))),fun W hF hD=>?_,?_⟩
               ·obtain ⟨F,g5,cs,rfl,_,hk5,rfl⟩:=hD.at 0 rfl (by kernel_rfl)
                refine ⟨idC x, .inl ⟨_,1,rfl,by rw [hidx],zAE (zAi hk5)⟩,idC_one x,?_⟩
                rintro _ rfl
                rfl
               intro v
               simp only [Act.put,zA,zB,zC])
            | ((with_reducible apply lx_appC Tryz.idsTy 10 (0+PP+1) (acc.length-PP) (fun xs=>xs=rowsOf idC (acc.take PP)++idC x) (fun xs=>xs=rowsOf idC (acc.take PP)++idC x++rowsOf idC (acc.drop PP)) (by omega) (by omega) zBx (by kernel_rfl) (by kernel_rfl) [] (fun q hq=>absurd hq (List.not_mem_nil)))
               ·apply Eq.refl
               apply Exists.intro
               apply Exists.intro
               apply And.intro
               ·(go_simp;rfl)
               apply And.intro
               ·(go_simp;rfl)
               refine ⟨(by first | exact List.Mem.head _ | exact List.Mem.tail _ (List.Mem.head _) | exact List.Mem.tail _ (List.Mem.tail _ (List.Mem.head _)) | exact List.Mem.tail _ (List.Mem.tail _ (List.Mem.tail _ (List.Mem.head _)))),fun W hF hD=>?_,?_⟩
               ·first
                 | exact ⟨_,zCZ hk32 (hr3.below (far_nil hF)) (.inl rfl) rfl,zAJ fun x _=>idC_one x,by rintro _ rfl;rfl⟩
                 | exact ⟨_,zCZ hk32 (hr3.below (far_nil hF)) (.inr (by omega)) (by omega),zAJ fun x _=>idC_one x,by rintro _ rfl;rfl⟩
                 | exact ⟨[], .inr ⟨0,rfl,rfl,rfl⟩,fun u hu=>by simp at hu,by rintro _ rfl;rfl⟩
               intro v
               simp only [Act.put,zA,zB,zC])
          refine lx0_nil ?_ fun w5 hW5 hD5=>?_
          ·exact List.nodup_nil
          obtain ⟨F5,xs5,rfl,ho5,_⟩:=hD5 _ (.head _)
          have hown5:OwnIds w5 w.heap.size v NX:=by
           unfold OwnIds
           rw [hNl.out,←hrow.out]
           exact zAw ho5 hbel8.size
          have hbel5:=hbel8.trans (hW5.mono hbel8.size)
          clear ho5 hD5 hlx
          go_wp2_with (fail)
          go_roundg f
          case rel=>exact ⟨k+1,NX,by go_num,by omega,by omega,by omega,hnext,hnok,hown5,hbel5⟩
          case measure=>omega
  | zero=>
    have hki : ¬ (k:Int)<(l.length:Int):=by omega
    have hkl:k=l.length:=by omega
    subst hkl
    go_wp2_with (fail)
    go_ret
    refine ⟨_,rfl,?_,hbel⟩
    rw [hfin.out,←hacc.out]
    exact hown
end
theorem lit_append_src {P:Program} {ops:Array Oper} {rest:List Oper} {a:Act} {W:World} {Q:Exit→Act→World→Prop} {d:Option Tmp} {rt:TypeId} {pos:String} {af:Array Edge}
 (s x:Operand) (t:TypeId) {e:TypeId} {z:Value} {size bytes:Nat} (hT:SliceTy P t e z size bytes) {base n:Nat} {v:Value} {xs:List Value} (hown:W.ownsRow base e size v n xs)
 {m:Nat} {v2:Value} {ys:List Value} (hsrc:SrcAt size W v2 m ys) (h1 : ∀ u∈ys,u.oneCell'=true) (h63:n+m≤9223372036854775807) (hbytes:(n+m)*bytes≤140737488355328) (hbase:base≤W.heap.size)
 (hs:a.eval s=v) (hx:a.eval x=v2)
 (h : ∀ v' w',w'.ownsRow base e size v' (n+m) (xs++ys)→Below base W w'→wpList P ops Q rest (a.put d v') w') :
 wpList P ops Q ({ dst:=d,op := .call { callee := .builtin .append,args := #[s,x],argTypes := #[t,t] },type:=rt,pos:=pos,after:=af,guard:=none }::rest) a W:=
 wpList_plain rfl fun _ hK=>by
  obtain ⟨v',w',hrun,ho,hg,_⟩:=zCj (rt:=rt) hT hown hsrc h1 h63 hbytes hbase
  unfold Oper.wp execOp
  simp only [resolve,invoke,builtin,Sem.run_bind,Sem.run_pure,Result.andThen_ok,List.map_toArray,List.map_cons,List.map_nil,hs,hx,hrun]
  exact hK _ _ (h v' w' ho ((Below.refl _ _).grown hg hbase (fun k hk=>(World.ownsRow.lt hown k hk).1)))
theorem lit_slice2 {P:Program} {w:World} {ops:Array Oper} {rest:List Oper} {a:Act} {Q:Exit→Act→World→Prop} {d:Option Tmp} {rt:TypeId} {pos:String} {af:Array Edge} (x y:Operand) {t e:TypeId} {z:Value} {size bytes:Nat} (hT:SliceTy P t e z size bytes) (cs cs':Array Value) (hcs:cs.size=size) (hcs':cs'.size=size) (hsm:size≤1000) (hx:a.eval x = .agg cs) (hy:a.eval y = .agg cs')
 (h:wpList P ops Q rest (a.put d (.slice (some ⟨w.heap.size,0,none⟩) 2 2)) (w.alloc (.cells (cs++cs') e))) :
 wpList P ops Q ({ dst:=d,op := .buildSlice t 2 #[(0,x),(1,y)],type:=rt,pos:=pos,after:=af,guard:=none }::rest) a w:=
 wpList_plain rfl fun _ hK=>by
  have e1:((#[(0,x),(1,y)]:Array (Nat×Operand)).map fun (i,x)=>(i,a.eval x)) = #[(0, .agg cs),(1, .agg cs')]:=by simp [hx,hy]
  have hrun:(Instr.buildSlice t 2 #[(0, .agg cs),(1, .agg cs')]).run P w = .ok (.slice (some ⟨w.heap.size,0,none⟩) 2 2) (w.alloc (.cells (cs++cs') e)):=by
   obtain ⟨it,hi,hz,hs,hb⟩:=hT.hi
   have h0:=hT.hsz
   refine run_buildSlice w _ _ 2 _ _ it _ hT.ht hi hz (by rw [hs];omega) (by rw [hs];omega) ?_
   rw [hs]
   have:=Great.fill_whole (s:=size) (by omega) [Value.agg cs,Value.agg cs'] ((Array.range (2*size)).map (z.cells[· % z.cells.size]!)) (by
    intro v hv
    simp at hv
    rcases hv with rfl | rfl
    ·exact hcs
    ·exact hcs') (by simp)
   have e:(cs.toList++cs'.toList).toArray=cs++cs':=by rw [←Array.toList_append,Array.toArray_toList]
   rw [←e]
   simpa [Value.cells] using this
  unfold Oper.wp execOp
  simp only [Sem.run_bind,e1,hrun,Result.andThen_ok]
  exact hK _ _ h
section
attribute [local go_sem ↓] ldvI_eq
theorem len0_calls (w:World):Calls Tryz.prog 100 #[.int .u64 0] w fun e w'=>e = .returned (.int .i64 0)∧w'=w:=by
 have h:=Any.bits_Len (SlLaysF0.n15.bits (P:=Tryz.prog) (ρ:=Tryz.sortId_ren) { Tryz.sortId with }) (0:Int) w (by omega) (by omega)
 exact h
set_option maxRecDepth 100000 in
set_option maxHeartbeats 1000000 in
theorem insNil_calls (f:Value) (w:World):Calls Tryz.prog 124 #[.slice none 0 0, .int .i64 0, .int .i64 0,f] w fun e w'=>e = .returned (.tuple #[])∧w'=w:=by
 go_enter Tryz.func124,Tryz.ntmps124
 go_wp2
 refine wp_loop_rounds 1 ?_
 rw [rounds_succ]
 go_wp2
 go_end0
 exact ⟨rfl,rfl⟩
set_option maxRecDepth 100000 in
set_option maxHeartbeats 1000000 in
theorem pdqNil_calls (f:Value) (w:World):Calls Tryz.prog 99 #[.slice none 0 0, .int .i64 0, .int .i64 0, .int .i64 0,f] w fun e w'=>e = .returned (.tuple #[])∧w'=w:=by
 have hi:=Lib.hid (insNil_calls f w)
 go_enter Tryz.func99,Tryz.ntmps99
 go_wp2
 refine wp_loop_rounds 1 ?_
 rw [rounds_succ]
 go_wp2_with (first
  | ((with_reducible refine hi.out.mono ?_);rintro e w1 ⟨rfl,rfl⟩))
 (try simp only [Exit.inBlock,Exit.then]);refine bodyPost_ret (results_none rfl _ _ _) rfl ?_
 exact ⟨rfl,rfl⟩
set_option maxRecDepth 100000 in
set_option maxHeartbeats 1000000 in
theorem sortNil_calls (f:Value) (w:World):Calls Tryz.prog 71 #[.slice none 0 0,f] w fun e w'=>e = .returned (.tuple #[])∧w'=w:=by
 have hl:=Lib.hid (len0_calls w)
 have hp:=Lib.hid (pdqNil_calls f w)
 go_enter Tryz.func71,Tryz.ntmps71
 go_wp2_with (first
  | ((with_reducible refine hl.out.mono ?_);rintro e w1 ⟨rfl,rfl⟩)
  | ((with_reducible refine hp.out.mono ?_);rintro e w1 ⟨rfl,rfl⟩))
 go_end0
 exact ⟨rfl,rfl⟩
set_option maxRecDepth 100000 in
set_option maxHeartbeats 1000000 in
theorem zEm (l:List Txt) (hok : ∀ x∈l,x.length=32) (hbig:l.length≤1000000) (v:Value) (w:World) (hv:Ids w v l) :
 Calls Tryz.prog 46 #[v] w fun e w' => ∃ v',e = .returned v'∧OwnIds w' w.heap.size v' (sortU l)∧Below w.heap.size w w':=by
 have hcl:=Lib.hid (zCT l hok hbig v w hv)
 obtain ⟨A,cap,rfl,_⟩:=hv
 go_enter Tryz.func46,Tryz.ntmps46
 go_wp2_with (first
  | ((with_reducible refine hcl.out.mono ?_);rintro e w1 ⟨v1,rfl,ho1,hb1⟩))
 have hbs:=hb1.size
 rcases Row.of_own (gidK hok) ho1 with ⟨rfl,rfl⟩ | ⟨g,c1,rfl,hg,hrow⟩
 ·have hso:=fun f=>Lib.hid (sortNil_calls f w1)
  have hco:=Lib.hid (zCI [] hok hbig (.slice none 0 0) w1 w.heap.size hbs ho1)
  go_wp2_with (first
   | ((with_reducible refine (hso _).out.mono ?_);rintro e w2 ⟨rfl,rfl⟩)
   | ((with_reducible refine hco.out.mono ?_);rintro e w3 ⟨v3,rfl,ho3,hb3⟩))
  go_ret
  exact ⟨_,rfl,ho3,hb1.trans hb3⟩
 ·have hso:=Lib.hid (sortIds_calls l hok hbig w1 g c1 w.heap.size hbs hg hrow)
  have hco:=fun (l':List Txt) (h1 : ∀ x∈l',x.length=32) (h2:l'.length≤1000000) (v':Value) (w2:World) (h3:w.heap.size≤w2.heap.size) (h4:OwnIds w2 w.heap.size v' l')=>Lib.hid (zCI l' h1 h2 v' w2 w.heap.size h3 h4)
  have hl : ∀ l':List Txt,l'.Perm l→l'.length=l.length:=fun l' h=>h.length_eq
  go_wp2_with (first
   | ((with_reducible refine hso.out.mono ?_);rintro e w2 ⟨rfl,l',hp,hs,hok2,hrow2,hb2⟩
      have hown2:=hrow2.own (gidK hok2) hg
      have hlen:=hl l' hp
      have hc2:=hco l' hok2 (by rw [hlen];exact hbig) _ w2 (hb1.trans hb2).size hown2
      have hfin:=Lib.hid (compT_sortU hp hs)
      rw [hlen] at hc2
      clear hs hok2 hrow2 hown2 hlen)
   | ((with_reducible refine hc2.out.mono ?_);rintro e w3 ⟨v3,rfl,ho3,hb3⟩))
  go_ret
  refine ⟨_,rfl,?_,(hb1.trans hb2).trans hb3⟩
  rw [←hfin.out,hl l' hp]
  exact ho3
set_option maxRecDepth 100000 in
set_option maxHeartbeats 2000000 in
theorem depthNext_calls (old sh deep:List Txt) (ho : ∀ x∈old,x.length=32) (hs : ∀ x∈sh,x.length=32) (hd : ∀ x∈deep,x.length=32) (lo:old.length≤1000) (ls:sh.length≤1000)
 (vo vs vd:Value) (w:World) (hvo:Ids w vo old) (hvs:Ids w vs sh) (hvd:Ids w vd deep) :
 Calls Tryz.prog 24 #[vo,vs,vd] w fun e w' => ∃ v',e = .returned v'∧OwnIds w' w.heap.size v' (sortU (old.filter (fun x => !inL deep x)++sh))∧Below w.heap.size w w':=by
 obtain ⟨W1,hW1⟩ : ∃ W1,w.alloc (.cells #[vd] 34)=W1:=⟨_,rfl⟩
 have n1:Blk W1 w.heap.size 34 #[vd]:=by rw [←hW1];exact Blk.new _ _ _
 have b1:Below w.heap.size w W1:=by rw [←hW1];exact (Below.refl _ _).alloc (Nat.le_refl _) _
 have c1:W1.cell? ⟨w.heap.size,0,none⟩=some vd:=by rw [n1.cell];rfl
 have hvd1:=hvd.below b1
 have hcl:=Lib.hid (zCT old ho (by omega) vo W1 (hvo.below b1))
 obtain ⟨F,hF⟩ : ∃ F,old.filter (fun x => !inL deep x)=F:=⟨_,rfl⟩
 have hFok : ∀ x∈F,x.length=32:=fun x hx=>ho x (List.mem_filter.1 (hF▸hx)).1
 have hFl:F.length≤1000:=by have:=List.length_filter_le (fun x => !inL deep x) old;rw [hF] at this;omega
 have hdf:Hid (∀ (w1:World) (v1:Value),Below W1.heap.size W1 w1→OwnIds w1 W1.heap.size v1 old→Calls Tryz.prog 42 #[v1, .func (.func 44) #[] #[.pointer (some ⟨w.heap.size,0,none⟩)]] w1 fun e w' => ∃ v',e = .returned v'∧OwnIds w' W1.heap.size v' F∧Below W1.heap.size w1 w'):=Lib.hid fun w1 v1 hb ho1=>by
  rw [←hF]
  exact zDd old ho v1 w1 W1.heap.size hb.size ho1 _ next1_func _ (inL deep) fun W x hx hW=>by
   have hWW:=hb.trans hW
   exact next1_calls deep hd vd w.heap.size x (ho x hx) W (Nat.lt_of_lt_of_le n1.lt hWW.size) ((hWW.cell (p:=⟨w.heap.size,0,none⟩) n1.lt).trans c1) (hvd1.below hWW)
 have hok2 : ∀ x∈F++sh,x.length=32:=fun x hx=>(List.mem_append.1 hx).elim (hFok x) (hs x)
 have hsrc:=fun W (hW:Below W1.heap.size W1 W)=>SrcAt.of (idsK hs) (hvs.below (bthen b1 b1.size hW))
 have hsd:=fun v W (h:Ids W v (F++sh))=>Lib.hid (zEm (F++sh) hok2 (by rw [List.length_append];omega) v W h)
 have hrow:Hid (rowsOf idC F++rowsOf idC sh=rowsOf idC (F++sh)):=Lib.hid (zAo _ _).symm
 have hlen:Hid ((F++sh).length=F.length+sh.length):=Lib.hid List.length_append
 have hone : ∀ u∈rowsOf idC sh,u.oneCell'=true:=zAJ fun x _=>idC_one x
 have hsz1:=b1.size
 have k63:F.length+sh.length≤9223372036854775807:=by omega
 have kby:(F.length+sh.length)*32≤140737488355328:=by omega
 have hownF:Hid (∀ W v,W.ownsRow W1.heap.size 46 32 v (F.length+sh.length) (rowsOf idC F++rowsOf idC sh)→OwnIds W W1.heap.size v (F++sh)):=Lib.hid fun W v h=>by
  unfold OwnIds;rw [hlen.out,←hrow.out];exact h
 have hids:Hid (∀ W v,OwnIds W W1.heap.size v (F++sh)→Ids W v (F++sh)):=Lib.hid fun W v h=>SliceAt.of_own (idsK hok2) h
 obtain ⟨Ao,co,rfl,_⟩:=hvo
 obtain ⟨Ad,cd,rfl,_⟩:=hvd
 replace hF:=Lib.hid hF
 clear hok2 hlen hrow hvs hvd1 c1 n1 hFok
 go_enter Tryz.func24,Tryz.ntmps24
 go_wp2_with (first
  | ((with_reducible refine hcl.out.mono ?_);rintro e w1 ⟨v1,rfl,ho1,hb1⟩
     have hc2:=hdf.out w1 v1 hb1 ho1)
  | ((with_reducible refine hc2.mono ?_);rintro e w2 ⟨v2,rfl,ho2,hb2⟩
     have hb12:=hb1.trans hb2
     have hs2:=hsrc w2 hb12
     have hz2:=hb12.size)
  | ((with_reducible refine lit_append_src (.tmp 12) (.tmp 13) 34 Tryz.idsTy ho2 hs2 hone k63 kby hz2 ?_ ?_ ?_);rfl;rfl
     intro v3 w3 ho3 hb3
     have ho3':=hownF.out _ _ ho3
     have hc4:=hsd _ _ (hids.out _ _ ho3')
     have hb13:=hb12.trans hb3)
  | ((with_reducible refine hc4.out.mono ?_);rintro e w4 ⟨v4,rfl,ho4,hb4⟩))
 go_ret
 have hz3:=hb13.size
 rw [hF.out]
 exact ⟨_,rfl,zAw ho4 (Nat.le_trans hsz1 hz3),bthen b1 hsz1 (hb13.trans (hb4.mono hz3))⟩
end
section
attribute [local go_sem ↓] ldvI_eq ldvO_eq
def zObjS : Array Value:=(objC ⟨0,[],[],noId,[],0,[],noId,0,[]⟩ (.slice none 0 0) (.slice none 0 0)).toArray
theorem built_zObjS : Tryz.prog.built 59 []=some zObjS:=by kernel_rfl
theorem zObjS_size : zObjS.size=72:=by kernel_rfl
theorem zObjS_one : zObjS.all (·.oneCell')=true:=by kernel_rfl
theorem zeroObjS (W:World):(zeroValue 59).run Tryz.prog W = .ok (.agg zObjS) W:=by
 have h:(Tryz.prog.info? 59).map (·.zero)=some (some (.agg zObjS)):=by kernel_rfl
 obtain ⟨i,h1,h2⟩:=Option.map_eq_some_iff.1 h
 simp [zeroValue,typeInfo,h1,h2]
theorem built_zIdS : Tryz.prog.built 46 []=some (u8s noId):=by kernel_rfl
theorem zeroIdS (W:World):(zeroValue 46).run Tryz.prog W = .ok (.agg (u8s noId)) W:=by
 have h:(Tryz.prog.info? 46).map (·.zero)=some (some (.agg (u8s noId))):=by kernel_rfl
 obtain ⟨i,h1,h2⟩:=Option.map_eq_some_iff.1 h
 simp [zeroValue,typeInfo,h1,h2]
theorem boxIdS (w:World) (n:Txt) (hn:n.length=32) : ∃ W1,w.alloc (.cells (u8s n) 46)=W1∧Below w.heap.size w W1∧Blk W1 w.heap.size 46 (u8s n) ∧ ∀ W,Below W1.heap.size W1 W→(ldvI ⟨w.heap.size,0,none⟩).run Tryz.prog W = .ok (.agg (u8s n)) W:=by
 have n1:Blk (w.alloc (.cells (u8s n) 46)) w.heap.size 46 (u8s n):=Blk.new _ _ _
 exact ⟨_,rfl,(Below.refl _ _).alloc (Nat.le_refl _) _,n1,fun W hW=>zAb (zAi (n1.below hW n1.lt)) hn⟩
set_option maxRecDepth 100000 in
theorem nilSPlace_calls (n:Txt) (w:World):Calls Tryz.prog 49 #[.pointer none, .agg (u8s n)] w fun e w'=>e = .returned (.tuple #[.int .i64 0, .bool false])∧Below w.heap.size w w':=by
 go_enter Tryz.func49,Tryz.ntmps49
 go_wp2
 go_ret2
 exact ⟨rfl,(Below.refl _ _).alloc (Nat.le_refl _) _⟩
set_option maxRecDepth 100000 in
theorem nilSLen_calls (w:World):Calls Tryz.prog 51 #[.pointer none] w fun e w'=>e = .returned (.int .i64 0)∧w'=w:=by
 go_enter Tryz.func51,Tryz.ntmps51
 go_wp2
 go_ret
 exact ⟨rfl,rfl⟩
set_option maxRecDepth 100000 in
theorem nilSGet_calls (n:Txt) (hn:n.length=32) (w:World):Calls Tryz.prog 54 #[.pointer none, .agg (u8s n)] w fun e w'=>e = .returned (.tuple #[.string (B []), .bool false])∧Below w.heap.size w w':=by
 obtain ⟨W1,hW1,b1,n1,ld⟩:=boxIdS w n hn
 have q1:=ld W1 (Below.refl _ _)
 have hp:=Lib.hid (nilSPlace_calls n W1)
 generalize u8s n=NC at *
 clear ld n1
 go_enter Tryz.func54,Tryz.ntmps54
 go_wp2_with (first
  | ((with_reducible refine hp.out.mono ?_);rintro e w2 ⟨rfl,hb2⟩))
 go_ret2
 exact ⟨rfl,bthen b1 b1.size hb2⟩
set_option maxRecDepth 100000 in
set_option maxHeartbeats 1000000 in
theorem zEL (n:Txt) (hn:n.length=32) (w:World):Calls Tryz.prog 30 #[.pointer none, .agg (u8s n)] w fun e w'=>e = .returned (.tuple #[.agg zObjS, .bool false])∧Below w.heap.size w w':=by
 have hzo:=zeroObjS
 have hz72:=zObjS_size
 have hrb:=fun W=>run_build (P:=Tryz.prog) W _ _ _ built_zObjS
 have hsz : ∀ cs:Array Value,cs.size=72→(Tryz.prog.info? 59).map (·.size)=some cs.size:=fun cs h=>by rw [h];exact szObj
 have hzone:zObjS.all (·.oneCell')=true:=zObjS_one
 obtain ⟨W1,hW1,b1,n1,ld⟩:=boxIdS w n hn
 obtain ⟨W2,hW2⟩ : ∃ W2,W1.alloc (.cells zObjS 59)=W2:=⟨_,rfl⟩
 have z2:Blk W2 W1.heap.size 59 zObjS:=by rw [←hW2];exact Blk.new _ _ _
 have bb2:Below W1.heap.size W1 W2:=by rw [←hW2];exact (Below.refl _ _).alloc (Nat.le_refl _) _
 have b2:=bthen b1 b1.size bb2
 have hg:=Lib.hid (nilSGet_calls n hn W2)
 have q1:=ld W2 bb2
 have hle1:=b1.size
 generalize u8s n=NC at *
 generalize zObjS=ZO at *
 clear ld n1
 go_enter Tryz.func30,Tryz.ntmps30
 go_wp2_with (first
  | ((with_reducible refine hg.out.mono ?_);rintro e w3 ⟨rfl,hb3⟩
     have b3:=bthen b2 b2.size hb3
     have z3:=z2.below hb3 z2.lt)
  | (refine wpList_store_row rfl 59 (.tmp 4) (.tmp 18) rfl W1.heap.size ZO rfl rfl _ _ z3 (hsz ZO hz72) rfl hzone ?_))
 refine bodyPost_ret (zAe rfl _ _ W1.heap.size _ _ _ _ rfl (setRow_heap _ _ _ _ _ _ z3) Tryz.underlying59 rfl (hsz ZO hz72)) rfl ⟨rfl,zAa b3 hle1 _⟩
set_option maxRecDepth 100000 in
set_option maxHeartbeats 1000000 in
theorem nilSEnd_calls (n:Txt) (hn:n.length=32) (w:World):Calls Tryz.prog 28 #[.pointer none, .agg (u8s n)] w fun e w'=>e = .returned (.tuple #[.agg (u8s noId), .bool false])∧Below w.heap.size w w':=by
 have hzi:=zeroIdS
 have hzo:=zeroObjS
 have hz72:=zObjS_size
 have hrb:=fun W=>run_build (P:=Tryz.prog) W _ _ _ built_zIdS
 have hZ32:(u8s noId).size=32:=by rw [zAj];rfl
 have hZone:=u8s_one noId
 have hsI:(Tryz.prog.info? 46).map (·.size)=some (u8s noId).size:=by rw [hZ32];exact sz32
 have hone:=zObjS_one
 obtain ⟨W1,hW1,b1,n1,ld⟩:=boxIdS w n hn
 obtain ⟨W2,hW2⟩ : ∃ W2,W1.alloc (.cells (u8s noId) 46)=W2:=⟨_,rfl⟩
 have z2:Blk W2 W1.heap.size 46 (u8s noId):=by rw [←hW2];exact Blk.new _ _ _
 have bb2:Below W1.heap.size W1 W2:=by rw [←hW2];exact (Below.refl _ _).alloc (Nat.le_refl _) _
 have b2:=bthen b1 b1.size bb2
 have hl:=Lib.hid (nilSLen_calls W2)
 have ho:=Lib.hid (zEL n hn W2)
 have q1:=ld W2 bb2
 have hle1:=b1.size
 generalize u8s n=NC at *
 generalize u8s noId=Z at *
 generalize zObjS=ZO at *
 clear ld n1
 go_enter Tryz.func28,Tryz.ntmps28
 go_wp2_with (first
  | ((with_reducible refine hl.out.mono ?_);rintro e w3 ⟨rfl,rfl⟩))
 refine wp_loop_rounds 1 ?_
 rw [rounds_succ]
 go_wp2_with (first
  | ((with_reducible refine ho.out.mono ?_);rintro e w3 ⟨rfl,hb3⟩
     have b3:=bthen b2 b2.size hb3
     have z3:=z2.below hb3 z2.lt)
  | ((with_reducible refine lit_new 59 (.tmp 6) (.tmp 17) ZO 72 szObj hz72 hone _ ?_ ?_ ?_ ?_)
     ·first | exact hz72 | rfl
     ·rfl
     ·rfl
     intro W4 hb4 hbl4
     have b4:=bthen b3 b3.size hbl4
     have z4:=z3.below hbl4 z3.lt)
  | (refine wpList_store_row rfl 46 (.tmp 4) (.tmp 22) rfl W1.heap.size Z rfl rfl _ _ z4 hsI rfl hZone ?_))
 refine bodyPost_ret (zAe rfl _ _ W1.heap.size _ _ _ _ rfl (setRow_heap _ _ _ _ _ _ z4) Tryz.underlying46 rfl hsI) rfl ⟨rfl,zAa b4 hle1 _⟩
end
section
attribute [local go_sem ↓] ldvI_eq
set_option maxRecDepth 100000 in
theorem fine0_calls (w:World):Calls Tryz.prog 27 #[.int .i64 0] w fun e w'=>e = .returned (.bool false)∧w'=w:=by
 go_enter Tryz.func27,Tryz.ntmps27
 go_wp2
 go_ret
 exact ⟨rfl,rfl⟩
set_option maxRecDepth 100000 in
theorem fine1_calls (w:World):Calls Tryz.prog 27 #[.int .i64 1] w fun e w'=>e = .returned (.bool true)∧w'=w:=by
 go_enter Tryz.func27,Tryz.ntmps27
 go_wp2
 go_ret
 exact ⟨rfl,rfl⟩
set_option maxRecDepth 100000 in
theorem ofNil0_calls (w:World):Calls Tryz.prog 10 #[.pointer none, .slice none 0 0, .int .i64 0] w fun e w'=>e = .returned (.tuple #[.slice none 0 0, .int .i64 1])∧w'=w:=by
 have hf:=Lib.hid (fine0_calls w)
 go_enter Tryz.func10,Tryz.ntmps10
 go_wp2_with (first
  | ((with_reducible refine hf.out.mono ?_);rintro e w1 ⟨rfl,rfl⟩))
 go_ret2
 exact ⟨rfl,rfl⟩
set_option maxRecDepth 100000 in
theorem boundNil_calls (w:World):Calls Tryz.prog 11 #[.pointer none, .slice none 0 0, .int .i64 0] w fun e w'=>e = .returned (.tuple #[.slice none 0 0, .slice none 0 0, .int .i64 1])∧w'=w:=by
 have hf:=Lib.hid (ofNil0_calls w)
 go_enter Tryz.func11,Tryz.ntmps11
 go_wp2_with (first
  | ((with_reducible refine hf.out.mono ?_);rintro e w1 ⟨rfl,rfl⟩))
 go_ret3
 exact ⟨rfl,rfl⟩
set_option maxRecDepth 100000 in
set_option maxHeartbeats 1000000 in
theorem ofNil1_calls (n:Txt) (hn:n.length=32) (g:Nat) (w:World) (hb:Blk w g 46 (u8s n)):Calls Tryz.prog 10 #[.pointer none, .slice (some ⟨g,0,none⟩) 1 1, .int .i64 1] w fun e w'=>e = .returned (.tuple #[.slice none 0 0, .int .i64 0])∧Below w.heap.size w w':=by
 have hf:=Lib.hid (fine1_calls w)
 have hl0:=zAb (zAi hb) hn
 have he:=fun W=>Lib.hid (nilSEnd_calls n hn W)
 have hN32:(u8s n).size=32:=by rw [zAj,hn]
 have hZ32:(u8s noId).size=32:=by rw [zAj];rfl
 have hNone:=u8s_one n
 have hZone:=u8s_one noId
 have hlN : ∀ W p,Blk W p 46 (u8s n)→(ldvI ⟨p,0,none⟩).run Tryz.prog W = .ok (.agg (u8s n)) W:=fun W p h=>zAb (zAi h) hn
 have hzi:=zeroIdS
 generalize u8s noId=Z at *
 generalize u8s n=NC at *
 clear hb
 go_enter Tryz.func10,Tryz.ntmps10
 go_wp2_with (first
  | ((with_reducible refine hf.out.mono ?_);rintro e w1 ⟨rfl,rfl⟩))
 refine wp_loop_rounds 2 ?_
 rw [rounds_succ]
 go_wp2_with (first
  | ((with_reducible refine lit_new 46 (.tmp 10) (.tmp 23) NC 32 sz32 hN32 hNone _ ?_ ?_ ?_ ?_)
     ·first | exact hZ32 | rfl
     ·rfl
     ·rfl
     intro W2 hb2 hbl2
     have hl2:=hlN W2 _ hb2
     have he2:=he W2)
  | ((with_reducible refine he2.out.mono ?_);rintro e w3 ⟨rfl,hb3⟩
     have b3:=bthen hbl2 hbl2.size hb3)
  | ((with_reducible refine lit_new 46 (.tmp 11) (.tmp 28) Z 32 sz32 hZ32 hZone _ ?_ ?_ ?_ ?_)
     ·first | exact hZ32 | rfl
     ·rfl
     ·rfl
     intro W4 hb4 hbl4
     have b4:=bthen b3 b3.size hbl4))
 rw [rounds_succ]
 go_wp2
 refine wp_loop_rounds 1 ?_
 rw [rounds_succ]
 go_wp2
 go_ret2
 exact ⟨rfl,b4⟩
def idN (c:UInt8):Txt:=c::List.replicate 31 0
theorem idN_len (c:UInt8):(idN c).length=32:=rfl
theorem built_id1 : Tryz.prog.built 46 [(0, .int .u8 1)]=some (u8s (idN 1)):=by kernel_rfl
theorem built_id2 : Tryz.prog.built 46 [(0, .int .u8 2)]=some (u8s (idN 2)):=by kernel_rfl
theorem built_id3 : Tryz.prog.built 46 [(0, .int .u8 3)]=some (u8s (idN 3)):=by kernel_rfl
theorem two_ids {w:World} {g:Nat} {a b:Txt} (ha:a.length=32) (hb:b.length=32) (h:Blk w g 46 (u8s a++u8s b)):Ids w (.slice (some ⟨g,0,none⟩) 2 2) [a,b]:=by
 have hr:=zAi h
 refine ⟨_,2,rfl,by simp,by omega,fun _=>⟨g,0,rfl,h.lt,fun i x hx=>?_⟩⟩
 have e:(u8s a++u8s b).toList=rowsOf idC [a,b]:=by rw [Array.toList_append];simp [rowsOf,idC]
 rw [e] at hr
 intro j u hu
 have:=zBQ (l:=[a,b]) (enc:=idC) (k:=32) (by
  intro y hy
  simp at hy
  rcases hy with rfl | rfl
  ·exact idC_len ha
  ·exact idC_len hb) hx hu
 have h2:=hr _ _ this
 rwa [←Nat.add_assoc] at h2
theorem one_id {w:World} {g:Nat} {a:Txt} (h:Blk w g 46 (u8s a)):Ids w (.slice (some ⟨g,0,none⟩) 1 1) [a]:=by
 have hr:=zAi h
 refine ⟨_,1,rfl,by simp,by omega,fun _=>⟨g,0,rfl,h.lt,fun i x hx=>?_⟩⟩
 cases i with
 | zero=>cases hx;intro j u hu;exact hr j u hu
 | succ i=>simp at hx
theorem next_row : sortU ([idN 1,idN 2].filter (fun x => !inL [idN 1] x)++[idN 3])=[idN 2,idN 3]:=by decide +kernel
set_option maxRecDepth 100000 in
set_option maxHeartbeats 4000000 in
theorem zEJ (w:World):Calls Tryz.prog 6 #[] w fun e w'=>e = .returned (.bool true)∧Below w.heap.size w w':=by
 have hZ32:(u8s noId).size=32:=by rw [zAj];rfl
 have hzi:=zeroIdS
 have hld:Hid (∀ c W p,Blk W p 46 (u8s (idN c))→(ldvI ⟨p,0,none⟩).run Tryz.prog W = .ok (.agg (u8s (idN c))) W):=Lib.hid fun c W p h=>zAb (zAi h) (idN_len c)
 have hsz:Hid (∀ c,(u8s (idN c)).size=32):=Lib.hid fun c=>by rw [zAj];rfl
 have hone:Hid (∀ c,(u8s (idN c)).all (·.oneCell')=true):=Lib.hid fun c=>u8s_one _
 have hbd:=Lib.hid boundNil_calls
 have hof:Hid (∀ g w,Blk w g 46 (u8s (idN 1))→Hid (Calls Tryz.prog 10 #[.pointer none, .slice (some ⟨g,0,none⟩) 1 1, .int .i64 1] w fun e w'=>e = .returned (.tuple #[.slice none 0 0, .int .i64 0])∧Below w.heap.size w w')):=Lib.hid fun g w h=>Lib.hid (ofNil1_calls (idN 1) rfl g w h)
 have hnx:Hid (∀ w g1 g2 g3,Blk w g1 46 (u8s (idN 1)++u8s (idN 2))→Blk w g2 46 (u8s (idN 3))→Blk w g3 46 (u8s (idN 1))→Hid (Calls Tryz.prog 24 #[.slice (some ⟨g1,0,none⟩) 2 2, .slice (some ⟨g2,0,none⟩) 1 1, .slice (some ⟨g3,0,none⟩) 1 1] w fun e w' => ∃ g cap,e = .returned (.slice (some ⟨g,0,none⟩) 2 cap)∧Row w' g 46 32 idC cap [idN 2,idN 3]∧Below w.heap.size w w')):=Lib.hid fun w g1 g2 g3 h1 h2 h3=>Lib.hid (by
  have h:=depthNext_calls [idN 1,idN 2] [idN 3] [idN 1] (by decide) (by decide) (by decide) (by decide) (by decide) _ _ _ w (two_ids rfl rfl h1) (one_id h2) (one_id h3)
  rw [next_row] at h
  refine h.mono fun e w' ⟨v,he,ho,hb⟩=>?_
  rcases Row.of_own (idsK (l:=[idN 2,idN 3]) (by decide)) ho with ⟨_,h4⟩ | ⟨g,cap,rfl,hg,hr⟩
  ·cases h4
  ·exact ⟨g,cap,he,hr,hb⟩)
 have hl23:Hid (∀ W g cap,Row W g 46 32 idC cap [idN 2,idN 3]→(ldvI ⟨g,0,none⟩).run Tryz.prog W = .ok (.agg (u8s (idN 2))) W∧(ldvI ⟨g,32,none⟩).run Tryz.prog W = .ok (.agg (u8s (idN 3))) W):=Lib.hid fun W g cap h=>
  ⟨zAb (show World.rangeAt W g 0 (u8s (idN 2)).toList from h.at_ 0 _ rfl) rfl,zAb (show World.rangeAt W g 32 (u8s (idN 3)).toList from h.at_ 1 _ rfl) rfl⟩
 have he2 : ∀ W,(binOp .eql 46 (.agg (u8s (idN 2))) (.agg (u8s (idN 2)))).run Tryz.prog W = .ok (.bool true) W:=fun W=>zBD W (idN 2) (idN 2) rfl rfl
 have he3 : ∀ W,(binOp .eql 46 (.agg (u8s (idN 3))) (.agg (u8s (idN 3)))).run Tryz.prog W = .ok (.bool true) W:=fun W=>zBD W (idN 3) (idN 3) rfl rfl
 have hb1:=built_id1
 have hb2:=built_id2
 have hb3:=built_id3
 have l1:=hld.out 1
 have l2:=hld.out 2
 have l3:=hld.out 3
 have s1:=hsz.out 1
 have s2:=hsz.out 2
 have s3:=hsz.out 3
 have o1:=hone.out 1
 have o2:=hone.out 2
 have o3:=hone.out 3
 clear hld hsz hone
 generalize u8s (idN 1)=C1 at *
 generalize u8s (idN 2)=C2 at *
 generalize u8s (idN 3)=C3 at *
 generalize u8s noId=Z at *
 go_enter Tryz.func6,Tryz.ntmps6
 go_wp2_with (first
  | ((with_reducible refine zAL hb1 ?_ ?_);rfl)
  | ((with_reducible refine zAL hb2 ?_ ?_);rfl)
  | ((with_reducible refine zAL hb3 ?_ ?_);rfl)
  | ((with_reducible refine lit_new 46 (.tmp 1) (.tmp 10) C1 32 sz32 s1 o1 _ ?_ ?_ ?_ ?_)
     ·first | exact hZ32 | rfl
     ·rfl
     ·rfl
     intro W1 n1 bl1)
  | ((with_reducible refine lit_new 46 (.tmp 2) (.tmp 11) C2 32 sz32 s2 o2 _ ?_ ?_ ?_ ?_)
     ·first | exact hZ32 | rfl
     ·rfl
     ·rfl
     intro W2 n2 bl2
     have b2:=bthen bl1 bl1.size bl2
     have n1b:=n1.below bl2 n1.lt)
  | ((with_reducible refine lit_new 46 (.tmp 3) (.tmp 12) C3 32 sz32 s3 o3 _ ?_ ?_ ?_ ?_)
     ·first | exact hZ32 | rfl
     ·rfl
     ·rfl
     intro W3 n3 bl3
     have b3:=bthen b2 b2.size bl3
     have n1c:=n1b.below bl3 n1b.lt
     have n2c:=n2.below bl3 n2.lt
     have q1:=l1 W3 _ n1c
     have q2:=l2 W3 _ n2c
     have q3:=l3 W3 _ n3
     obtain ⟨W4,hW4⟩ : ∃ W4,W3.alloc (.cells (C1++C2) 46)=W4:=⟨_,rfl⟩
     have bl4:Below W3.heap.size W3 W4:=by rw [←hW4];exact (Below.refl _ _).alloc (Nat.le_refl _) _
     have m4:Blk W4 W3.heap.size 46 (C1++C2):=by rw [←hW4];exact Blk.new _ _ _
     have q31:=l3 W4 _ (n3.below bl4 n3.lt)
     obtain ⟨W5,hW5⟩ : ∃ W5,W4.alloc (.cells C3 46)=W5:=⟨_,rfl⟩
     have bl5:Below W4.heap.size W4 W5:=by rw [←hW5];exact (Below.refl _ _).alloc (Nat.le_refl _) _
     have m5:Blk W5 W4.heap.size 46 C3:=by rw [←hW5];exact Blk.new _ _ _
     have b45:=bthen bl4 bl4.size bl5
     have q12:=l1 W5 _ (n1c.below b45 n1c.lt)
     obtain ⟨W6,hW6⟩ : ∃ W6,W5.alloc (.cells C1 46)=W6:=⟨_,rfl⟩
     have bl6:Below W5.heap.size W5 W6:=by rw [←hW6];exact (Below.refl _ _).alloc (Nat.le_refl _) _
     have m6:Blk W6 W5.heap.size 46 C1:=by rw [←hW6];exact Blk.new _ _ _
     have b46:=bthen b45 b45.size bl6
     have hN:=hnx.out W6 _ _ _ ((m4.below bl5 m4.lt).below bl6 (m4.below bl5 m4.lt).lt) (m5.below bl6 m5.lt) m6)
  | ((with_reducible refine lit_slice2 (.tmp 13) (.tmp 14) Tryz.idsTy C1 C2 s1 s2 (by omega) ?_ ?_ ?_);rfl;rfl;rw [hW4])
  | ((with_reducible refine zAC (.tmp 16) Tryz.idsTy C3 s3 (by omega) ?_ ?_);rfl;rw [hW5])
  | ((with_reducible refine zAC (.tmp 18) Tryz.idsTy C1 s1 (by omega) ?_ ?_);rfl;rw [hW6])
  | ((with_reducible refine hN.out.mono ?_);rintro e w7 ⟨g,cap,rfl,hr7,hb7⟩
     have b7:=bthen b46 b46.size hb7
     have hbd7:=hbd.out w7
     have q17:=l1 w7 _ (n1c.below b7 n1c.lt)
     obtain ⟨W8,hW8⟩ : ∃ W8,w7.alloc (.cells C1 46)=W8:=⟨_,rfl⟩
     have bl8:Below w7.heap.size w7 W8:=by rw [←hW8];exact (Below.refl _ _).alloc (Nat.le_refl _) _
     have m8:Blk W8 w7.heap.size 46 C1:=by rw [←hW8];exact Blk.new _ _ _
     have hof8:=hof.out _ W8 m8)
  | ((with_reducible refine hbd7.mono ?_);rintro e w71 ⟨rfl,rfl⟩)
  | ((with_reducible refine zAC (.tmp 27) Tryz.idsTy C1 s1 (by omega) ?_ ?_);rfl;rw [hW8])
  | ((with_reducible refine hof8.out.mono ?_);rintro e w9 ⟨rfl,hb9⟩
     have b79:=bthen bl8 bl8.size hb9
     have h92:=fun W (hW:Below w9.heap.size w9 W)=>(hl23.out W g cap (hr7.below (bthen b79 b79.size hW))).1
     have h93:=fun W (hW:Below w9.heap.size w9 W)=>(hl23.out W g cap (hr7.below (bthen b79 b79.size hW))).2
     have b39:=bthen b7 b7.size b79
     have h9n2:=fun W (hW:Below w9.heap.size w9 W)=>l2 W _ (n2c.below (bthen b39 b39.size hW) n2c.lt)
     have h9n3:=fun W (hW:Below w9.heap.size w9 W)=>l3 W _ (n3.below (bthen b39 b39.size hW) n3.lt)
     have b9:=bthen b3 b3.size b39))
 clear hnx hof hl23 hr7 l1 l2 l3 hzi
 refine zAd (C:=fun W=>Below w9.heap.size w9 W) (by kernel_rfl) (by kernel_rfl) (Below.refl _ _).drew ?_
 repeat
  first
   | ((with_reducible refine zAl ?_ ?_)
      ·(go_simp;done)
      apply Exists.intro
      refine ⟨fun W hW=>?_,?_⟩
      ·first
        | (have q1:=h92 W hW
           have q2:=h93 W hW
           have q3:=h9n2 W hW
           have q4:=h9n3 W hW
           have q5:=he2 W
           have q6:=he3 W
           go_simp
           first
            | rfl
            | (simp only [Sem.run_bind,run_eqGuard_agg _ _ _ _ _ _ _ Tryz.eqGuardType46,q5,q6,Result.andThen_ok];rfl))
      simp only [Act.put,zA,zB,zC])
   | ((with_reducible refine zAh ?_ ?_)
      ·(first | rfl | (go_simp;done))
      simp only [Act.put,zA,zB,zC])
 with_reducible refine wpQuiet_nil ?_
 intro w5 hW5
 go_wp2
 go_ret
 exact ⟨rfl,bthen b9 b9.size hW5⟩
end
end Go.Proofs.YtbhdfaadedlcfaaGreatDoor
namespace Go.Proofs.YtbhdfaadedlcfaaGreatDoor
open Go.ChangeShapes Go.WideShapes Go.ChangeAt Go.RowKit
section
variable {H:Type} {enc:TypeId×Value→H} {P:Program} {w:World} {base:Nat} {sp:Nat→Bool} {held:Bool}
open Go.Deep in
theorem zCy {α:Type} (en:α→List Value) (k:Nat) (hk0:0<k) (Ok:α→Prop) {t e:TypeId} {fuel:Nat} {v:Value} {x:DataW H×List MemPlace} (ht:P.underlying t=some (.slice e)) (hk:P.cellsOf e=k)
 (hen : ∀ y,Ok y→(en y).length=k) (key : ∀ fuel cs x,DataW.trod enc P w base sp held fuel e cs=some x→cs.length=k → ∃ y:α,cs=en y∧Ok y) (h:DataW.trod enc P w base sp held fuel t [v]=some x) :
 ∃ l:List α,SliceAt w k en v l ∧ ∀ y∈l,Ok y:=by
 rcases open_slice ht h with ⟨h0,_⟩ | ⟨a,len,cap,m,n,D,Pl,hcs,hb,hl,hm,hmm,hx,hi⟩
 ·injection h0 with h0
  subst h0
  exact ⟨[],SliceAt.nil,fun y hy=>by simp at hy⟩
 ·injection hcs with hcs
  subst hcs
  have hlm:len≤m:=by rw [hmm];split<;>omega
  have per : ∀ i,i<len → ∃ y:α,(∀ j u,(en y)[j]?=some u→w.cell? ((a.add (i*k)).add j)=some u)∧Ok y:=by
   intro i hil
   obtain ⟨cs',hc,ht'⟩:=hi i (by omega)
   rw [hk] at hc
   obtain ⟨_,hcl,hat⟩:=World.cells?_some hc
   obtain ⟨y,rfl,hok⟩:=key _ _ _ ht' hcl
   refine ⟨y,fun j u hu=>?_,hok⟩
   have hj:=(List.getElem?_eq_some_iff.1 hu).1
   rw [hat j (by omega)]
   exact hu
  obtain ⟨l,hll,hp⟩:=list_of len _ per
  subst hll
  have hcm:cap≤9223372036854775807:=by unfold maxLen at hm;omega
  refine ⟨l,⟨some a,cap,rfl,hl,hcm,fun h0=>?_⟩,fun y hy=>?_⟩
  ·have hy0:=(hp 0 h0).1
   have hlen0:=hen _ (hp 0 h0).2
   have hc0:=hy0 0 _ (List.getElem?_eq_getElem (by omega))
   simp only [Nat.zero_mul] at hc0
   have e00:(a.add 0).add 0=a:=by simp [Addr.add]
   rw [e00] at hc0
   obtain ⟨ha,hlt⟩:=addr_form hc0
   refine ⟨a.block,a.off,by rw [←ha],hlt,fun i y hy j u hu=>?_⟩
   obtain ⟨hi',he⟩:=List.getElem?_eq_some_iff.1 hy
   have hc:=(hp i hi').1 j u (by rw [he];exact hu)
   rw [ha] at hc
   simp only [addr_add] at hc
   exact hc
  ·obtain ⟨i,hi',rfl⟩:=List.getElem_of_mem hy
   exact (hp i hi').2
end
end Go.Proofs.YtbhdfaadedlcfaaGreatDoor
namespace Go.Proofs.YtbhdfaadedlcfaaGreatDoor
open Go.ChangeShapes Go.WideShapes Go.ChangeAt Go.RowKit
section
variable {H:Type} {enc:TypeId×Value→H} {w:World} {base:Nat} {sp:Nat→Bool} {held:Bool}
theorem chain {cs a:List Value} {n k m:Nat} (h:(cs.drop n).take k=a) (hm:n+k=m):cs.drop n=a++cs.drop m:=by
 rw [←h,←hm,←List.drop_drop]
 exact (List.take_append_drop k _).symm
theorem zBi {fuel:Nat} {t:TypeId} {cs:List Value} {x:DataW H×List MemPlace} (hc:cs.length=1) (h:DataW.trod enc Tryz.prog w base sp held fuel t cs=some x) : ∃ v,cs=[v]∧DataW.trod enc Tryz.prog w base sp held fuel t [v]=some x:=by
 match cs,hc with
 | [v],_=>exact ⟨v,rfl,h⟩
end
end Go.Proofs.YtbhdfaadedlcfaaGreatDoor
namespace Go.Proofs.YtbhdfaadedlcfaaGreatDoor
open Go.ChangeShapes Go.WideShapes Go.ChangeAt Go.RowKit
structure SdL where
 kind:UInt8
 refs:Txt
 time:Nat
 text:Txt
 vr:Value
def sdC (e:SdL):List Value:=[u8v e.kind,e.vr, .int .u16 e.time, .string (B e.text)]
def byC (c:UInt8):List Value:=[u8v c]
structure SdOk (w:World) (e:SdL):Prop where
 refs:SliceAt w 1 byC e.vr e.refs
 time:e.time<65536
 text:e.text.length≤9223372036854775807
theorem SdOk.below {w w':World} {e:SdL} (h:SdOk w e) (hb:Below w.heap.size w w'):SdOk w' e:=⟨h.refs.below hb,h.time,h.text⟩
structure Seeds (w:World) (v:Value) (l:List SdL):Prop where
 at_:SliceAt w 4 sdC v l
 each : ∀ e∈l,SdOk w e
theorem Seeds.below {w w':World} {v:Value} {l:List SdL} (h:Seeds w v l) (hb:Below w.heap.size w w'):Seeds w' v l:=⟨h.at_.below hb,fun e he=>(h.each e he).below hb⟩
section
variable {H:Type} {enc:TypeId×Value→H} {w:World} {base:Nat} {sp:Nat→Bool} {held:Bool}
theorem zDQ (fuel:Nat) (cs:List Value) (x:DataW H×List MemPlace) (h:DataW.trod enc Tryz.prog w base sp held fuel 5 cs=some x) (hl:cs.length=1) : ∃ c:UInt8,cs=byC c∧True:=by
 obtain ⟨n,e,_,w0⟩:=DataW.trod_int Tryz.underlying5 h
 have hb:=bounds_u8 w0
 obtain ⟨k,rfl⟩:=Int.eq_ofNat_of_zero_le hb.1
 refine ⟨UInt8.ofNat k,?_,trivial⟩
 rw [e]
 unfold byC
 rw [u8v_ofNat k (by omega)]
set_option maxRecDepth 200000 in
theorem elem_seed (fuel:Nat) (cs:List Value) (x:DataW H×List MemPlace) (h:DataW.trod enc Tryz.prog w base sp held fuel 99 cs=some x) (hl:cs.length=4) : ∃ r:SdL,cs=sdC r∧SdOk w r:=by
 obtain ⟨ys,n',hn',hy,hlen,hyl,hf⟩:=DataW.trod_struct Tryz.underlying99 h
 have hyl:ys.length=4:=hyl
 have h0:=hf 0 _ rfl
 have h1:=hf 1 _ rfl
 have h2:=hf 2 _ rfl
 have h3:=hf 3 _ rfl
 rw [List.getElem?_eq_getElem (show 0<ys.length by omega)] at h0
 rw [List.getElem?_eq_getElem (show 1<ys.length by omega)] at h1
 rw [List.getElem?_eq_getElem (show 2<ys.length by omega)] at h2
 rw [List.getElem?_eq_getElem (show 3<ys.length by omega)] at h3
 have cU:Tryz.prog.cellsOf 5=1:=by kernel_rfl
 have cB:Tryz.prog.cellsOf 23=1:=by kernel_rfl
 have cT:Tryz.prog.cellsOf 97=1:=by kernel_rfl
 have cS:Tryz.prog.cellsOf 9=1:=by kernel_rfl
 obtain ⟨n0,e0,_,w0⟩:=DataW.trod_int Tryz.underlying5 h0
 obtain ⟨n2,e2,_,w2⟩:=DataW.trod_int Tryz.underlying97 h2
 obtain ⟨s3,e3,_,w3⟩:=DataW.trod_string Tryz.underlying9 h3
 obtain ⟨v1,e1,t1⟩:=zBi (by
  show ((cs.drop 1).take (Tryz.prog.cellsOf 23)).length=1
  rw [cB,List.length_take,List.length_drop];omega) h1
 obtain ⟨lr,hlr,_⟩:=zCy byC 1 (by omega) (fun _=>True) Tryz.underlying23 cU (fun y _=>rfl) zDQ t1
 obtain ⟨a3,rfl⟩:=B_mk s3
 have b0:=bounds_u8 w0
 have b2:=bounds_u16 w2
 obtain ⟨k0,rfl⟩:=Int.eq_ofNat_of_zero_le b0.1
 obtain ⟨k2,rfl⟩:=Int.eq_ofNat_of_zero_le b2.1
 have e0':(cs.drop 0).take 1=[u8v (UInt8.ofNat k0)]:=by rw [u8v_ofNat k0 (by omega),←cU];exact e0
 have e1':(cs.drop 1).take 1=[v1]:=by rw [←cB];exact e1
 have e2':(cs.drop 2).take 1=[.int .u16 k2]:=by rw [←cT];exact e2
 have e3':(cs.drop 3).take 1=[.string (B a3)]:=by rw [←cS];exact e3
 refine ⟨⟨UInt8.ofNat k0,lr,k2,a3,v1⟩,?_,⟨hlr,by show k2<_;omega,by unfold maxLen at w3;rw [size_B] at w3;exact w3⟩⟩
 have:=chain e0' (m:=1) rfl
 rw [List.drop_zero,chain e1' (m:=2) rfl,chain e2' (m:=3) rfl,chain e3' (m:=4) rfl,List.drop_of_length_le (by omega)] at this
 rw [this]
 rfl
end
section
variable {w:World} {g o:Nat} {e:SdL}
theorem sd_refs (h:w.rangeAt g o (sdC e)):w.cell? ⟨g,o+1,none⟩=some e.vr:=h 1 _ rfl
theorem sd_text (h:w.rangeAt g o (sdC e)):w.cell? ⟨g,o+3,none⟩=some (.string (B e.text)):=h 3 _ rfl
end
theorem szSeed : (Tryz.prog.info? 99).map (·.size)=some 4:=by kernel_rfl
def FewB (l:List SdL) (most:Nat) (e:Ending):Prop := ∃ b,e = .returned (.bool b)∧(b=true→l.length≤most ∧ ∀ x∈l,x.refs.length≤10∧x.text.length≤300)
set_option maxRecDepth 100000 in
set_option maxHeartbeats 4000000 in
theorem few_calls11 (l:List SdL) (most:Nat) (hm:most≤1000) (va:Value) (w:World) (h:Seeds w va l):Calls Tryz.prog 21 #[va, .int .i64 most] w fun e w'=>FewB l most e∧Below w.heap.size w w':=by
 have hla:=h.at_.len
 have heach:=h.each
 obtain ⟨A,capa,rfl,ha1,ha2,hata⟩:=h.at_
 clear h
 go_enter Tryz.func21,Tryz.ntmps21
 go_wp2
 go_loopw [5] (fun i wr => ∃ k:Nat,i = .int .i64 k∧k≤l.length∧k≤most∧(∀ j x,j<k→l[j]?=some x→x.refs.length≤10∧x.text.length≤300)∧Below w.heap.size w wr) (fun i _=>l.length-(intOf i).toNat)
 case atStart=>exact ⟨0,rfl,by omega,by omega,fun j x hj=>by omega,Below.refl _ _⟩
 case round=>
  obtain ⟨k,rfl,hk,hkm,hall,hbel⟩:=hrel
  by_cases hlt:k<l.length
  ·have hki:(k:Int)<(l.length:Int):=by omega
   by_cases h20:k<most
   ·have hk2:(k:Int)<(most:Int):=by omega
    obtain ⟨ga,oa,rfl,hga,hca⟩:=hata (by omega)
    obtain ⟨x,hx⟩ : ∃ x,l[k]?=some x:=⟨_,List.getElem?_eq_getElem hlt⟩
    obtain ⟨A2,cap2,hvr,_⟩:=(heach x (List.mem_of_getElem? hx)).refs
    have q1:=sd_refs (zAc (hca k x hx) hga hbel)
    rw [hvr] at q1
    have q3:=sd_text (zAc (hca k x hx) hga hbel)
    by_cases hd:x.refs.length≤10
    ·have d1 : ¬ (10:Int)<(x.refs.length:Int):=by omega
     by_cases hd2:x.text.length≤300
     ·have d2 : ¬ (300:Int)<(x.text.length:Int):=by omega
      have hall2 : ∀ j y,j<k+1→l[j]?=some y→y.refs.length≤10∧y.text.length≤300:=fun j y hj hy=>by
       by_cases e:j=k
       ·rw [e,hx] at hy
        injection hy with hy
        rw [←hy];exact ⟨hd,hd2⟩
       ·exact hall j y (by omega) hy
      clear hx hata hca hd hd2 hall heach hvr
      go_wp2
      all_goals try (exfalso;omega)
      go_roundw
      case rel=>exact ⟨k+1,by go_num,by omega,by omega,hall2,hbel⟩
      case measure=>simp [intOf];omega
     ·have d2:(300:Int)<(x.text.length:Int):=by omega
      clear hx hata hca hd hd2 hall heach hvr
      go_wp2
      all_goals try (exfalso;omega)
      go_ret
      exact ⟨⟨false,rfl,fun h=>by cases h⟩,hbel⟩
    ·have d1:(10:Int)<(x.refs.length:Int):=by omega
     clear hx hata hca hd hall heach hvr
     go_wp2
     all_goals try (exfalso;omega)
     go_ret
     exact ⟨⟨false,rfl,fun h=>by cases h⟩,hbel⟩
   ·have hk2 : ¬ (k:Int)<(most:Int):=by omega
    have hno : ¬ (l.length:Int)≤(most:Int):=by omega
    clear hata hall heach
    go_wp2
    all_goals try (exfalso;omega)
    go_ret
    exact ⟨⟨_,rfl,fun h=>by simp at h⟩,hbel⟩
  ·have hki : ¬ (k:Int)<(l.length:Int):=by omega
   have h20:(l.length:Int)≤(most:Int):=by omega
   have hall2:=Lib.hid hall
   clear hata hall heach
   go_wp2
   all_goals try (exfalso;omega)
   go_ret
   refine ⟨⟨_,rfl,fun _=>⟨by omega,fun x hx=>?_⟩⟩,hbel⟩
   obtain ⟨j,hj,rfl⟩:=List.getElem_of_mem hx
   exact hall2.out j _ (by omega) (List.getElem?_eq_getElem hj)
set_option maxRecDepth 100000 in
theorem name_calls11 (k:Nat) (hk:k≤1000) (w:World):Calls Tryz.prog 66 #[.int .i64 k] w fun e w'=>(∃ c:UInt8,e = .returned (.string (B [c])))∧Below w.heap.size w w':=by
 have h1:IntKind.i64.wrap ((97:Int)+(k:Int)%20)=97+(k:Int)%20:=IntWalk.i64_in _ (by omega)
 have hs:=Tryz.str_of_one w ((97:Int)+(k:Int)%20)
 go_enter Tryz.func66,Tryz.ntmps66
 go_wp2
 go_ret
 exact ⟨⟨_,rfl⟩,(Below.refl _ _).alloc (Nat.le_refl _) _⟩
end Go.Proofs.YtbhdfaadedlcfaaGreatDoor
namespace Go.Proofs.YtbhdfaadedlcfaaGreatDoor
open Go.ChangeShapes Go.WideShapes Go.ChangeAt Go.RowKit
structure HisL where
 seeds:List SdL
 out:Txt
 frm:Txt
 cut:Txt
structure HisOk (w:World) (vs vo vf vc:Value) (h:HisL):Prop where
 seeds:Seeds w vs h.seeds
 out:SliceAt w 1 byC vo h.out
 frm:SliceAt w 1 byC vf h.frm
 cut:SliceAt w 1 byC vc h.cut
theorem HisOk.below {w w':World} {vs vo vf vc:Value} {h:HisL} (hh:HisOk w vs vo vf vc h) (hb:Below w.heap.size w w'):HisOk w' vs vo vf vc h:=⟨hh.seeds.below hb,hh.out.below hb,hh.frm.below hb,hh.cut.below hb⟩
section
variable {H:Type} {enc:TypeId×Value→H} {w:World} {base:Nat} {sp:Nat→Bool} {held:Bool}
set_option maxRecDepth 200000 in
theorem open_his {base0:Nat} {v:Value} {d:DataW H} {p:List MemPlace} (hv:Value.okWide Tryz.prog w .any base0 25 v) (h0:DataW.Trod enc Tryz.prog w base sp held 25 v d p) : ∃ (vs vo vf vc:Value) (h:HisL),v = .agg #[vs,vo,vf,vc]∧HisOk w vs vo vf vc h:=by
 simp only [Value.okWide,Tryz.underlying25] at hv
 obtain ⟨cs0,rfl,hsz,_⟩:=hv
 obtain ⟨fuel,hf0⟩:=h0
 have h4:Tryz.prog.cellsOf 25=4:=by kernel_rfl
 have hl:cs0.toList.length=4:=by rw [Array.length_toList,hsz,h4]
 have hf1:DataW.trod enc Tryz.prog w base sp held fuel 25 cs0.toList=some (d,p):=hf0
 obtain ⟨cs,hcs⟩ : ∃ cs,cs0.toList=cs:=⟨_,rfl⟩
 rw [hcs] at hl hf1
 obtain ⟨ys,n',hn',hy,hlen,hyl,hf⟩:=DataW.trod_struct Tryz.underlying25 hf1
 have hyl:ys.length=4:=hyl
 have h0:=hf 0 _ rfl
 have h1:=hf 1 _ rfl
 have h2:=hf 2 _ rfl
 have h3:=hf 3 _ rfl
 rw [List.getElem?_eq_getElem (show 0<ys.length by omega)] at h0
 rw [List.getElem?_eq_getElem (show 1<ys.length by omega)] at h1
 rw [List.getElem?_eq_getElem (show 2<ys.length by omega)] at h2
 rw [List.getElem?_eq_getElem (show 3<ys.length by omega)] at h3
 have cU:Tryz.prog.cellsOf 5=1:=by kernel_rfl
 have cB:Tryz.prog.cellsOf 23=1:=by kernel_rfl
 have cS:Tryz.prog.cellsOf 22=1:=by kernel_rfl
 obtain ⟨v0,e0,t0⟩:=zBi (by
  show ((cs.drop 0).take (Tryz.prog.cellsOf 22)).length=1
  rw [cS,List.length_take,List.length_drop];omega) h0
 obtain ⟨v1,e1,t1⟩:=zBi (by
  show ((cs.drop 1).take (Tryz.prog.cellsOf 23)).length=1
  rw [cB,List.length_take,List.length_drop];omega) h1
 obtain ⟨v2,e2,t2⟩:=zBi (by
  show ((cs.drop 2).take (Tryz.prog.cellsOf 23)).length=1
  rw [cB,List.length_take,List.length_drop];omega) h2
 obtain ⟨v3,e3,t3⟩:=zBi (by
  show ((cs.drop 3).take (Tryz.prog.cellsOf 23)).length=1
  rw [cB,List.length_take,List.length_drop];omega) h3
 obtain ⟨l0,hl0,ho0⟩:=zCy sdC 4 (by omega) (SdOk w) Tryz.underlying22 (by kernel_rfl) (fun y _=>rfl) elem_seed t0
 obtain ⟨l1,hl1,_⟩:=zCy byC 1 (by omega) (fun _=>True) Tryz.underlying23 cU (fun y _=>rfl) zDQ t1
 obtain ⟨l2,hl2,_⟩:=zCy byC 1 (by omega) (fun _=>True) Tryz.underlying23 cU (fun y _=>rfl) zDQ t2
 obtain ⟨l3,hl3,_⟩:=zCy byC 1 (by omega) (fun _=>True) Tryz.underlying23 cU (fun y _=>rfl) zDQ t3
 have e0':(cs.drop 0).take 1=[v0]:=by rw [←cS];exact e0
 have e1':(cs.drop 1).take 1=[v1]:=by rw [←cB];exact e1
 have e2':(cs.drop 2).take 1=[v2]:=by rw [←cB];exact e2
 have e3':(cs.drop 3).take 1=[v3]:=by rw [←cB];exact e3
 refine ⟨v0,v1,v2,v3,⟨l0,l1,l2,l3⟩,?_,⟨⟨hl0,ho0⟩,hl1,hl2,hl3⟩⟩
 have:=chain e0' (m:=1) rfl
 rw [List.drop_zero,chain e1' (m:=2) rfl,chain e2' (m:=3) rfl,chain e3' (m:=4) rfl,List.drop_of_length_le (by omega)] at this
 congr 1
 apply Array.ext'
 rw [hcs,this]
 rfl
end
end Go.Proofs.YtbhdfaadedlcfaaGreatDoor
namespace Go.Proofs.YtbhdfaadedlcfaaGreatDoor
open Go.RowKit
structure StL where
 id:List UInt8
 text:List UInt8
def stitC (r:StL):List Value:=(u8s r.id).toList++[.string (B r.text)]
def StitOk (r:StL):Prop:=r.id.length=32∧r.text.length≤9223372036854775807
theorem zAI (l:List UInt8):(u8s l).toList.length=l.length:=by simp [u8s]
theorem zBc {r:StL} (h:StitOk r):(stitC r).length=33:=by unfold stitC;rw [List.length_append,zAI,h.1];rfl
theorem zDK (r:StL) : ∀ u∈stitC r,u.oneCell'=true:=by
 intro u hu
 simp only [stitC,List.mem_append,List.mem_cons,List.not_mem_nil,or_false] at hu
 rcases hu with hu | rfl
 ·simp only [u8s,List.toList_toArray,List.mem_map] at hu
  obtain ⟨c,_,rfl⟩:=hu
  rfl
 ·rfl
def zStit : Value := .agg (stitC ⟨List.replicate 32 0,[]⟩).toArray
theorem Tryz.stitTy : SliceTy Tryz.prog 106 116 zStit 33 48:=⟨Tryz.underlying106,info_parts (by kernel_rfl),by kernel_rfl,by omega⟩
theorem stitC_id {w:World} {g o:Nat} {r:StL} (h:w.rangeAt g o (stitC r)):w.rangeAt g o (u8s r.id).toList:=fun j u hu=>h j u (by
 unfold stitC
 rw [List.getElem?_append_left (List.getElem?_eq_some_iff.1 hu).1]
 exact hu)
theorem stitC_text {w:World} {g o:Nat} {r:StL} (hr:r.id.length=32) (h:w.rangeAt g o (stitC r)):w.cell? ⟨g,o+32,none⟩=some (.string (B r.text)):=h 32 _ (by
 unfold stitC
 rw [List.getElem?_append_right (by rw [zAI,hr];omega),zAI,hr]
 rfl)
abbrev Rd := Txt×Bool
def rBytes (n:Nat) (r:Rd):Txt×Rd:=if r.2=true∨r.1.length<n then ([],(r.1,true)) else (r.1.take n,(r.1.drop n,false))
def rNum (r:Rd):Nat×Rd:=if r.2=true then (0,(r.1,true)) else match get r.1 with | none=>(0,(r.1,true)) | some (n,k)=>(n,(r.1.drop k,false))
def rText (r:Rd):Txt×Rd:=if r.2=true then ([],(r.1,true)) else match takeP r.1 with | none=>([],(r.1,true)) | some (t,q)=>(t,(q,false))
def idOr (b:Txt):Txt:=if b=[] then noId else b
def rId (r:Rd):Txt×Rd:=(idOr (rBytes 32 r).1,(rBytes 32 r).2)
def rKind (r:Rd):Nat×Rd:=(if (rBytes 1 r).2.2=true then 0 else ((rBytes 1 r).1.headD 0).toNat,(rBytes 1 r).2)
def rEnt (r:Rd):EntL×Rd:=(⟨(rText (rKind r).2).1,(rKind r).1,(rId (rText (rKind r).2).2).1⟩,(rId (rText (rKind r).2).2).2)
def rTree : Nat→Rd→List EntL→List EntL×Rd
 | 0,r,acc=>(acc,r)
 | f+1,r,acc=>if r.2=true∨r.1=[] then (acc,r) else rTree f (rEnt r).2 (acc++[(rEnt r).1])
def rPars : Nat→Rd→List Txt→List Txt×Rd
 | 0,r,acc=>(acc,r)
 | n+1,r,acc=>if r.2=true then (acc,r) else rPars n (rId r).2 (acc++[(rId r).1])
def nObj (k:Nat):ObjL:=⟨k,[],[],noId,[],0,[],noId,0,[]⟩
def badIf (b:Bool) (r:Rd):Rd:=if b=true then (r.1,true) else r
def rCommit (k:Nat) (r:Rd):ObjL×Rd:=
 let i:=rId r
 let n:=rNum i.2
 let p:=rPars n.1 (badIf (decide (8<n.1)) n.2) []
 let t:=rNum p.2
 let x:=rText (badIf (decide (4294967295<t.1)) t.2)
 (⟨k,[],[],i.1,p.1,t.1%4294967296,x.1,noId,0,[]⟩,x.2)
def rTag (k:Nat) (r:Rd):ObjL×Rd:=
 let f:=rKind r
 let i:=rId f.2
 let x:=rText i.2
 (⟨k,[],[],noId,[],0,[],i.1,f.1,x.1⟩,x.2)
def rBlob (k:Nat) (r:Rd):ObjL×Rd:=(⟨k,(rBytes r.1.length r).1,[],noId,[],0,[],noId,0,[]⟩,(rBytes r.1.length r).2)
def rTr (k:Nat) (r:Rd):ObjL×Rd:=(⟨k,[],(rTree r.1.length r []).1,noId,[],0,[],noId,0,[]⟩,(rTree r.1.length r []).2)
def readO (k:Nat) (r:Rd):ObjL×Rd:=if k=2 then rTr k r else if k=3 then rCommit k r else if k=4 then rTag k r else rBlob k r
def decO (s:Txt):Option ObjL:=match s with
 | []=>none
 | c::q=>if 4096<(c::q).length then none else match takeP q with
   | none=>none
   | some (t,b)=>if b≠[] then none else if (readO c.toNat (t,false)).2.2=true∨(readO c.toNat (t,false)).2.1≠[]∨mayB (readO c.toNat (t,false)).1=false then none else some (readO c.toNat (t,false)).1
def rotr (x n:Nat):Nat:=x / 2 ^ n+x*2 ^ (32-n)%4294967296
theorem rotr_lt {x n:Nat} (hx:x<4294967296) (h0:1≤n) (h1:n≤31):rotr x n<4294967296:=by
 have hp:(2:Nat) ^ (32-n)*2 ^ n=4294967296:=by rw [←Nat.pow_add,show 32-n+n=32 from by omega]
 have hd:x / 2 ^ n<2 ^ (32-n):=Nat.div_lt_of_lt_mul (by rw [Nat.mul_comm,hp];exact hx)
 have hm:x*2 ^ (32-n)%4294967296=2 ^ (32-n)*(x%2 ^ n):=by
  rw [←hp,Nat.mul_comm x,Nat.mul_mod_mul_left]
 have hr:x%2 ^ n+1≤2 ^ n:=Nat.mod_lt _ (Nat.two_pow_pos n)
 have h2:=Nat.mul_le_mul_left (2 ^ (32-n)) hr
 rw [hp,Nat.mul_add,Nat.mul_one] at h2
 rw [rotr,hm]
 omega
def sig0 (x:Nat):Nat:=rotr x 7 ^^^ rotr x 18 ^^^ x / 8
def sig1 (x:Nat):Nat:=rotr x 17 ^^^ rotr x 19 ^^^ x / 1024
def sum0 (a:Nat):Nat:=rotr a 2 ^^^ rotr a 13 ^^^ rotr a 22
def sum1 (e:Nat):Nat:=rotr e 6 ^^^ rotr e 11 ^^^ rotr e 25
theorem xor_lt {a b:Nat} (ha:a<4294967296) (hb:b<4294967296):a ^^^ b<4294967296:=Nat.xor_lt_two_pow (n:=32) ha hb
theorem and_lt {a b:Nat} (hb:b<4294967296):a &&& b<4294967296:=Nat.and_lt_two_pow (n:=32) a hb
def byteAt (b:List UInt8) (i:Nat):Nat:=(b.getD i 0).toNat
theorem zA6 (b:List UInt8) (i:Nat):byteAt b i<256:=(b.getD i 0).toNat_lt
def be4 (b:List UInt8) (j:Nat):Nat:=byteAt b (4*j)*16777216+byteAt b (4*j+1)*65536+byteAt b (4*j+2)*256+byteAt b (4*j+3)
theorem be4_lt (b:List UInt8) (j:Nat):be4 b j<4294967296:=by
 have:=zA6 b (4*j);have:=zA6 b (4*j+1);have:=zA6 b (4*j+2);have:=zA6 b (4*j+3)
 unfold be4;omega
def part4 (b:List UInt8) (i j:Nat):Nat:=
 if i≤4*j then 0 else if i=4*j+1 then byteAt b (4*j) else if i=4*j+2 then byteAt b (4*j)*256+byteAt b (4*j+1)
 else if i=4*j+3 then byteAt b (4*j)*65536+byteAt b (4*j+1)*256+byteAt b (4*j+2) else be4 b j
theorem part4_here (b:List UInt8) (i:Nat):part4 b (i+1) (i / 4)=part4 b i (i / 4)*256+byteAt b i∧part4 b i (i / 4)<16777216:=by
 obtain ⟨j,r,hr,rfl⟩ : ∃ j r,r<4∧i=4*j+r:=⟨i / 4,i%4,by omega,by omega⟩
 have hj:(4*j+r) / 4=j:=by omega
 rw [hj]
 have:=zA6 b (4*j);have:=zA6 b (4*j+1);have:=zA6 b (4*j+2);have:=zA6 b (4*j+3)
 match r,hr with
 | 0,_=>
   unfold part4
   rw [if_neg (by omega),if_pos (by omega),if_pos (by omega)]
   simp
 | 1,_=>
   unfold part4
   rw [if_neg (by omega),if_neg (by omega),if_pos (by omega),if_neg (by omega),if_pos (by omega)]
   omega
 | 2,_=>
   unfold part4
   rw [if_neg (by omega),if_neg (by omega),if_neg (by omega),if_pos (by omega),if_neg (by omega),if_neg (by omega),if_pos (by omega)]
   omega
 | 3,_=>
   unfold part4
   rw [if_neg (by omega),if_neg (by omega),if_neg (by omega),if_neg (by omega),if_neg (by omega),if_neg (by omega),if_neg (by omega),if_pos (by omega)]
   unfold be4
   omega
theorem part4_else (b:List UInt8) (i j:Nat) (h:j≠i / 4):part4 b (i+1) j=part4 b i j:=by
 unfold part4
 rcases Nat.lt_or_ge i (4*j) with hlt | hge
 ·rw [if_pos (by omega),if_pos (by omega)]
 ·rw [if_neg (by omega),if_neg (by omega),if_neg (by omega),if_neg (by omega),if_neg (by omega),if_neg (by omega),if_neg (by omega),if_neg (by omega)]
def parts (b:List UInt8) (i:Nat):List Nat:=(List.range 64).map (part4 b i)
theorem parts_length (b:List UInt8) (i:Nat):(parts b i).length=64:=by simp [parts]
theorem parts_get (b:List UInt8) (i j:Nat) (h:j<64):(parts b i).getD j 0=part4 b i j:=by
 simp [parts,List.getD,h]
theorem parts_zero (b:List UInt8):parts b 0=List.replicate 64 0:=by
 apply List.ext_getElem
 ·simp [parts]
 ·intro j h1 h2
  rw [List.getElem_replicate]
  simp [parts,part4]
theorem parts_step (b:List UInt8) (i:Nat):(parts b i).set (i / 4) ((parts b i).getD (i / 4) 0*256%4294967296+byteAt b i)=parts b (i+1):=by
 apply List.ext_getElem
 ·simp [parts]
 ·intro j h1 h2
  have hj:j<64:=by simpa [parts] using h2
  rw [List.getElem_set]
  split
  ·rename_i he
   subst he
   have:=part4_here b i
   rw [parts_get b i _ hj,Nat.mod_eq_of_lt (by omega)]
   simp [parts,this.1]
  ·rename_i hne
   simp [parts,part4_else b i j (fun h=>hne h.symm)]
def first (b:List UInt8) (k:Nat):List Nat:=(List.range k).map (be4 b)
theorem zBI (b:List UInt8) (k:Nat):(first b k).length=k:=by simp [first]
theorem parts_all (b:List UInt8):parts b 64=first b 16++List.replicate 48 0:=by
 apply List.ext_getElem
 ·simp [parts,first]
 ·intro j h1 h2
  have hj:j<64:=by simpa [parts] using h1
  rw [List.getElem_append]
  split
  ·rename_i h
   have h16:j<16:=by simpa [first] using h
   simp only [parts,first,List.getElem_map,List.getElem_range]
   unfold part4
   rw [if_neg (by omega),if_neg (by omega),if_neg (by omega)]
   split
   ·omega
   ·rfl
  ·rename_i h
   have h16 : ¬ j<16:=by simpa [first] using h
   simp only [parts,List.getElem_map,List.getElem_range,List.getElem_replicate]
   unfold part4
   rw [if_pos (by omega)]
def nextW (l:List Nat):Nat:=(l.getD (l.length-16) 0+l.getD (l.length-7) 0+sig0 (l.getD (l.length-15) 0)+sig1 (l.getD (l.length-2) 0))%4294967296
def sched : Nat→List Nat→List Nat
 | 0,l=>l
 | n+1,l=>sched n (l++[nextW l])
def wordsOf (b:List UInt8):List Nat:=sched 48 (first b 16)
def Fit32 (l:List Nat):Prop := ∀ i,l.getD i 0<4294967296
theorem Fit32.append {l:List Nat} (h:Fit32 l) {x:Nat} (hx:x<4294967296):Fit32 (l++[x]):=by
 intro i
 rcases Nat.lt_or_ge i l.length with hl | hl
 ·have:=h i
  simpa [List.getD,List.getElem?_append_left hl] using this
 ·rcases Nat.eq_or_lt_of_le hl with he | hg
  ·subst he;simpa [List.getD] using hx
  ·simp [List.getD,List.getElem?_eq_none (show (l++[x]).length≤i by simp;omega)]
theorem nextW_lt (l:List Nat):nextW l<4294967296:=Nat.mod_lt _ (by omega)
theorem first_fit (b:List UInt8) (k:Nat):Fit32 (first b k):=by
 intro i
 rcases Nat.lt_or_ge i k with h | h
 ·simp [first,List.getD,h,be4_lt]
 ·simp [first,List.getD,List.getElem?_eq_none (show ((List.range k).map (be4 b)).length≤i by simpa using h)]
theorem getD_left {l r:List Nat} {i:Nat} (h:i<l.length):(l++r).getD i 0=l.getD i 0:=by simp [List.getD,List.getElem?_append_left h]
theorem zEg (l:List Nat) (k x:Nat) (hk:0<k):(l++List.replicate k 0).set l.length x=(l++[x])++List.replicate (k-1) 0:=by
 obtain ⟨m,rfl⟩ : ∃ m,k=m+1:=⟨k-1,by omega⟩
 rw [List.set_append_right _ _ (Nat.le_refl _),Nat.sub_self,List.replicate_succ,List.set_cons_zero,List.append_assoc]
 rfl
theorem sched_length (n:Nat) (l:List Nat):(sched n l).length=l.length+n:=by
 induction n generalizing l with
 | zero=>rfl
 | succ n ih=>rw [sched,ih,List.length_append,List.length_singleton];omega
theorem sched_fit (n:Nat) (l:List Nat) (h:Fit32 l):Fit32 (sched n l):=by
 induction n generalizing l with
 | zero=>exact h
 | succ n ih=>exact ih _ (h.append (nextW_lt l))
theorem zCh (b:List UInt8):(wordsOf b).length=64:=by rw [wordsOf,sched_length,zBI]
theorem wordsOf_fit (b:List UInt8):Fit32 (wordsOf b):=sched_fit _ _ (first_fit b 16)
structure H8 where
 a:Nat
 b:Nat
 c:Nat
 d:Nat
 e:Nat
 f:Nat
 g:Nat
 h:Nat
def H8.list (s:H8):List Nat:=[s.a,s.b,s.c,s.d,s.e,s.f,s.g,s.h]
structure H8.Fit (s:H8):Prop where
 a:s.a<4294967296
 b:s.b<4294967296
 c:s.c<4294967296
 d:s.d<4294967296
 e:s.e<4294967296
 f:s.f<4294967296
 g:s.g<4294967296
 h:s.h<4294967296
def rndX (s:H8) (k w:Nat):Nat:=(s.h+sum1 s.e+((s.e &&& s.f) ^^^ ((4294967295 ^^^ s.e) &&& s.g))+k+w)%4294967296
def rndY (s:H8):Nat:=(sum0 s.a+((s.a &&& s.b) ^^^ (s.a &&& s.c) ^^^ (s.b &&& s.c)))%4294967296
def rnd (s:H8) (k w:Nat):H8:=⟨(rndX s k w+rndY s)%4294967296,s.a,s.b,s.c,(s.d+rndX s k w)%4294967296,s.e,s.f,s.g⟩
def K256 : List Nat:=[1116352408,1899447441,3049323471,3921009573,961987163,1508970993,2453635748,2870763221,3624381080,310598401,607225278,1426881987,1925078388,2162078206,2614888103,3248222580,3835390401,4022224774,264347078,604807628,770255983,1249150122,1555081692,1996064986,2554220882,2821834349,2952996808,3210313671,3336571891,3584528711,113926993,338241895,666307205,773529912,1294757372,1396182291,1695183700,1986661051,2177026350,2456956037,2730485921,2820302411,3259730800,3345764771,3516065817,3600352804,4094571909,275423344,430227734,506948616,659060556,883997877,958139571,1322822218,1537002063,1747873779,1955562222,2024104815,2227730452,2361852424,2428436474,2756734187,3204031479,3329325298]
theorem zBo : K256.length=64:=rfl
theorem K256_fit : Fit32 K256:=by
 intro i
 rcases Nat.lt_or_ge i 64 with h | h
 ·have : ∀ j:Fin 64,K256.getD j.val 0<4294967296:=by decide +kernel
  exact this ⟨i,h⟩
 ·rw [List.getD,List.getElem?_eq_none (by rw [zBo];exact h)]
  decide
def after (ws:List Nat) (s:H8):Nat→H8
 | 0=>s
 | t+1=>rnd (after ws s t) (K256.getD t 0) (ws.getD t 0)
def add32 (x y:Nat):Nat:=(x+y)%4294967296
def H8.plus (v s:H8):H8:=⟨add32 v.a s.a,add32 v.b s.b,add32 v.c s.c,add32 v.d s.d,add32 v.e s.e,add32 v.f s.f,add32 v.g s.g,add32 v.h s.h⟩
def blockOf (s:H8) (b:List UInt8):H8:=(after (wordsOf b) s 64).plus s
def mixed (v s:List Nat) (i:Nat):List Nat:=(List.zipWith add32 v s).take i++v.drop i
theorem zED (v s:List Nat) (h:s.length=v.length) (i:Nat) (hi:i≤v.length):(mixed v s i).length=v.length:=by
 simp [mixed,h];omega
theorem mixed_get (v s:List Nat) (h:s.length=v.length) (i:Nat) (hi:i<v.length):(mixed v s i).getD i 0=v.getD i 0:=by
 have hl:((List.zipWith add32 v s).take i).length=i:=by simp [h];omega
 simp only [mixed,List.getD]
 rw [List.getElem?_append_right (by omega),hl,Nat.sub_self,List.getElem?_drop,Nat.add_zero]
theorem mixed_step (v s:List Nat) (h:s.length=v.length) (i:Nat) (hi:i<v.length):(mixed v s i).set i (add32 (v.getD i 0) (s.getD i 0))=mixed v s (i+1):=by
 have hl:((List.zipWith add32 v s).take i).length=i:=by simp [h];omega
 have hz:i<(List.zipWith add32 v s).length:=by simp [h];omega
 unfold mixed
 rw [List.set_append_right _ _ (by omega),hl,Nat.sub_self,List.drop_eq_getElem_cons hi,List.set_cons_zero,List.take_add_one,List.getElem?_eq_getElem hz,List.getElem_zipWith,List.append_assoc]
 simp [List.getD,List.getElem?_eq_getElem hi,List.getElem?_eq_getElem (show i<s.length by omega)]
theorem mixed_all (v s:H8):mixed v.list s.list 8=(v.plus s).list:=rfl
theorem zB8 (x y:Nat):add32 x y<4294967296:=Nat.mod_lt _ (by omega)
theorem plus_fit (v s:H8):(v.plus s).Fit:=⟨zB8 _ _,zB8 _ _,zB8 _ _,zB8 _ _,zB8 _ _,zB8 _ _,zB8 _ _,zB8 _ _⟩
def H0 : H8:=⟨1779033703,3144134277,1013904242,2773480762,1359893119,2600822924,528734635,1541459225⟩
theorem H0_fit : H0.Fit:=by constructor<;>decide
def padLen (n:Nat):Nat:=(128-8-(n+1)%64)%64
def zAU (n:Nat):List UInt8:=(List.range 8).map fun i=>(8*n / 2 ^ (56-8*i)%256).toUInt8
def padded (l:List UInt8):List UInt8:=l++[128]++List.replicate (padLen l.length) 0++zAU l.length
def blocks : Nat→H8→List UInt8→H8
 | 0,s,_=>s
 | n+1,s,l=>blocks n (blockOf s (l.take 64)) (l.drop 64)
def stateOf (l:List UInt8):H8:=blocks ((padded l).length / 64) H0 (padded l)
def idOf (s:H8):List UInt8:=(List.range 32).map fun i=>(s.list.getD (i / 4) 0 / 2 ^ (24-8*(i%4))%256).toUInt8
def shaOf (l:List UInt8):List UInt8:=idOf (stateOf l)
theorem zBb (l:List UInt8):(shaOf l).length=32:=by simp [shaOf,idOf]
def StIs (x:StL):Prop:=x.id=shaOf x.text ∧ ∃ o,decO x.text=some o
structure StoOk (s:List StL):Prop where
 each : ∀ x∈s,StIs x
 sorted:SortedK StL.id s
 few:s.length≤500000
theorem decO_len {t:Txt} {o:ObjL} (h:decO t=some o):1≤t.length∧t.length≤4096:=by
 unfold decO at h
 split at h
 ·cases h
 ·split at h
  ·cases h
  ·rename_i h2
   exact ⟨by simp,by omega⟩
theorem StIs.ok {x:StL} (h:StIs x):StitOk x:=by
 obtain ⟨o,ho⟩:=h.2
 have:=decO_len ho
 exact ⟨by rw [h.1];exact zBb _,by omega⟩
theorem StoOk.ok {s:List StL} (h:StoOk s) : ∀ x∈s,StitOk x:=fun x hx=>(h.each x hx).ok
theorem StoOk.nil : StoOk []:=⟨fun x hx=>by simp at hx,List.Pairwise.nil,by simp⟩
def putS (s:List StL) (t:Txt):List StL:=match decO t with
 | none=>s
 | some _=>if hasK StL.id s (shaOf t) then s else insK StL.id s ⟨shaOf t,t⟩
def putI (t:Txt):Txt:=match decO t with
 | none=>List.replicate 32 0
 | some _=>shaOf t
def putC (t:Txt):Nat:=match decO t with
 | none=>2
 | some _=>0
theorem putS_eq (s:List StL) {t:Txt} (h:hasK StL.id s (shaOf t)=false):insK StL.id s ⟨shaOf t,t⟩=putK StL.id s ⟨shaOf t,t⟩:=by unfold putK;rw [h];rfl
theorem StoOk.put {s:List StL} (h:StoOk s) (t:Txt) (hf:s.length<500000):StoOk (putS s t):=by
 unfold putS
 split
 ·exact h
 ·rename_i o ho
  split
  ·exact h
  ·rename_i hh
   rw [putS_eq s (by simpa using hh)]
   refine ⟨fun x hx=>?_,zEh h.sorted,Nat.le_trans putK_len (by omega)⟩
   rcases putK_mem hx with h1 | h1
   ·exact h.each x h1
   ·subst h1
    exact ⟨rfl,o,ho⟩
def getS (s:List StL) (n:Txt):Option StL:=s.find? fun r=>r.id==n
theorem hasK_atS {s:List StL} {n:Txt} {P:Nat} (h:hasK StL.id s n=true) (hG:getS s n=s[P]?):(s[P]?).isSome=true:=by
 rw [←hG]
 unfold getS
 unfold hasK at h
 rw [List.any_eq_true] at h
 obtain ⟨y,hy,hk⟩:=h
 rw [List.find?_isSome]
 exact ⟨y,hy,hk⟩
theorem getS_at {s:List StL} (h:StoOk s) (n:Txt):getS s n=if hasK StL.id s n then s[posK StL.id s n]? else none:=find_at h.sorted
def StitsOk (l:List StL):Prop := ∀ r∈l,StitOk r
theorem stitK {l:List StL} (h:StitsOk l) : ∀ x∈l,(stitC x).length=33:=fun x hx=>zBc (h x hx)
theorem stitOne (l:List StL) : ∀ u∈rowsOf stitC l,u.oneCell'=true:=zAJ fun x _=>zDK x
theorem szStit : (Tryz.prog.info? 116).map (·.size)=some 33:=by kernel_rfl
theorem sizedStit {r:StL} (h:StitOk r):(Tryz.prog.info? 116).map (·.size)=some (stitC r).length:=by rw [zBc h];exact szStit
abbrev Stits (w:World) (v:Value) (l:List StL):Prop:=SliceAt w 33 stitC v l
abbrev zAS (w:World) (base:Nat) (v:Value) (l:List StL):Prop:=w.ownsRow base 116 33 v l.length (rowsOf stitC l)
theorem zAS.refs {w:World} {base:Nat} {v:Value} {l:List StL} (hok:StitsOk l) (h:zAS w base v l):Stits w v l:=SliceAt.of_own (stitK hok) h
theorem zDW {w:World} {g:Nat} {r:StL} (h:Blk w g 116 (stitC r).toArray):w.rangeAt g 0 (stitC r):=by
 have:=zAi h
 rwa [List.toList_toArray] at this
def ldvStit (p:Addr):Sem Value:=loadVar 116 p
theorem ldvStit_eq (p:Addr):loadVar 116 p=ldvStit p:=rfl
theorem run_ldvStit {w:World} {g o:Nat} {x:StL} (h:w.rangeAt g o (stitC x)) (hx:StitOk x):(ldvStit ⟨g,o,none⟩).run Tryz.prog w = .ok (.agg (stitC x).toArray) w:=
 run_loadVar_mid (P:=Tryz.prog) w g o 116 (stitC x) _ h Tryz.underlying116 rfl (sizedStit hx)
theorem zAS.of_row {w:World} {base g cap:Nat} {l:List StL} (hok:StitsOk l) (h:Row w g 116 33 stitC cap l) (hg:base≤g) {n:Nat} (hn:n=l.length):zAS w base (.slice (some ⟨g,0,none⟩) n cap) l:=by
 subst hn
 exact h.own (stitK hok) hg
theorem zStit_cells : zStit.cells.size=33:=rfl
section
attribute [local go_sem ↓] ldvStit_eq ldvI_eq
theorem zCb {w0 w:World} {f:FuncId} {args:Array Value} {v:Value} (hW:Below w0.heap.size w0 w) (h:Calls Tryz.prog f args w fun e w'=>e = .returned v∧Below w.heap.size w w') :
 Calls Tryz.prog f args w fun e w'=>e = .returned v∧Below w0.heap.size w0 w':=h.mono fun _ _ ⟨he,hb⟩=>⟨he,bthen hW hW.size hb⟩
set_option maxRecDepth 100000 in
set_option maxHeartbeats 4000000 in
theorem bsfStits_calls (l:List StL) (hok:StitsOk l) (hbig:l.length≤1000000) (v:Value) (w:World) (hv:Stits w v l) (f:FuncId) (hf : ∀ (a:Array Value) (W:World),(callFunc f a).run Tryz.prog W = .ok (.enter f a) W) (n:List UInt8) (hn:n.length=32) (cmp:StL→Int)
 (hcl : ∀ (W:World) (x:StL),x∈l→Below w.heap.size w W→Calls Tryz.prog f #[.agg (stitC x).toArray, .agg (u8s n)] W fun e w'=>e = .returned (.int .i64 (cmp x))∧Below W.heap.size W w')
 (p:Nat) (hp:p≤l.length) (hcmp : ∀ i x,l[i]?=some x→(cmp x<0↔i<p)) :
 Calls Tryz.prog 81 #[v, .agg (u8s n), .func (.func f) #[] #[]] w fun e w'=>
  e = .returned (.tuple #[.int .i64 p, .bool (hitAt cmp l p)])∧Below w.heap.size w w':=by
 obtain ⟨A,cap,rfl,hcap1,hcap2,hat⟩:=hv
 have hcmp:=Lib.hid hcmp
 obtain ⟨b,hb⟩ : ∃ b,Hid (b=hitAt cmp l p):=⟨_,Lib.hid rfl⟩
 rw [←hb.out]
 obtain ⟨W1,hW1⟩ : ∃ W1,w.alloc (.cells (u8s n) 46)=W1:=⟨_,rfl⟩
 have hn1:Blk W1 w.heap.size 46 (u8s n):=by rw [←hW1];exact Blk.new _ _ _
 have bW1:Below w.heap.size w W1:=by rw [←hW1];exact (Below.refl _ _).alloc (Nat.le_refl _) _
 have hsI:(Tryz.prog.info? 46).map (·.size)=some (u8s n).toList.length:=by rw [zAI,hn];exact sz32
 obtain ⟨NC,hNC⟩ : ∃ NC,u8s n=NC:=⟨_,rfl⟩
 rw [hNC] at hW1 hn1 hsI hcl ⊢
 clear hNC
 go_enter Tryz.func81,Tryz.ntmps81
 go_wp2
 go_loopw [9,10] (fun vi vj wr => ∃ lo hi:Nat,vi = .int .i64 lo∧vj = .int .i64 hi∧lo≤p∧p≤hi∧hi≤l.length∧Below W1.heap.size W1 wr) (fun vi vj _=>(intOf vj).toNat-(intOf vi).toNat)
 case atStart=>exact ⟨0,l.length,rfl,rfl,by omega,hp,by omega,Below.refl _ _⟩
 case round=>
  obtain ⟨lo,hi,rfl,rfl,hlo,hhi,hle,hbel⟩:=hrel
  clear hW1
  by_cases hlt:lo<hi
  ·have hli:(lo:Int)<(hi:Int):=by omega
   obtain ⟨m,hm⟩ : ∃ m:Nat,Hid (m=(lo+hi) / 2):=⟨_,Lib.hid rfl⟩
   have hm2:((lo:Int)+(hi:Int)) / 2=(m:Int):=by rw [hm.out];omega
   have hml:m<l.length:=by rw [hm.out];omega
   have hmi:(m:Int)<(l.length:Int):=by omega
   have hmlo:lo≤m:=by rw [hm.out];omega
   have hmhi:m<hi:=by rw [hm.out];omega
   obtain ⟨g,o,rfl,hg,hcell⟩:=hat (by omega)
   obtain ⟨x,hx⟩ : ∃ x,l[m]?=some x:=⟨_,List.getElem?_eq_getElem hml⟩
   have hxm:=List.mem_of_getElem? hx
   have hxok:=hok x hxm
   have hxr:=hcell m x hx
   have hc2:=fun W hb=>hcl W x hxm hb
   have hd:=hcmp.out m x hx
   clear hx hcell hat hcl
   go_wp2
   refine zAd (C:=fun W=>Below W1.heap.size W1 W) (by kernel_rfl) (by kernel_rfl) hbel.drew ?_
   repeat
    first
     | ((with_reducible refine zAl ?_ ?_)
        ·(go_simp;done)
        apply Exists.intro
        refine ⟨fun W hW=>?_,?_⟩
        ·have hb0:=bthen bW1 bW1.size hW
         have q0:=run_ldvStit (zAc hxr hg hb0) hxok
         have q1:(ldvI ⟨w.heap.size,0,none⟩).run Tryz.prog W = .ok (.agg NC) W:=by
          have:=run_loadVar_mid (P:=Tryz.prog) W w.heap.size 0 46 NC.toList _ (zAi (hn1.below hW hn1.lt)) Tryz.underlying46 rfl hsI
          rwa [Array.toArray_toList] at this
         have hkeep:=zCb hW (hc2 W hb0)
         go_simp
         first
          | rfl
          | (with_reducible exact hkeep)
        simp only [Act.put,zA,zB,zC])
     | ((with_reducible refine zAh ?_ ?_)
        ·(first | rfl | (go_simp;done))
        simp only [Act.put,zA,zB,zC])
   with_reducible refine wpQuiet_nil ?_
   intro w5 hW5
   by_cases hneg:cmp x<0
   ·have hmp:m<p:=hd.1 hneg
    clear hd
    go_wp2
    go_roundw
    case rel=>exact ⟨m+1,hi,by go_num,rfl,by omega,hhi,hle,hW5⟩
    case measure=>simp [intOf];omega
   ·have hmp : ¬ m<p:=fun h=>hneg (hd.2 h)
    clear hd
    go_wp2
    go_roundw
    case rel=>exact ⟨lo,m,rfl,by go_num,hlo,by omega,by omega,hW5⟩
    case measure=>simp [intOf];omega
  ·obtain rfl:lo=p:=by omega
   obtain rfl:hi=lo:=by omega
   by_cases hlp:hi<l.length
   ·have hli:(hi:Int)<(l.length:Int):=by omega
    obtain ⟨g,o,rfl,hg,hcell⟩:=hat (by omega)
    obtain ⟨x,hx⟩ : ∃ x,l[hi]?=some x:=⟨_,List.getElem?_eq_getElem hlp⟩
    have hxm:=List.mem_of_getElem? hx
    have hxok:=hok x hxm
    have hxr:=hcell hi x hx
    have hc2:=fun W hb=>hcl W x hxm hb
    have hb':Hid (b=decide (cmp x=0)):=by show _=_;rw [hb.out,zD3 hx]
    clear hx hcell hat hb hcl
    go_wp2
    refine zAd (C:=fun W=>Below W1.heap.size W1 W) (by kernel_rfl) (by kernel_rfl) hbel.drew ?_
    repeat
     first
      | ((with_reducible refine zAl ?_ ?_)
         ·(go_simp;done)
         apply Exists.intro
         refine ⟨fun W hW=>?_,?_⟩
         ·have hb0:=bthen bW1 bW1.size hW
          have q0:=run_ldvStit (zAc hxr hg hb0) hxok
          have q1:(ldvI ⟨w.heap.size,0,none⟩).run Tryz.prog W = .ok (.agg NC) W:=by
           have:=run_loadVar_mid (P:=Tryz.prog) W w.heap.size 0 46 NC.toList _ (zAi (hn1.below hW hn1.lt)) Tryz.underlying46 rfl hsI
           rwa [Array.toArray_toList] at this
          have hkeep:=zCb hW (hc2 W hb0)
          go_simp
          first
           | rfl
           | (with_reducible exact hkeep)
         simp only [Act.put,zA,zB,zC])
      | ((with_reducible refine zAh ?_ ?_)
         ·(first | rfl | (go_simp;done))
         simp only [Act.put,zA,zB,zC])
    with_reducible refine wpQuiet_nil ?_
    intro w5 hW5
    go_wp2
    go_ret2
    exact ⟨by rw [hb'.out];rfl,bthen bW1 bW1.size hW5⟩
   ·have hli : ¬ (hi:Int)<(l.length:Int):=by omega
    have hb':Hid (b=false):=by show _=_;rw [hb.out,zEi (by omega)]
    clear hb hat
    go_wp2
    refine zAd (C:=fun W=>Below W1.heap.size W1 W) (by kernel_rfl) (by kernel_rfl) hbel.drew ?_
    repeat
     first
      | ((with_reducible refine zAl ?_ ?_)
         ·(go_simp;done)
         apply Exists.intro
         refine ⟨fun W hW=>?_,?_⟩
         ·go_simp
          first
           | rfl
         simp only [Act.put,zA,zB,zC])
      | ((with_reducible refine zAh ?_ ?_)
         ·(first | rfl | (go_simp;done))
         simp only [Act.put,zA,zB,zC])
    with_reducible refine wpQuiet_nil ?_
    intro w5 hW5
    go_wp2
    go_ret2
    exact ⟨by rw [hb'.out];rfl,bthen bW1 bW1.size hW5⟩
end
end Go.Proofs.YtbhdfaadedlcfaaGreatDoor
namespace Go.Proofs
open Go.Shelf
def Tryz.lays156_ren : Go.Shelf.Ren:=⟨fun | 156=>111 | 165=>135 | 166=>136 | 169=>137 | 240=>153 | 241=>154 | 276=>161 | 277=>162 | n=>n,fun | 31=>182 | 9=>9 | 3=>3 | 4=>4 | 0=>0 | 20=>20 | 72=>206 | 76=>210 | 70=>204 | 37=>23 | 75=>209 | 127=>226 | 164=>235 | 5=>5 | 80=>178 | n=>n,fun | n=>n⟩
theorem Tryz.lays156 : Go.Proofs.Lays.n156 Tryz.prog Tryz.lays156_ren:={
 mixed:=by kernel_rfl
 f156:=Tryz.func111.trans (congrArg some (by kernel_rfl))
 f165:=Tryz.func135.trans (congrArg some (by kernel_rfl))
 f166:=Tryz.func136.trans (congrArg some (by kernel_rfl))
 f169:=Tryz.func137.trans (congrArg some (by kernel_rfl))
 f240:=Tryz.func153.trans (congrArg some (by kernel_rfl))
 f241:=Tryz.func154.trans (congrArg some (by kernel_rfl))
 f276:=Tryz.func161.trans (congrArg some (by kernel_rfl))
 f277:=Tryz.func162.trans (congrArg some (by kernel_rfl))
 t0:=Tryz.underlying0
 a0:=Tryz.isAgg0
 z0:=Tryz.sizeOf0
 v0:=Tryz.zeroValue0
 t3:=Tryz.underlying3
 a3:=Tryz.isAgg3
 z3:=Tryz.sizeOf3
 v3:=Tryz.zeroValue3
 t4:=Tryz.underlying4
 a4:=Tryz.isAgg4
 z4:=Tryz.sizeOf4
 v4:=Tryz.zeroValue4
 t9:=Tryz.underlying9
 a9:=Tryz.isAgg9
 z9:=Tryz.sizeOf9
 v9:=Tryz.zeroValue9
 t20:=Tryz.underlying20
 a20:=Tryz.isAgg20
 z20:=Tryz.sizeOf20
 v20:=Tryz.zeroValue20
 t31:=Tryz.underlying182
 a31:=Tryz.isAgg182
 z31:=Tryz.sizeOf182
 v31:=Tryz.zeroValue182
 t37:=Tryz.underlying23
 a37:=Tryz.isAgg23
 z37:=Tryz.sizeOf23
 v37:=Tryz.zeroValue23
 t70:=Tryz.underlying204
 a70:=Tryz.isAgg204
 z70:=Tryz.sizeOf204
 v70:=Tryz.zeroValue204
 t72:=Tryz.underlying206
 a72:=Tryz.isAgg206
 z72:=Tryz.sizeOf206
 v72:=Tryz.zeroValue206
 t75:=Tryz.underlying209
 a75:=Tryz.isAgg209
 z75:=Tryz.sizeOf209
 v75:=Tryz.zeroValue209
 t76:=Tryz.underlying210
 a76:=Tryz.isAgg210
 z76:=Tryz.sizeOf210
 v76:=Tryz.zeroValue210
 t127:=Tryz.underlying226
 a127:=Tryz.isAgg226
 z127:=Tryz.sizeOf226
 v127:=Tryz.zeroValue226
 t164:=Tryz.underlying235
 a164:=Tryz.isAgg235
 z164:=Tryz.sizeOf235
 v164:=Tryz.zeroValue235 }
theorem Tryz.Builder_Extra_156 : Builder.Extra Tryz.prog Tryz.lays156_ren:={
 sizeBuilder:=by kernel_rfl
 liesBuilder:=by kernel_rfl
 t5:=Tryz.underlying5
 a5:=Tryz.isAgg5
 z5:=Tryz.sizeOf5
 v5:=Tryz.zeroValue5
 infoByte:=by kernel_rfl
 cellsByte:=by kernel_rfl
 sizeByte:=by kernel_rfl
 neB5:=by decide }
open Go.RowKit in
theorem Tryz.strings_Join_none (a:Option Addr) (c:Nat) (sep:ByteArray) (w:World) :
 Calls Tryz.prog 111 #[.slice a 0 c, .string sep] w fun e w'=>e = .returned (.string ⟨#[]⟩)∧w'=w:=Any.strings_Join_none Tryz.lays156 Tryz.Builder_Extra_156 a c sep w
open Go.RowKit in
theorem Tryz.strings_Join (bk o c:Nat) (xs:List ByteArray) (sep:ByteArray) (w:World) (hcells : ∀ (j:Nat) x,xs[j]?=some x→w.cell? ⟨bk,o+j,none⟩=some (.string x)) (hbk:bk<w.heap.size) (hN:xs.length≤140737488355328) (hcap:xs.length≤c) (hlen:(Lib.join (xs.map (·.data.toList)) sep.data.toList).length≤140737488355328) :
 Calls Tryz.prog 111 #[.slice (some ⟨bk,o,none⟩) xs.length c, .string sep] w fun e w'=>e = .returned (.string ⟨(Lib.join (xs.map (·.data.toList)) sep.data.toList).toArray⟩)∧Below w.heap.size w w':=Any.strings_Join Tryz.lays156 Tryz.Builder_Extra_156 bk o c xs sep w hcells hbk hN hcap hlen
def Tryz.lays125_ren : Go.Shelf.Ren:=⟨fun | 125=>100 | 128=>132 | 129=>133 | n=>n,fun | 46=>164 | 3=>3 | 51=>57 | 53=>167 | 4=>4 | 5=>5 | 9=>9 | n=>n,fun | n=>n⟩
theorem Tryz.lays125 : Go.Proofs.Lays.n125 Tryz.prog Tryz.lays125_ren:={
 mixed:=by kernel_rfl
 f125:=Tryz.func100.trans (congrArg some (by kernel_rfl))
 f128:=Tryz.func132.trans (congrArg some (by kernel_rfl))
 f129:=Tryz.func133.trans (congrArg some (by kernel_rfl))
 t3:=Tryz.underlying3
 a3:=Tryz.isAgg3
 z3:=Tryz.sizeOf3
 v3:=Tryz.zeroValue3
 t4:=Tryz.underlying4
 a4:=Tryz.isAgg4
 z4:=Tryz.sizeOf4
 v4:=Tryz.zeroValue4
 t5:=Tryz.underlying5
 a5:=Tryz.isAgg5
 z5:=Tryz.sizeOf5
 v5:=Tryz.zeroValue5
 t9:=Tryz.underlying9
 a9:=Tryz.isAgg9
 z9:=Tryz.sizeOf9
 v9:=Tryz.zeroValue9
 t46:=Tryz.underlying164
 a46:=Tryz.isAgg164
 z46:=Tryz.sizeOf164
 v46:=Tryz.zeroValue164
 t51:=Tryz.underlying57
 a51:=Tryz.isAgg57
 z51:=Tryz.sizeOf57
 v51:=Tryz.zeroValue57
 t53:=Tryz.underlying167
 a53:=Tryz.isAgg167
 z53:=Tryz.sizeOf167
 v53:=Tryz.zeroValue167 }
theorem Tryz.bits_Len (x:Int) (w:World) (h0:0≤x) (h1:x≤18446744073709551615) :
 Calls Tryz.prog 100 #[.int .u64 x] w fun e w'=>e = .returned (.int .i64 (Lib.bitLen x.toNat))∧w'=w:=Any.bits_Len Tryz.lays125 x w h0 h1
def Tryz.lays137_ren : Go.Shelf.Ren:=⟨fun | 137=>134 | 217=>152 | 266=>160 | n=>n,fun | 9=>9 | 5=>5 | 3=>3 | n=>n,fun | n=>n⟩
theorem Tryz.lays137 : Go.Proofs.Lays.n137 Tryz.prog Tryz.lays137_ren:={
 mixed:=by kernel_rfl
 f137:=Tryz.func134.trans (congrArg some (by kernel_rfl))
 f217:=Tryz.func152.trans (congrArg some (by kernel_rfl))
 f266:=Tryz.func160.trans (congrArg some (by kernel_rfl))
 t3:=Tryz.underlying3
 a3:=Tryz.isAgg3
 z3:=Tryz.sizeOf3
 v3:=Tryz.zeroValue3
 t5:=Tryz.underlying5
 a5:=Tryz.isAgg5
 z5:=Tryz.sizeOf5
 v5:=Tryz.zeroValue5
 t9:=Tryz.underlying9
 a9:=Tryz.isAgg9
 z9:=Tryz.sizeOf9
 v9:=Tryz.zeroValue9 }
open Go.RowKit in
theorem Tryz.strings_IndexByte (s:ByteArray) (c:Int) (w:World) :
 Calls Tryz.prog 134 #[.string s, .int .u8 c] w fun e w'=>e = .returned (.int .i64 (Lib.indexByte s.data.toList c.toNat.toUInt8))∧w'=w:=Any.strings_IndexByte Tryz.lays137 s c w
def Tryz.lays105_ren : Go.Shelf.Ren:=⟨fun | 105=>112 | 212=>138 | 99=>139 | 165=>135 | 166=>136 | 170=>140 | 169=>137 | 263=>155 | 264=>156 | 206=>157 | 240=>153 | 241=>154 | 276=>161 | 277=>162 | n=>n,fun | 9=>9 | 3=>3 | 4=>4 | 20=>20 | 0=>0 | 46=>164 | 109=>212 | 5=>5 | 72=>206 | 76=>210 | 51=>57 | 146=>227 | 53=>167 | 148=>229 | 70=>204 | 37=>23 | 75=>209 | 127=>226 | 164=>235 | 80=>178 | n=>n,fun | n=>n⟩
theorem Tryz.lays105 : Go.Proofs.Lays.n105 Tryz.prog Tryz.lays105_ren:={
 mixed:=by kernel_rfl
 f99:=Tryz.func139.trans (congrArg some (by kernel_rfl))
 f105:=Tryz.func112.trans (congrArg some (by kernel_rfl))
 f165:=Tryz.func135.trans (congrArg some (by kernel_rfl))
 f166:=Tryz.func136.trans (congrArg some (by kernel_rfl))
 f169:=Tryz.func137.trans (congrArg some (by kernel_rfl))
 f170:=Tryz.func140.trans (congrArg some (by kernel_rfl))
 f206:=Tryz.func157.trans (congrArg some (by kernel_rfl))
 f212:=Tryz.func138.trans (congrArg some (by kernel_rfl))
 f240:=Tryz.func153.trans (congrArg some (by kernel_rfl))
 f241:=Tryz.func154.trans (congrArg some (by kernel_rfl))
 f263:=Tryz.func155.trans (congrArg some (by kernel_rfl))
 f264:=Tryz.func156.trans (congrArg some (by kernel_rfl))
 f276:=Tryz.func161.trans (congrArg some (by kernel_rfl))
 f277:=Tryz.func162.trans (congrArg some (by kernel_rfl))
 t0:=Tryz.underlying0
 a0:=Tryz.isAgg0
 z0:=Tryz.sizeOf0
 v0:=Tryz.zeroValue0
 t3:=Tryz.underlying3
 a3:=Tryz.isAgg3
 z3:=Tryz.sizeOf3
 v3:=Tryz.zeroValue3
 t4:=Tryz.underlying4
 a4:=Tryz.isAgg4
 z4:=Tryz.sizeOf4
 v4:=Tryz.zeroValue4
 t5:=Tryz.underlying5
 a5:=Tryz.isAgg5
 z5:=Tryz.sizeOf5
 v5:=Tryz.zeroValue5
 t9:=Tryz.underlying9
 a9:=Tryz.isAgg9
 z9:=Tryz.sizeOf9
 v9:=Tryz.zeroValue9
 t20:=Tryz.underlying20
 a20:=Tryz.isAgg20
 z20:=Tryz.sizeOf20
 v20:=Tryz.zeroValue20
 t37:=Tryz.underlying23
 a37:=Tryz.isAgg23
 z37:=Tryz.sizeOf23
 v37:=Tryz.zeroValue23
 t46:=Tryz.underlying164
 a46:=Tryz.isAgg164
 z46:=Tryz.sizeOf164
 v46:=Tryz.zeroValue164
 t51:=Tryz.underlying57
 a51:=Tryz.isAgg57
 z51:=Tryz.sizeOf57
 v51:=Tryz.zeroValue57
 t53:=Tryz.underlying167
 a53:=Tryz.isAgg167
 z53:=Tryz.sizeOf167
 v53:=Tryz.zeroValue167
 t70:=Tryz.underlying204
 a70:=Tryz.isAgg204
 z70:=Tryz.sizeOf204
 v70:=Tryz.zeroValue204
 t72:=Tryz.underlying206
 a72:=Tryz.isAgg206
 z72:=Tryz.sizeOf206
 v72:=Tryz.zeroValue206
 t75:=Tryz.underlying209
 a75:=Tryz.isAgg209
 z75:=Tryz.sizeOf209
 v75:=Tryz.zeroValue209
 t76:=Tryz.underlying210
 a76:=Tryz.isAgg210
 z76:=Tryz.sizeOf210
 v76:=Tryz.zeroValue210
 t109:=Tryz.underlying212
 a109:=Tryz.isAgg212
 z109:=Tryz.sizeOf212
 v109:=Tryz.zeroValue212
 t127:=Tryz.underlying226
 a127:=Tryz.isAgg226
 z127:=Tryz.sizeOf226
 v127:=Tryz.zeroValue226
 t146:=Tryz.underlying227
 a146:=Tryz.isAgg227
 z146:=Tryz.sizeOf227
 v146:=Tryz.zeroValue227
 t148:=Tryz.underlying229
 a148:=Tryz.isAgg229
 z148:=Tryz.sizeOf229
 v148:=Tryz.zeroValue229
 t164:=Tryz.underlying235
 a164:=Tryz.isAgg235
 z164:=Tryz.sizeOf235
 v164:=Tryz.zeroValue235 }
theorem Tryz.Builder_Extra_105 : Builder.Extra Tryz.prog Tryz.lays105_ren:={
 sizeBuilder:=by kernel_rfl
 liesBuilder:=by kernel_rfl
 t5:=Tryz.underlying5
 a5:=Tryz.isAgg5
 z5:=Tryz.sizeOf5
 v5:=Tryz.zeroValue5
 infoByte:=by kernel_rfl
 cellsByte:=by kernel_rfl
 sizeByte:=by kernel_rfl
 neB5:=by decide }
open Go.RowKit Go.Lib in
theorem Tryz.strings_Repeat (s:ByteArray) (c:Nat) (w:World) (hc:c≤9223372036854775807) (hlen:s.size*c≤140737488355328) :
 Calls Tryz.prog 112 #[.string s, .int .i64 c] w fun e w'=>e = .returned (.string ⟨(Lib.repeatL s.data.toList c).toArray⟩)∧Below w.heap.size w w':=Any.strings_Repeat Tryz.lays105 Tryz.Builder_Extra_105 s c w hc hlen
end Go.Proofs
