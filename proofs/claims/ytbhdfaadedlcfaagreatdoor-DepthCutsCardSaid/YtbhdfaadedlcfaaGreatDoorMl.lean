/- Texts of this claim, laid together: GraA, GrP, LinkW, LinkO, GraB, GraM, HisF, HisB, GraR, GraD, GraE, GraF, HpP, GrW, Wlk, DptP, DptE, DptCl. -/
import Derived.Test.YtbhdfaadedlcfaaGreatDoorMk
import Derived.Deep.CutBlock
import Derived.Great.FillDense
import Derived.Below
import Derived.Lib.SliceRun
namespace Go.Proofs.YtbhdfaadedlcfaaGreatDoor
open Go.RowKit
section
attribute [local go_sem ↓] ldvI_eq
theorem idC_arr (x:Txt):(idC x).toArray=u8s x:=by simp [idC]
set_option maxRecDepth 100000 in
set_option maxHeartbeats 1000000 in
theorem zEO (a b:Txt) (ha:a.length=32) (hb:b.length=32) (w:World) :
 Calls Tryz.prog 60 #[.agg (u8s a), .agg (u8s b)] w fun e w'=>e = .returned (.int .i64 (Lib.compareBytes a b))∧Below w.heap.size w w':=by
 obtain ⟨W1,hW1⟩ : ∃ W1,w.alloc (.cells (u8s a) 46)=W1:=⟨_,rfl⟩
 have x1:Blk W1 w.heap.size 46 (u8s a):=by rw [←hW1];exact Blk.new _ _ _
 have b1:Below w.heap.size w W1:=by rw [←hW1];exact (Below.refl _ _).alloc (Nat.le_refl _) _
 obtain ⟨W2,hW2⟩ : ∃ W2,W1.alloc (.cells (u8s b) 46)=W2:=⟨_,rfl⟩
 have bb2:Below W1.heap.size W1 W2:=by rw [←hW2];exact (Below.refl _ _).alloc (Nat.le_refl _) _
 have x2:=x1.below bb2 x1.lt
 have n2:Blk W2 W1.heap.size 46 (u8s b):=by rw [←hW2];exact Blk.new _ _ _
 have b2:=bthen b1 b1.size bb2
 have hc:=fun (W:World) (hW:Below W2.heap.size W2 W)=>zCW a b ha hb w.heap.size 0 W1.heap.size 0 W (zAc (zAi x2) x2.lt hW) (zAc (zAi n2) n2.lt hW)
 obtain ⟨NC,hNC⟩ : ∃ NC,u8s b=NC:=⟨_,rfl⟩
 obtain ⟨XC,hXC⟩ : ∃ XC,u8s a=XC:=⟨_,rfl⟩
 rw [hXC] at hW1 ⊢
 rw [hNC] at hW2 ⊢
 clear hNC hXC x1 x2 n2 bb2
 go_enter Tryz.func60,Tryz.ntmps60
 go_wp2
 refine zAd (C:=fun W=>Below W2.heap.size W2 W) (by kernel_rfl) (by kernel_rfl) (Below.refl _ _).drew ?_
 repeat
  first
   | ((with_reducible refine zAl ?_ ?_)
      ·(go_simp;done)
      apply Exists.intro
      refine ⟨fun W hW=>?_,?_⟩
      ·first
        | (have hkeep:=(hc W hW).mono fun e w' (h:e = .returned (.int .i64 (Lib.compareBytes a b))∧w'=W)=>(⟨h.1,h.2.symm▸hW⟩:e = .returned (.int .i64 (Lib.compareBytes a b))∧Below W2.heap.size W2 w')
           go_simp
           first
            | rfl
            | (with_reducible exact hkeep))
      simp only [Act.put,zA,zB,zC])
   | ((with_reducible refine zAh ?_ ?_)
      ·(first | rfl | (go_simp;done))
      simp only [Act.put,zA,zB,zC])
 with_reducible refine wpQuiet_nil ?_
 intro w5 hW5
 go_wp2
 go_ret
 exact ⟨rfl,bthen b2 b2.size hW5⟩
theorem graCompare_func (a:Array Value) (W:World):(callFunc 60 a).run Tryz.prog W = .ok (.enter 60 a) W:=by kernel_rfl
abbrev idK (x:Txt):Txt:=x
theorem inL_hasK (l:List Txt) (n:Txt):inL l n=hasK idK l n:=by
 unfold inL hasK
 congr 1
 funext x
 by_cases h:x=n
 ·simp [h]
 ·rw [decide_eq_false h]
  symm
  exact beq_eq_false_iff_ne.2 h
theorem insU_in {l:List Txt} {n:Txt} (h:RiseL l) (hi:inL l n=true):insU l n=l:=by
 obtain ⟨r1,r2⟩:=zDx h n
 refine zCY r1 h fun x=>?_
 rw [r2]
 exact ⟨fun hx=>hx.elim id fun e=>e▸inL_iff.1 hi, .inl⟩
theorem insU_put {l:List Txt} {n:Txt} (h:RiseL l) (hi:inL l n=false):l.take (posK idK l n)++[n]++l.drop (posK idK l n)=insU l n:=by
 obtain ⟨r1,r2⟩:=zDx h n
 have hs:SortedK idK (putK idK l n):=zEh h
 have e:putK idK l n=l.take (posK idK l n)++[n]++l.drop (posK idK l n):=by
  unfold putK
  rw [←inL_hasK,hi]
  rfl
 rw [e] at hs
 refine zCY hs r1 fun x=>?_
 have hm:x∈l↔x∈l.take (posK idK l n)∨x∈l.drop (posK idK l n):=by rw [←List.mem_append,List.take_append_drop]
 rw [r2,hm]
 simp only [List.mem_append,List.mem_singleton]
 constructor
 ·rintro ((h | h) | h)
  ·exact .inl (.inl h)
  ·exact .inr h
  ·exact .inl (.inr h)
 ·rintro ((h | h) | h)
  ·exact .inl (.inl h)
  ·exact .inr h
  ·exact .inl (.inr h)
theorem setBs_calls (l:List Txt) (hok : ∀ x∈l,x.length=32) (hr:RiseL l) (hbig:l.length≤1000000) (v:Value) (n:Txt) (hn:n.length=32) (w:World) (hv:Ids w v l) :
 Calls Tryz.prog 59 #[v, .agg (u8s n), .func (.func 60) #[] #[]] w fun e w'=>
  e = .returned (.tuple #[.int .i64 (posK idK l n), .bool (inL l n)])∧Below w.heap.size w w':=by
 have h:=bsfSet_calls l hok hbig v w hv 60 graCompare_func n hn (fun x=>Lib.compareBytes x n) (fun W x hx _=>by rw [idC_arr];exact zEO x n (hok x hx) hn W) (posK idK l n) posK_le (fun i x hx=>by
  have hr':SortedK idK l:=hr
  rw [←decide_eq_true_iff (p:=Lib.compareBytes x n<0),cmp_neg,show Op.bytesLess x n=_ from zDA hr' hx,decide_eq_true_iff])
 have hr':SortedK idK l:=hr
 have e:hitAt (fun x=>Lib.compareBytes x n) l (posK idK l n)=hasK idK l n:=(hasK_hit hr').symm
 rw [e,←inL_hasK] at h
 exact h
set_option maxRecDepth 100000 in
set_option maxHeartbeats 1000000 in
theorem setHas_calls (l:List Txt) (hok : ∀ x∈l,x.length=32) (hr:RiseL l) (hbig:l.length≤1000000) (v:Value) (n:Txt) (hn:n.length=32) (w:World) (hv:Ids w v l) :
 Calls Tryz.prog 38 #[v, .agg (u8s n)] w fun e w'=>e = .returned (.bool (inL l n))∧Below w.heap.size w w':=by
 obtain ⟨W1,hW1⟩ : ∃ W1,w.alloc (.cells (u8s n) 46)=W1:=⟨_,rfl⟩
 have n1:Blk W1 w.heap.size 46 (u8s n):=by rw [←hW1];exact Blk.new _ _ _
 have b1:Below w.heap.size w W1:=by rw [←hW1];exact (Below.refl _ _).alloc (Nat.le_refl _) _
 have lnn:=zAb (zAi n1) hn
 have hc:=Lib.hid (setBs_calls l hok hr hbig v n hn W1 (hv.below b1))
 obtain ⟨A,cap,rfl,_⟩:=hv
 generalize posK idK l n=P at *
 generalize inL l n=b at *
 clear hok n1 hr
 go_enter Tryz.func38,Tryz.ntmps38
 go_wp2_with (first
  | ((with_reducible refine hc.out.mono ?_);rintro e w2 ⟨rfl,hb2⟩))
 go_ret
 exact ⟨rfl,bthen b1 b1.size hb2⟩
structure SetAt (w:World) (base p:Nat) (v:Value) (l:List Txt):Prop where
 blk:Blk w p 87 #[v]
 own:OwnIds w base v l
 ok : ∀ x∈l,x.length=32
 rise:RiseL l
section
variable {w w':World} {base p:Nat} {v:Value} {l:List Txt}
theorem SetAt.c0 (h:SetAt w base p v l):w.cell? ⟨p,0,none⟩=some v:=by rw [h.blk.cell];rfl
theorem SetAt.lt (h:SetAt w base p v l):p<w.heap.size:=h.blk.lt
theorem SetAt.ne (h:SetAt w base p v l):v.ownBlock≠some p:=fun e=>zAs h.own h.blk (by decide) e.symm
theorem SetAt.below (h:SetAt w base p v l) (hb:Below w.heap.size w w'):SetAt w' base p v l:=⟨h.blk.below hb h.blk.lt,zAf h.own hb,h.ok,h.rise⟩
theorem SetAt.far {S:List (Option Nat)} (h:SetAt w base p v l) (hf:Far S w w') (h1:some p ∉ S) (h2 : ∀ k,v.ownBlock=some k→some k ∉ S):SetAt w' base p v l:=⟨hf.blk h.blk h1,hf.own h.own h2,h.ok,h.rise⟩
theorem SetAt.drew (h:SetAt w base p v l):SetAt w.drew base p v l:=⟨h.blk,h.own,h.ok,h.rise⟩
theorem SetAt.ids (h:SetAt w base p v l):Ids w v l:=SliceAt.of_own (fun x hx=>idC_len (h.ok x hx)) h.own
end
def insR (B N n:Nat) (xs:List Value) (vl v:Value) (F:Foot) (w:World):Prop:=ownR B 46 32 n xs v F w∧(v.ownBlock=vl.ownBlock ∨ ∀ k,v.ownBlock=some k→N≤k)
theorem insR_stab (B N n:Nat) (xs:List Value) (vl v:Value):Stab (insR B N n xs vl v):=fun F F' w w' hf ha ⟨h1,h2⟩=>⟨zCQ _ _ _ _ _ _ F F' w w' hf ha h1,h2⟩
structure SetIn (w:World) (base p o:Nat) (T:TypeId) (cs:Array Value) (v:Value) (l:List Txt):Prop where
 blk:Blk w p T cs
 at_:cs[o]?=some v
 own:OwnIds w base v l
 ok : ∀ x∈l,x.length=32
 rise:RiseL l
section
variable {w w':World} {base p o:Nat} {T:TypeId} {cs:Array Value} {v:Value} {l:List Txt}
theorem SetIn.c0 (h:SetIn w base p o T cs v l):w.cell? ⟨p,o,none⟩=some v:=by rw [h.blk.cell];exact h.at_
theorem SetIn.lt (h:SetIn w base p o T cs v l):p<w.heap.size:=h.blk.lt
theorem SetIn.below (h:SetIn w base p o T cs v l) (hb:Below w.heap.size w w'):SetIn w' base p o T cs v l:=⟨h.blk.below hb h.blk.lt,h.at_,zAf h.own hb,h.ok,h.rise⟩
theorem SetIn.ids (h:SetIn w base p o T cs v l):Ids w v l:=SliceAt.of_own (fun x hx=>idC_len (h.ok x hx)) h.own
theorem SetIn.lo (h:SetIn w base p o T cs v l):o<cs.size:=(Array.getElem?_eq_some_iff.1 h.at_).1
theorem SetIn.same (h:SetIn w base p o T cs v l):cs.setIfInBounds o v=cs:=by
 obtain ⟨h1,h2⟩:=Array.getElem?_eq_some_iff.1 h.at_
 rw [←h2]
 exact Array.ext (by simp) fun i _ _=>by
  rw [Array.getElem_setIfInBounds]
  split
  ·rename_i e;subst e;rfl
  ·rfl
end
set_option maxRecDepth 100000 in
set_option maxHeartbeats 4000000 in
theorem zCf {w:World} {base p o:Nat} {T:TypeId} {cs:Array Value} {v:Value} {l:List Txt} (h:SetIn w base p o T cs v l) (hT:46≠T) (hB:base≤w.heap.size) (hbig:l.length≤900000) (n:Txt) (hn:n.length=32) :
 Calls Tryz.prog 56 #[.pointer (some ⟨p,o,none⟩), .agg (u8s n)] w fun e w'=>e = .returned (.bool (!inL l n)) ∧ ∃ v',SetIn w' base p o T (cs.setIfInBounds o v') v' (insU l n)∧Far [some p,v.ownBlock] w w'∧Newer w v v':=by
 obtain ⟨W1,hW1⟩ : ∃ W1,w.alloc (.cells (u8s n) 46)=W1:=⟨_,rfl⟩
 have n1:Blk W1 w.heap.size 46 (u8s n):=by rw [←hW1];exact Blk.new _ _ _
 have b1:Below w.heap.size w W1:=by rw [←hW1];exact (Below.refl _ _).alloc (Nat.le_refl _) _
 have lnn:=fun W (hW:Below W1.heap.size W1 W)=>zAb (zAi (n1.below hW n1.lt)) hn
 have hc:=fun W (hW:Below W1.heap.size W1 W)=>Lib.hid (setBs_calls l h.ok h.rise (by omega) v n hn W (h.ids.below (bthen b1 b1.size hW)))
 have hc0:=fun W (hW:Below W1.heap.size W1 W)=>(h.below (bthen b1 b1.size hW)).c0
 have hpl:=h.lt
 have hsame:=h.same
 have hlo:=h.lo
 have hnew:inL l n=false→Hid (l.take (posK idK l n)++[n]++l.drop (posK idK l n)=insU l n):=fun e=>Lib.hid (insU_put h.rise e)
 have hold:inL l n=true→Hid (insU l n=l):=fun e=>Lib.hid (insU_in h.rise e)
 have hPle:posK idK l n≤l.length:=posK_le
 obtain ⟨A,cv,rfl⟩:=zAm h.own
 have H:=Lib.hid h
 clear h
 generalize posK idK l n=P at *
 obtain ⟨b,hb⟩ : ∃ b,inL l n=b:=⟨_,rfl⟩
 rw [hb] at hnew hold hc ⊢
 clear hb
 go_enter Tryz.func56,Tryz.ntmps56
 go_wp2
 refine zAd (C:=fun W=>Below W1.heap.size W1 W) (by kernel_rfl) (by kernel_rfl) (Below.refl _ _).drew ?_
 repeat
  first
   | ((with_reducible refine zAl ?_ ?_)
      ·(go_simp;done)
      apply Exists.intro
      refine ⟨fun W hW=>?_,?_⟩
      ·first
        | (have q0:=lnn W hW
           have q1:=hc0 W hW
           have q2:=zBL hW (hc W hW).out
           go_simp
           first
            | rfl
            | (with_reducible exact q2))
      simp only [Act.put,zA,zB,zC])
   | ((with_reducible refine zAh ?_ ?_)
      ·(first | rfl | (go_simp;done))
      simp only [Act.put,zA,zB,zC])
 with_reducible refine wpQuiet_nil ?_
 intro w5 hW5
 have b5:=bthen b1 b1.size hW5
 cases b with
 | true=>
   have he:=hold rfl
   clear hc hc0 lnn hnew hold hlo
   go_wp2
   go_ret
   exact ⟨rfl,_,by rw [he.out,hsame];exact H.out.below b5,Far.of_below b5,Newer.refl _ _⟩
 | false=>
   have he:=hnew rfl
   have H5:=Lib.hid (H.out.below b5)
   have lt5:=Nat.lt_of_lt_of_le n1.lt hW5.size
   have n5:=n1.below hW5 n1.lt
   have hlv : ∀ q,(Value.slice A l.length cv).ownBlock=some q→q<w.heap.size:=fun q hq=>(World.ownsRow.lt H.out.own q hq).2
   have hB5:base≤w5.heap.size:=Nat.le_trans hB b5.size
   have hpre:=preOk2 (i:=7) (j:=9) H5.out.own H5.out.blk hT
   have hbn:some w.heap.size ∉ rowsOfP [(7,(Value.slice A l.length cv).ownBlock,fun w=>World.ownsRow w base 46 32 (.slice A l.length cv) l.length (rowsOf idC l)),(9,some p,fun w=>Blk w p T cs)]:=fun hm=>by
    simp only [rowsOfP,List.map_cons,List.map_nil,List.mem_cons,List.not_mem_nil,or_false] at hm
    rcases hm with h1 | h1
    ·have:=hlv _ h1.symm;omega
    ·injection h1 with h1;omega
   clear hc hc0 lnn hnew hold hpl hsame
   go_upto_region 3 with (fail)
   refine zBA 10 [(7,(Value.slice A l.length cv).ownBlock,fun w=>World.ownsRow w base 46 32 (.slice A l.length cv) l.length (rowsOf idC l)),(9,some p,fun w=>Blk w p T cs)] hpre (by kernel_rfl) (by kernel_rfl) (by kernel_rfl) (by kernel_rfl) ?_
   simp only [exSp]
   iterate 10 apply Exists.intro
   repeat
    first
     | ((with_reducible apply lx_ex)
        ·(go_simp;done)
        apply Exists.intro
        apply And.intro
        ·apply Eq.refl
        apply And.intro
        ·intro W hF hD
         first
          | (have q1:(ldvI ⟨w.heap.size,0,none⟩).run Tryz.prog W = .ok (.agg (u8s n)) W:=zAb (zAi ((zBF hF).blk n5 hbn)) hn
             have q2:W.cell? ⟨p,o,none⟩=some (.slice A l.length cv):=by rw [(hD.was 1 rfl (by kernel_rfl)).cell];exact H.out.at_
             go_simp
             rfl)
          | (have q1:(ldvI ⟨w.heap.size,0,none⟩).run Tryz.prog W = .ok (.agg (u8s n)) W:=zAb (zAi ((zBF hF).blk n5 hbn)) hn
             go_simp
             rfl)
        simp only [Act.put,zA,zB,zC])
     | ((with_reducible apply lx_pass)
        ·(first | rfl | (go_simp;done))
        ·apply Eq.refl
        simp only [Act.put,zA,zB,zC])
     | (first | (with_reducible apply zA1) | (with_reducible apply zAK)
        ·apply Eq.refl
        apply Exists.intro
        apply And.intro
        ·(go_simp;rfl)
        simp only [Act.put,zA,zB,zC])
     | ((with_reducible apply lx_slice1N Tryz.idsTy w5.heap.size (show w5.heap.size≤w5.drew.heap.size from Nat.le_refl _) (fun cs=>cs=u8s n) (by omega))
        ·apply Eq.refl
        apply Exists.intro
        apply And.intro
        ·(go_simp;rfl)
        refine ⟨fun W hF hD=>?_,?_⟩
        ·exact ⟨u8s n,rfl,by rw [zAj,hn],rfl⟩
        intro v
        simp only [Act.put,zA,zB,zC])
     | ((with_reducible refine lx_wr (Value.slice A l.length cv).ownBlock (fun w=>World.ownsRow w base 46 32 (.slice A l.length cv) l.length (rowsOf idC l)) (fun _=>insR base w5.heap.size (l.length+1) (rowsOf idC (insU l n)) (.slice A l.length cv)) rfl ?_ ?_ (fun _=>insR_stab _ _ _ _ _) ?_ ?_)
        ·exact List.Mem.head _
        ·(go_simp;done)
        ·intro W hF hD hown
         obtain ⟨F,g9,cs,rfl,hF9,hk9,rfl,hg9⟩:=hD.at 0 rfl (by kernel_rfl)
         have hins:=insertSet_calls l H.out.ok (by omega) (.slice A l.length cv) W base P g9 n hn (Nat.le_trans hB5 hF.size) hown hPle (by rw [idC_arr];exact hk9) (fun e=>by have:=hlv _ e;have:=b5.size;omega)
         unfold doesAt Oper.wp execOp
         go_simp
         go_at_call 90
         refine hins.mono ?_
         rintro e w' ⟨v',rfl,ho,hg,hnw⟩
         refine ⟨hg,fun F' _ hF2 hF3=>⟨⟨?_,fun k hk=>?_⟩,?_⟩⟩
         ·rw [he.out] at ho
          have hl2:(insU l n).length=l.length+1:=by rw [←he.out];simp;omega
          rw [←hl2]
          exact ho
         ·rcases hnw with h1 | h1
          ·exact hF2 k (h1.symm.trans hk).symm
          ·exact hF3 k (h1 k hk) (World.ownsRow.lt ho k hk).2
         ·rcases hnw with h1 | h1
          ·exact .inl h1
          ·exact .inr fun k hk=>Nat.le_trans hF.size (h1 k hk)
        intro v
        simp only [Act.put,zA,zB,zC])
     | ((with_reducible apply lx_put p o cs T)
        ·exact (fun _=>by kernel_rfl)
        ·exact hlo
        ·first | exact List.Mem.head _ | exact List.Mem.tail _ (List.Mem.head _) | exact List.Mem.tail _ (List.Mem.tail _ (List.Mem.head _)) | exact List.Mem.tail _ (List.Mem.tail _ (List.Mem.tail _ (List.Mem.head _)))
        ·apply Eq.refl
        apply Exists.intro
        apply Exists.intro
        apply And.intro
        ·(go_simp;rfl)
        apply And.intro
        ·(go_simp;rfl)
        refine ⟨rfl,fun W hF hD=>?_,?_⟩
        ·obtain ⟨F,hv9,_⟩:=hD.at 0 rfl (by kernel_rfl)
         obtain ⟨A6,c6,rfl⟩:=zAm hv9.1
         exact ⟨_,_,_,rfl⟩)
   refine lxP_nil ?_ fun w6 hF6 hD6=>?_
   ·exact List.nodup_nil
   have hf6:Far [some p,(Value.slice A l.length cv).ownBlock] w5 w6:=hF6.mono fun k hk=>by
    simp only [rowsOfP,List.map_cons,List.map_nil,List.mem_cons,List.not_mem_nil,or_false] at hk ⊢
    exact hk.symm
   obtain ⟨F1,hF1,hb6⟩:=hD6 _ (.head _)
   obtain ⟨F2,hv6,hnw6⟩:=hD6 _ (.tail _ (.head _))
   have ho6:=hv6.1
   have hl6:(insU l n).length=l.length+1:=by rw [←he.out];simp;omega
   have hown6:OwnIds w6 base v (insU l n):=by
    unfold OwnIds
    rw [hl6]
    exact ho6
   have hfin:SetIn w6 base p o T (cs.setIfInBounds o v) v (insU l n):=⟨hb6,by rw [Array.getElem?_setIfInBounds];simp [hlo],hown6,fun x hx=>(insU_mem hx).elim (H.out.ok x) fun e=>by rw [e];exact hn,(zDx H.out.rise n).1⟩
   have hfar:=(Far.of_below (S:=[some p,(Value.slice A l.length cv).ownBlock]) b5).trans hf6
   have hnw:Newer w (.slice A l.length cv) v:=hnw6.elim .inl fun h1 => .inr fun k hk=>Nat.le_trans b5.size (h1 k hk)
   clear hv6 ho6 hown6 hF1 hD6 hF6 hpre hbn
   go_wp2
   go_ret
   exact ⟨rfl,v,hfin,hfar,hnw⟩
theorem setAdd_calls {w:World} {base p:Nat} {v:Value} {l:List Txt} (h:SetAt w base p v l) (hB:base≤w.heap.size) (hbig:l.length≤900000) (n:Txt) (hn:n.length=32) :
 Calls Tryz.prog 56 #[.pointer (some ⟨p,0,none⟩), .agg (u8s n)] w fun e w'=>e = .returned (.bool (!inL l n)) ∧ ∃ v',SetAt w' base p v' (insU l n)∧Far [some p,v.ownBlock] w w'∧Newer w v v':=
 (zCf (cs := #[v]) (o:=0) ⟨h.blk,rfl,h.own,h.ok,h.rise⟩ (by decide) hB hbig n hn).mono fun e w' ⟨h1,v',h2,h3,h4⟩=>⟨h1,v',⟨h2.blk,h2.own,h2.ok,h2.rise⟩,h3,h4⟩
end
section
def objS (S:List StL) (n:Txt):Option ObjL:=match getS S n with
 | some x=>decO x.text
 | none=>none
def cutO (cut:List Txt) (n:Txt) (o:ObjL):ObjL:=if o.kind=3∧inL cut n=true then { o with pars:=[] } else o
def nextO (cut:List Txt) (n:Txt) (o:ObjL):List Txt:=(linksL (cutO cut n o)).map LinkL.id
def nextS (S:List StL) (cut:List Txt) (n:Txt):List Txt:=match objS S n with
 | some o=>nextO cut n o
 | none=>[]
def isS (S:List StL) (n:Txt):Bool:=(objS S n).isSome
def Rch (S:List StL) (cut ini:List Txt) (x:Txt):Prop := ∀ P:Txt→Prop,(∀ y∈ini,P y)→(∀ y z,P y→z∈nextS S cut y→P z)→P x
section
variable {S:List StL} {cut ini:List Txt}
theorem Rch.base {x:Txt} (h:x∈ini):Rch S cut ini x:=fun _ h1 _=>h1 x h
theorem Rch.step {x y:Txt} (h:Rch S cut ini x) (hy:y∈nextS S cut x):Rch S cut ini y:=fun P h1 h2=>h2 x y (h P h1 h2) hy
structure RchIs (S:List StL) (cut ini:List Txt) (b:Bool) (l:List Txt):Prop where
 rise:RiseL l
 mem : ∀ x,x∈l↔Rch S cut ini x∧isS S x=b
theorem RchIs.one {b:Bool} {l m:List Txt} (h:RchIs S cut ini b l) (h':RchIs S cut ini b m):l=m:=zCY h.rise h'.rise fun x=>by rw [h.mem,h'.mem]
structure StkI (S:List StL) (cut ini todo inn out:List Txt):Prop where
 ri:RiseL inn
 ro:RiseL out
 i1 : ∀ x∈inn,Rch S cut ini x∧isS S x=true
 o1 : ∀ x∈out,Rch S cut ini x∧isS S x=false
 t1 : ∀ x∈todo,Rch S cut ini x
 all : ∀ x∈ini,x∈inn∨x∈out∨x∈todo
 next : ∀ x∈inn, ∀ y∈nextS S cut x,y∈inn∨y∈out∨y∈todo
theorem StkI.start : StkI S cut ini ini [] []:=⟨List.Pairwise.nil,List.Pairwise.nil,by simp,by simp,fun x h => .base h,fun x h => .inr (.inr h),by simp⟩
variable {todo inn out:List Txt} {x:Txt}
theorem StkI.seen (h:StkI S cut ini (todo++[x]) inn out) (hx:x∈inn):StkI S cut ini todo inn out:=by
 have hm : ∀ y,y∈inn∨y∈out∨y∈todo++[x]→y∈inn∨y∈out∨y∈todo:=fun y hy=>by
  rcases hy with h1 | h1 | h1
  ·exact .inl h1
  ·exact .inr (.inl h1)
  ·rcases List.mem_append.1 h1 with h1 | h1
   ·exact .inr (.inr h1)
   ·rw [List.mem_singleton.1 h1];exact .inl hx
 exact ⟨h.ri,h.ro,h.i1,h.o1,fun y hy=>h.t1 y (by simp [hy]),fun y hy=>hm y (h.all y hy),fun y hy z hz=>hm z (h.next y hy z hz)⟩
theorem StkI.new (h:StkI S cut ini (todo++[x]) inn out) (hx:isS S x=true):StkI S cut ini (todo++nextS S cut x) (insU inn x) out:=by
 obtain ⟨r1,r2⟩:=zDx h.ri x
 have hrx:=h.t1 x (by simp)
 have hm : ∀ y,y∈inn∨y∈out∨y∈todo++[x]→y∈insU inn x∨y∈out∨y∈todo++nextS S cut x:=fun y hy=>by
  rcases hy with h1 | h1 | h1
  ·exact .inl ((r2 y).2 (.inl h1))
  ·exact .inr (.inl h1)
  ·rcases List.mem_append.1 h1 with h1 | h1
   ·exact .inr (.inr (by simp [h1]))
   ·exact .inl ((r2 y).2 (.inr (List.mem_singleton.1 h1)))
 refine ⟨r1,h.ro,fun y hy=>?_,h.o1,fun y hy=>?_,fun y hy=>hm y (h.all y hy),fun y hy z hz=>?_⟩
 ·rcases (r2 y).1 hy with h1 | rfl
  ·exact h.i1 y h1
  ·exact ⟨hrx,hx⟩
 ·rcases List.mem_append.1 hy with h1 | h1
  ·exact h.t1 y (by simp [h1])
  ·exact hrx.step h1
 ·rcases (r2 y).1 hy with h1 | rfl
  ·exact hm z (h.next y h1 z hz)
  ·exact .inr (.inr (by simp [hz]))
structure GrwI (S:List StL) (cut ini all:List Txt) (i:Nat):Prop where
 a1 : ∀ x∈all,Rch S cut ini x
 nd:all.Nodup
 ini_ : ∀ x∈ini,x∈all
 next : ∀ (j:Nat) (x:Txt),all[j]?=some x→j<i → ∀ y∈nextS S cut x,y∈all
def allU (S:List StL) (cut ini:List Txt):List Txt:=ini++S.flatMap fun x=>nextS S cut x.id
theorem getS_id {S:List StL} {n:Txt} {x:StL} (h:getS S n=some x):x∈S∧x.id=n:=by
 have h1:=List.mem_of_find?_eq_some h
 have h2:=List.find?_some h
 exact ⟨h1,by simpa using h2⟩
theorem Rch.inU {x:Txt} (h:Rch S cut ini x):x∈allU S cut ini:=h (fun x=>x∈allU S cut ini) (fun y hy=>List.mem_append_left _ hy) fun y z _ hz=>by
 refine List.mem_append_right _ (List.mem_flatMap.2 ?_)
 have hz0:=hz
 unfold nextS objS at hz0
 cases hg:getS S y with
 | none=>rw [hg] at hz0;simp at hz0
 | some s=>
   obtain ⟨h1,h2⟩:=getS_id hg
   exact ⟨s,h1,by rw [h2];exact hz⟩
theorem zBK : ∀ {l m:List Txt},l.Nodup→(∀ x∈l,x∈m)→l.length≤m.length
 | [],_,_,_=>Nat.zero_le _
 | x::l,m,hn,h=>by
   obtain ⟨h1,h2⟩:=List.nodup_cons.1 hn
   have h3:l.length≤(m.erase x).length:=zBK h2 fun y hy=>(List.mem_erase_of_ne (fun (e:y=x)=>h1 (e▸hy))).2 (h y (List.mem_cons_of_mem _ hy))
   rw [List.length_erase_of_mem (h x List.mem_cons_self)] at h3
   have:=List.length_pos_of_mem (h x List.mem_cons_self)
   rw [List.length_cons]
   omega
theorem allU_len {K:Nat} (hK : ∀ x∈S,(nextS S cut x.id).length≤K):(allU S cut ini).length≤ini.length+S.length*K:=by
 unfold allU
 rw [List.length_append,List.length_flatMap]
 have : ∀ (T:List StL),(∀ x∈T,(nextS S cut x.id).length≤K)→(T.map fun x=>(nextS S cut x.id).length).sum≤T.length*K:=by
  intro T
  induction T with
  | nil=>simp
  | cons x T ih=>
    intro hT
    have h1:=hT x List.mem_cons_self
    have h2:=ih fun y hy=>hT y (List.mem_cons_of_mem _ hy)
    rw [List.map_cons,List.sum_cons,List.length_cons,Nat.add_mul,Nat.one_mul]
    omega
 have:=this S hK
 omega
theorem rise_nodup {l:List Txt} (h:RiseL l):l.Nodup:=h.imp fun {a b} h e=>by rw [e,zBn] at h;cases h
end
end
def LinkOk (l:LinkL):Prop:=l.id.length=32
theorem fold_link (c0:Array Value) (b:Value) (l:List Value) (n:Nat) (hl:l.length=n) (h0:c0.size=n+1) :
 ((l.zipIdx 0).foldl (fun cs (x:Value×Nat)=>cs.setIfInBounds (0+x.2) x.1) c0).setIfInBounds n b=(l++[b]).toArray:=by
 obtain ⟨h1,h2⟩:=Great.foldl_set 0 l 0 c0
 apply Array.ext_getElem?
 intro k
 rw [Array.getElem?_setIfInBounds,h1]
 by_cases hk:n=k
 ·subst hk
  rw [if_pos rfl,if_pos (by omega)]
  simp [←hl]
 ·rw [if_neg hk,h2 k]
  by_cases hk2:k<n
  ·rw [if_pos ⟨by omega,by omega,by omega⟩]
   simp [List.getElem?_append_left (show k<l.length by omega)]
  ·rw [if_neg (by omega),Array.getElem?_eq_none (by omega)]
   symm
   rw [Array.getElem?_eq_none (by simp;omega)]
def parLinks (l:List Txt):List LinkL:=l.map fun p=>⟨p,3⟩
theorem links_three {o:ObjL} (h:o.kind=3):linksL o=⟨o.tree,2⟩::parLinks o.pars:=by unfold linksL;rw [if_neg (by omega),if_pos h];rfl
section
attribute [local go_sem ↓] ldvI_eq ldvO_eq
set_option maxRecDepth 100000 in
set_option maxHeartbeats 2000000 in
theorem graOf_calls (l:List Txt) (hok : ∀ x∈l,x.length=32) (hbig:l.length≤900000) (v:Value) (w:World) (hv:Ids w v l) :
 Calls Tryz.prog 35 #[v] w fun e w' => ∃ v',e = .returned v'∧OwnIds w' w.heap.size v' (sortU l)∧Below w.heap.size w w':=by
 obtain ⟨W1,hW1⟩ : ∃ W1,w.alloc (.cells #[.slice none 0 0] 87)=W1:=⟨_,rfl⟩
 have n1:Blk W1 w.heap.size 87 #[.slice none 0 0]:=by rw [←hW1];exact Blk.new _ _ _
 have b1:Below w.heap.size w W1:=by rw [←hW1];exact (Below.refl _ _).alloc (Nat.le_refl _) _
 have s1:SetAt W1 w.heap.size w.heap.size (.slice none 0 0) []:=⟨n1,World.ownsRow_nil _ _ _ _,fun x hx=>by simp at hx,List.Pairwise.nil⟩
 have hzi:=zeroIdS
 have hZ32:(u8s noId).size=32:=by rw [zAj];rfl
 have hN:Hid (sortU l=sortU (l.take l.length)):=Lib.hid (by rw [List.take_length])
 generalize u8s noId=Z at *
 have hv0:=hv
 obtain ⟨A,cap,rfl,hcap1,hcap2,hat⟩:=hv
 clear n1
 generalize sortU l=R at *
 go_enter Tryz.func35,Tryz.ntmps35
 go_wp2
 go_loopg [8] l.length (fun f vi wr => ∃ (k:Nat) (vO:Value),vi = .int .i64 k∧k+f=l.length∧SetAt wr w.heap.size w.heap.size vO (sortU (l.take k))∧Below w.heap.size w wr)
 case atStart=>exact ⟨0, .slice none 0 0,rfl,by omega,s1,b1⟩
 case round=>
  clear s1 hW1
  obtain ⟨k,vO,rfl,hkf,hS,hbel⟩:=hrel
  have hbs:=hbel.size
  cases gk with
  | zero=>
    have hki : ¬ (k:Int)<(l.length:Int):=by omega
    obtain rfl:k=l.length:=by omega
    have c0:=hS.c0
    have ho:=hS.own
    rw [←hN.out] at ho
    obtain ⟨A3,c3,rfl⟩:=zAm ho
    clear hat hS
    go_wp2
    go_ret
    exact ⟨_,rfl,ho,hbel⟩
  | succ f=>
    have hki:(k:Int)<(l.length:Int):=by omega
    obtain ⟨ga,oa,rfl,hga,hca⟩:=hat (by omega)
    obtain ⟨x,hx⟩ : ∃ x,l[k]?=some x:=⟨_,List.getElem?_eq_getElem (by omega)⟩
    have hxi:=hok x (List.mem_of_getElem? hx)
    have hl1:(ldvI ⟨ga,oa+k*32,none⟩).run Tryz.prog wr = .ok (.agg (u8s x)) wr:=by
     have hr:=zAc (hca k x hx) hga hbel
     exact zAb (show World.rangeAt wr ga (oa+k*32) (u8s x).toList from hr) hxi
    have hx32:(u8s x).size=32:=by rw [zAj,hxi]
    have hx1:=u8s_one x
    have hle:(sortU (l.take k)).length≤900000:=by have:=zDI (l.take k);rw [List.length_take] at this;omega
    have hnext:Hid (sortU (l.take (k+1))=insU (sortU (l.take k)) x):=Lib.hid (sortU_more hx)
    have hadd:=fun W (hW:Below wr.heap.size wr W)=>Lib.hid (setAdd_calls (hS.below hW) (Nat.le_trans hbs hW.size) hle x hxi)
    have hvO : ∀ q,vO.ownBlock=some q→w.heap.size≤q:=fun q hq=>(World.ownsRow.lt hS.own q hq).1
    have hld2 : ∀ W g,Blk W g 46 (u8s x)→(ldvI ⟨g,0,none⟩).run Tryz.prog W = .ok (.agg (u8s x)) W:=fun W g h=>zAb (zAi h) hxi
    clear hat hca hx hS hle
    go_wp2_with (first
     | ((with_reducible refine lit_new 46 (.tmp 5) (.tmp 11) (u8s x) 32 sz32 hx32 hx1 _ ?_ ?_ ?_ ?_)
        ·first | exact hZ32 | rfl
        ·rfl
        ·rfl
        intro W2 hb2 hbl2
        have hl2:=hld2 W2 _ hb2
        have ha2:=hadd W2 hbl2)
     | ((with_reducible refine ha2.out.mono ?_);rintro e w3 ⟨rfl,v3,hS3,hf3,_⟩))
    have hb3:Below w.heap.size w w3:=(hbel.trans (hbl2.mono hbs)).trans (hf3.below (Nat.le_trans hbs hbl2.size) fun q hq=>by
     simp only [List.mem_cons,List.not_mem_nil,or_false] at hq
     rcases hq with h | h
     ·injection h with h;omega
     ·exact hvO q h.symm)
    rw [←hnext.out] at hS3
    clear hl1 hl2 hld2 hadd ha2 hb2
    go_roundg f
    case rel=>exact ⟨k+1,v3,by go_num,by omega,hS3,hb3⟩
    case measure=>omega
theorem small_cut {o:ObjL} (h:Small o):Small { o with pars:=[] }:=⟨h.ents,h.names,by simp,h.data,h.text,h.name⟩
end
section
def Ap (a b:Value):Prop := ∀ k,a.ownBlock=some k→b.ownBlock≠some k
theorem Ap.symm {a b:Value} (h:Ap a b):Ap b a:=fun k hk e=>h k e hk
theorem Ap.nil_l (a b:Nat) (v:Value):Ap (.slice none a b) v:=fun k hk=>by cases hk
theorem Ap.nil_r (a b:Nat) (v:Value):Ap v (.slice none a b):=fun k _ e=>by cases e
theorem Ap.newer {w:World} {a a' b:Value} (h:Ap a b) (hn:Newer w a a') (hb : ∀ k,b.ownBlock=some k→k<w.heap.size):Ap a' b:=fun k hk e=>by
 rcases hn with h1 | h1
 ·exact h k (h1▸hk) e
 ·have:=h1 k hk;have:=hb k e;omega
structure RcM (w:World) (ve:Value) (cs todo inn out:List Txt) (vt vI vO:Value) (wr:World):Prop where
 tok : ∀ x∈todo,x.length=32
 t:OwnIds wr w.heap.size vt todo
 i:SetAt wr w.heap.size w.heap.size vI inn
 o:SetAt wr w.heap.size (w.heap.size+1) vO out
 e:OwnIds wr w.heap.size ve cs
 a1:Ap vI vO
 a2:Ap vI vt
 a3:Ap vO vt
 a4:Ap ve vI
 a5:Ap ve vO
 a6:Ap ve vt
 bel:Below w.heap.size w wr
section
variable {w wr w':World} {ve vt vI vO:Value} {cs todo inn out:List Txt} {x:Txt}
theorem RcM.below (h:RcM w ve cs todo inn out vt vI vO wr) (hb:Below wr.heap.size wr w'):RcM w ve cs todo inn out vt vI vO w':=
 ⟨h.tok,zAf h.t hb,h.i.below hb,h.o.below hb,zAf h.e hb,h.a1,h.a2,h.a3,h.a4,h.a5,h.a6,bthen h.bel h.bel.size hb⟩
end
theorem zDJ (l:List Txt) (n:Txt):inL (sortU l) n=inL l n:=by
 have:=(zBz l).2 n
 rw [Bool.eq_iff_iff,inL_iff,inL_iff]
 exact this
end
section
attribute [local go_sem ↓] ldvI_eq ldvS_eq ldvT_eq
theorem StoOk.sub {s s':List StL} (h:StoOk s) (hs:s'.Sublist s):StoOk s':=⟨fun x hx=>h.each x (hs.subset hx),h.sorted.sublist hs,Nat.le_trans hs.length_le h.few⟩
theorem DocSt.sub {w w':World} {vm v':Value} {es:List DiL} (h:DocSt w vm es) (p:DiL→Bool) (ho:OwnDits w' 0 v' (es.filter p)) (hs : ∀ k,DocUse vm es k→w'.heap[k]?=w.heap[k]?):DocSt w' v' (es.filter p):=
 ⟨ho,fun e he=>(h.same hs).each e (List.mem_filter.1 he).1,h.ok.sub ((List.filter_sublist).map _)⟩
def Few12R (h:HisL) (w:World) (e:Ending) (w':World):Prop:=(e = .returned (.tuple #[.agg #[.slice none 0 0], .bool false]))∨(∃ vm es,e = .returned (.tuple #[.agg #[vm], .bool true])∧FewH h∧DocSt w' vm es∧es.length≤24)
theorem len_filter_take {α:Type} (p:α→Bool) (l:List α) (k:Nat):((l.take k).filter p).length≤k:=Nat.le_trans (List.length_filter_le _ _) (by rw [List.length_take];exact Nat.min_le_left _ _)
set_option maxRecDepth 100000 in
set_option maxHeartbeats 8000000 in
theorem few12_calls (h:HisL) (vs vo vf vc:Value) (w:World) (hh:HisOk w vs vo vf vc h) :
 Calls Tryz.prog 5 #[.agg #[vs,vo,vf,vc]] w fun e w'=>Few12R h w e w'∧Below w.heap.size w w':=by
 obtain ⟨W1,hW1⟩ : ∃ W1,w.alloc (.cells #[vs,vo,vf,vc] 25)=W1:=⟨_,rfl⟩
 have s1:Blk W1 w.heap.size 25 #[vs,vo,vf,vc]:=by rw [←hW1];exact Blk.new _ _ _
 have b1:Below w.heap.size w W1:=by rw [←hW1];exact (Below.refl _ _).alloc (Nat.le_refl _) _
 obtain ⟨W2,hW2⟩ : ∃ W2,W1.alloc (.cells #[.slice none 0 0] 28)=W2:=⟨_,rfl⟩
 have r2:Blk W2 W1.heap.size 28 #[.slice none 0 0]:=by rw [←hW2];exact Blk.new _ _ _
 have bb2:Below W1.heap.size W1 W2:=by rw [←hW2];exact (Below.refl _ _).alloc (Nat.le_refl _) _
 have b2:=bthen b1 b1.size bb2
 have s2:=s1.below bb2 s1.lt
 have hle1:w.heap.size≤W1.heap.size:=b1.size
 have hlt1:W1.heap.size<W2.heap.size:=r2.lt
 have c0 : ∀ W,Below W2.heap.size W2 W→W.cell? ⟨w.heap.size,0,none⟩=some vs:=fun W hW=>(s2.below hW s2.lt).cell 0
 have c1 : ∀ W,Below W2.heap.size W2 W→W.cell? ⟨w.heap.size,1,none⟩=some vo:=fun W hW=>(s2.below hW s2.lt).cell 1
 have c2 : ∀ W,Below W2.heap.size W2 W→W.cell? ⟨w.heap.size,2,none⟩=some vf:=fun W hW=>(s2.below hW s2.lt).cell 2
 have c3 : ∀ W,Below W2.heap.size W2 W→W.cell? ⟨w.heap.size,3,none⟩=some vc:=fun W hW=>(s2.below hW s2.lt).cell 3
 have c02:=c0 W2 (Below.refl _ _)
 have hfw:Hid (Calls Tryz.prog 21 #[vs, .int .i64 24] W2 fun e w'=>FewB h.seeds 24 e∧Below W2.heap.size W2 w'):=Lib.hid (few_calls11 h.seeds 24 (by omega) vs W2 (hh.seeds.below b2))
 have hgr:=fun (h1:h.seeds.length≤24 ∧ ∀ x∈h.seeds,x.refs.length≤10∧x.text.length≤300) W (hW:Below w.heap.size w W)=>Lib.hid (grow_calls h.seeds (Nat.le_trans h1.1 (by omega)) h1.2 vs W (hh.seeds.below hW))
 have hid:=fun (ids:List Txt) (hok : ∀ x∈ids,x.length=32) (hil:ids.length≤1000) (v:Value) W (hW:Below w.heap.size w W) (hv:Ids W v ids) (ho10:h.out.length≤10)=>Lib.hid (ids12_calls ids hok hil v W hv h.out (by omega) vo (hh.out.below hW))
 have hbS:Tryz.prog.built 28 []=some #[.slice none 0 0]:=by kernel_rfl
 have hrb:=fun W=>run_build (P:=Tryz.prog) W _ _ _ hbS
 have hS0:(#[Value.slice none 0 0]:Array Value).size=1:=rfl
 have hS1:(#[Value.slice none 0 0]:Array Value).all (·.oneCell')=true:=by kernel_rfl
 have hszS : ∀ vm:Value,(Tryz.prog.info? 28).map (·.size)=some (#[vm]:Array Value).size:=fun vm=>szDSt
 obtain ⟨Ao,co,rfl,ho1,ho2,hato⟩:=hh.out
 obtain ⟨Af,cf,rfl,hf1,hf2,hatf⟩:=hh.frm
 obtain ⟨Ac,cc,rfl,hc1,hc2,hatc⟩:=hh.cut
 clear hh hato hatf hatc s1 s2
 obtain ⟨LO,hLO⟩ : ∃ LO,h.out.length=LO:=⟨_,rfl⟩
 obtain ⟨LF,hLF⟩ : ∃ LF,h.frm.length=LF:=⟨_,rfl⟩
 obtain ⟨LC,hLC⟩ : ∃ LC,h.cut.length=LC:=⟨_,rfl⟩
 rw [hLO] at ho1 hid
 rw [hLF] at hf1
 rw [hLC] at hc1
 simp only [hLO] at c1 hW1 ⊢
 simp only [hLF] at c2 hW1 ⊢
 simp only [hLC] at c3 hW1 ⊢
 go_enter Tryz.func5,Tryz.ntmps5
 go_upto_region 2 with (first
  | ((with_reducible refine hfw.out.mono ?_);rintro e w3 ⟨⟨b,rfl,hb⟩,hb3⟩))
 have b3:=bthen b2 b2.size hb3
 have r3:=r2.below hb3 r2.lt
 have d1:=c1 w3 hb3
 have d2:=c2 w3 hb3
 have d3:=c3 w3 hb3
 have d0:=c0 w3 hb3
 clear hfw c02 hW1 hW2
 cases b with
 | false=>
   clear hgr hid c0 c1 c2 c3 hb
   go_wp2_with (first
    | (refine wpList_store_row rfl 28 (.tmp 2) (.tmp 34) rfl W1.heap.size #[.slice none 0 0] rfl rfl _ _ r3 (hszS _) rfl hS1 ?_))
   refine bodyPost_ret (zAe rfl _ _ W1.heap.size _ _ _ _ rfl (setRow_heap _ _ _ _ _ _ r3) Tryz.underlying28 rfl (hszS _)) rfl ⟨.inl rfl,zAa b3 hle1 _⟩
 | true=>
   have hb:=hb rfl
   replace hgr:=hgr hb w3 b3
   by_cases hO:10<LO
   ·have hOi:(10:Int)<(LO:Int):=by omega
    clear hgr hid c0 c1 c2 c3 hb hLO hLF hLC
    go_wp2_with (first
     | (refine wpList_store_row rfl 28 (.tmp 2) (.tmp 34) rfl W1.heap.size #[.slice none 0 0] rfl rfl _ _ r3 (hszS _) rfl hS1 ?_))
    refine bodyPost_ret (zAe rfl _ _ W1.heap.size _ _ _ _ rfl (setRow_heap _ _ _ _ _ _ r3) Tryz.underlying28 rfl (hszS _)) rfl ⟨.inl rfl,zAa b3 hle1 _⟩
   ·have hOi : ¬ (10:Int)<(LO:Int):=by omega
    by_cases hF:10<LF
    ·have hFi:(10:Int)<(LF:Int):=by omega
     clear hgr hid c0 c1 c2 c3 hb hLO hLF hLC
     go_wp2_with (first
      | (refine wpList_store_row rfl 28 (.tmp 2) (.tmp 34) rfl W1.heap.size #[.slice none 0 0] rfl rfl _ _ r3 (hszS _) rfl hS1 ?_))
     refine bodyPost_ret (zAe rfl _ _ W1.heap.size _ _ _ _ rfl (setRow_heap _ _ _ _ _ _ r3) Tryz.underlying28 rfl (hszS _)) rfl ⟨.inl rfl,zAa b3 hle1 _⟩
    ·have hFi : ¬ (10:Int)<(LF:Int):=by omega
     by_cases hC:10<LC
     ·have hCi:(10:Int)<(LC:Int):=by omega
      clear hgr hid c0 c1 c2 c3 hb hLO hLF hLC
      go_wp2_with (first
       | (refine wpList_store_row rfl 28 (.tmp 2) (.tmp 34) rfl W1.heap.size #[.slice none 0 0] rfl rfl _ _ r3 (hszS _) rfl hS1 ?_))
      refine bodyPost_ret (zAe rfl _ _ W1.heap.size _ _ _ _ rfl (setRow_heap _ _ _ _ _ _ r3) Tryz.underlying28 rfl (hszS _)) rfl ⟨.inl rfl,zAa b3 hle1 _⟩
     ·have hCi : ¬ (10:Int)<(LC:Int):=by omega
      have hfin:Hid (∀ (vm:Value) (es:List DiL) (w':World) (e:Ending),e = .returned (.tuple #[.agg #[vm], .bool true])→DocSt w' vm es→es.length≤24→Few12R h w e w'):=Lib.hid fun vm es w' e he h1 h2 => .inr ⟨vm,es,he,⟨hb,by omega,by omega,by omega⟩,h1,h2⟩
      have hsl:=hb.1
      clear hb hLO hLF hLC c0 c2 c3
      go_upto_region 5 with (first
       | ((with_reducible refine hgr.out.mono ?_);rintro e w4 ⟨⟨vm,es,vi,ids,rfl,hD,hel,hoi,hil,hok,hap⟩,hb4⟩
          obtain ⟨Ai,ci,rfl⟩:=zAm hoi
          obtain ⟨Am,cm,rfl⟩:=zAm hD.own
          have hm2:(#[Value.slice Am es.length cm]:Array Value).all (·.oneCell')=true:=by simp [Value.oneCell']
          have hm1:(#[Value.slice Am es.length cm]:Array Value).size=1:=rfl)
       | ((with_reducible refine lit_new 28 (.tmp 5) (.tmp 39) #[.slice Am es.length cm] 1 szDSt hm1 hm2 _ ?_ ?_ ?_ ?_)
          ·first | exact hm1 | rfl
          ·rfl
          ·rfl
          intro W5 hb5 hbl5))
      have b4:=bthen b3 b3.size hb4
      have b5:=bthen b4 b4.size hbl5
      have r4:=r3.below hb4 r3.lt
      have r5:=r4.below hbl5 r4.lt
      have hoi5:=zAf hoi hbl5
      have hD5:=hD.below hbl5
      have c15:=c1 W5 (bthen hb3 hb3.size (bthen hb4 hb4.size hbl5))
      have hidc:=fun ho10=>hid ids hok (by omega) _ W5 b5 (SliceAt.of_own (fun e h=>idC_len (hok e h)) hoi5) ho10
      have hids0:Hid (ids.length=ids.length):=Lib.hid rfl
      clear hgr hid c1 d0 d1 d2 d3 r3 r4
      by_cases h0:0<ids.length
      ·have h0b:((ids.length:Int)==0)=false:=by rw [beq_eq_false_iff_ne];omega
       replace hidc:=Lib.hid (hidc (by omega)).out
       go_upto_region 9 with (first
        | ((with_reducible refine hidc.out.mono ?_);rintro e w6 ⟨⟨vg,gone,rfl,hog,hgk, -⟩,hb6⟩
           obtain ⟨Ag,cg,rfl⟩:=zAm hog)
        | ((with_reducible refine lit_new 28 (.tmp 8) (.tmp 49) #[.slice none 0 0] 1 szDSt hS0 hS1 _ ?_ ?_ ?_ ?_)
           ·first | exact hS0 | rfl
           ·rfl
           ·rfl
           intro W7 hb7 hbl7))
       have hDD:=hD5.below hb6
       have hs6:=hb5.below hb6 hb5.lt
       have r6:=r5.below hb6 r5.lt
       have b6:=bthen b5 b5.size hb6
       have hN1:W1.heap.size<w6.heap.size:=r6.lt
       obtain ⟨N,hN⟩ : ∃ N,w6.heap.size=N:=⟨_,rfl⟩
       rw [hN] at hb7 hbl7 hN1
       have hgone:=SliceAt.of_own (fun e h=>idC_len (hgk e h)) hog
       have hin:=fun W (hW:Below N w6 W) (x:Txt) (hx:x.length=32)=>Lib.hid (in02_calls gone hgk _ x hx W (hgone.below (hN▸hW)))
       obtain ⟨B5,hB5⟩ : ∃ B5,w4.heap.size=B5:=⟨_,rfl⟩
       have hB5N:B5<N:=by rw [←hB5,←hN];exact hs6.lt
       rw [hB5] at hb5 hs6
       obtain ⟨A2,c2',hfe,hm3,hm4,hatm⟩:=hDD.at_
       injection hfe with e1 e2 e3
       subst e1 e3
       have heach:=hDD.each
       have hlen24:es.length≤24:=by omega
       have hL0:OwnDits W7 N (.slice none 0 0) ((es.take 0).filter fun e => !inL gone e.st.id):=by rw [List.take_zero];exact World.ownsRow_nil _ _ _ _
       rw [hN] at hatm
       go_wp2_with (fail)
       clear hog hidc hoi5 hD5 hoi hD r5 c15 hb5 hap b5 b4 hbl5
       go_loopg [9] es.length (fun f vi wr => ∃ (k:Nat) (vL:Value),vi = .int .i64 k∧k+f=es.length∧Blk wr N 28 #[vL]∧OwnDits wr N vL ((es.take k).filter fun e => !inL gone e.st.id)∧Below N w6 wr)
       case atStart=>exact ⟨0,_,rfl,by omega,hb7,hL0,hbl7⟩
       case round=>
        clear hL0 hb7 hbl7
        obtain ⟨k,vL,rfl,hkf,hL,hoL,hbel⟩:=hrel
        have hbel6:Below w6.heap.size w6 wr:=hN▸hbel
        have hsr:=hs6.below hbel6 hs6.lt
        have csr:=hsr.cell 0
        have hNr:N<wr.heap.size:=hL.lt
        cases gk with
        | zero=>
          have hki : ¬ (k:Int)<(es.length:Int):=by omega
          have hke:es.take k=es:=List.take_of_length_le (by omega)
          rw [hke] at hoL
          have hDr:=hDD.below hbel6
          have r7:=r6.below hbel6 r6.lt
          have lL:=zAP hL
          have br:=bthen b6 b6.size hbel6
          have hnoR:=hDr.blk_ne r7 (by decide) (by decide) (by decide)
          have hne7:=zAs hoL r7 (by decide)
          obtain ⟨AL,cL,rfl⟩:=zAm hoL
          have hLone:(#[Value.slice AL (es.filter fun e => !inL gone e.st.id).length cL]:Array Value).all (·.oneCell')=true:=by simp [Value.oneCell']
          clear hatm hin heach hke hL
          obtain ⟨fl,hfl⟩ : ∃ fl,(es.filter fun e => !inL gone e.st.id).length=fl:=⟨_,rfl⟩
          have hfl2:=Lib.hid hfl
          rw [hfl] at lL hLone hoL
          clear hfl
          go_wp2_with (first
           | (refine wpList_store_row rfl 28 (.tmp 2) (.tmp 77) rfl W1.heap.size #[.slice AL fl cL] rfl rfl _ _ r7 (hszS _) rfl hLone ?_))
          refine bodyPost_ret (zAe rfl _ _ W1.heap.size _ _ _ _ rfl (setRow_heap _ _ _ _ _ _ r7) Tryz.underlying28 rfl (hszS _)) rfl ⟨hfin.out _ (es.filter fun e => !inL gone e.st.id) _ _ rfl ((hDr.row hnoR _).sub _ (zE4 (own_row hoL hN1 _) (Nat.zero_le _)) fun _ _=>rfl) (Nat.le_trans (List.length_filter_le _ _) hlen24),zAa br hle1 _⟩
        | succ f=>
          have hki:(k:Int)<(es.length:Int):=by omega
          have hkl:k<es.length:=by omega
          obtain ⟨ga,oa,rfl,hga,hca⟩:=hatm (by omega)
          obtain ⟨x,hx⟩ : ∃ x,es[k]?=some x:=⟨_,List.getElem?_eq_getElem hkl⟩
          have hxok:=heach x (List.mem_of_getElem? hx)
          have hxi:=hxok.id
          have hxr : ∀ W,Below N w6 W→W.rangeAt ga (oa+k*105) (ditC x):=fun W hW=>by
           rw [←hN] at hW hga
           exact zAc (hca k x hx) hga hW
          have hl1:=zAb (dit_id (hxr wr hbel)) hxi
          have hin1:=hin wr hbel x.st.id hxi
          have hmore:(es.take (k+1)).filter (fun e => !inL gone e.st.id)=(es.take k).filter (fun e => !inL gone e.st.id)++(if inL gone x.st.id=false then [x] else []):=by
           rw [List.take_add_one,hx,List.filter_append]
           congr 1
           simp [List.filter_cons]
          have hacl:=len_filter_take (fun e => !inL gone e.st.id) es k
          obtain ⟨acc,hacc⟩ : ∃ acc,(es.take k).filter (fun e => !inL gone e.st.id)=acc:=⟨_,rfl⟩
          rw [hacc] at hoL hmore hacl
          generalize inL gone x.st.id=bi at *
          have hx105:(ditC x).toArray.size=105:=by rw [List.size_toArray,zC0 hxok]
          have hx1:(ditC x).toArray.size=1*105:=hx105
          have hxone : ∀ u∈(ditC x).toArray.toList,u.oneCell'=true:=by rw [List.toList_toArray];exact ditC_one hxok
          have ft : ∀ (W:World),Below N w6 W→(ldvT ⟨ga,oa+k*105,none⟩).run Tryz.prog W = .ok (.agg (ditC x).toArray) W:=fun W hW=>run_loadVar_mid (P:=Tryz.prog) W ga (oa+k*105) 70 (ditC x) _ (hxr W hW) Tryz.underlying70 rfl (by rw [zC0 hxok];exact szDit)
          clear hin heach hx hca hatm hxr hacc hDD
          obtain ⟨XC,hXC⟩ : ∃ XC,(ditC x).toArray=XC:=⟨_,rfl⟩
          rw [hXC] at hx105 hx1 hxone
          simp only [hXC] at ft
          replace hXC:=Lib.hid hXC
          cases bi with
          | true=>
            replace hmore:=Lib.hid (hmore.trans (List.append_nil _))
            clear ft
            go_wp2_with (first
             | ((with_reducible refine hin1.out.mono ?_);rintro e w8 ⟨rfl,hb8⟩))
            have hL8:=hL.below hb8 hL.lt
            have hoL8:=zAf hoL hb8
            have hb68:=hbel.trans (hb8.mono (Nat.le_of_lt hNr))
            clear hl1 hin1 hL hoL csr
            go_roundg f
            case rel=>exact ⟨k+1,vL,by go_num,by omega,hL8,by rw [hmore.out];exact hoL8,hb68⟩
            case measure=>omega
          | false=>
            replace hmore:=Lib.hid hmore
            go_upto_region 14 with (first
             | ((with_reducible refine hin1.out.mono ?_);rintro e w8 ⟨rfl,hb8⟩))
            have hL8:=hL.below hb8 hL.lt
            have hoL8:=zAf hoL hb8
            have hb68:=hbel.trans (hb8.mono (Nat.le_of_lt hNr))
            have hN8:N<w8.heap.size:=hL8.lt
            have hszN:=Nat.le_of_lt hN8
            have hs8:=hsr.below hb8 hsr.lt
            obtain ⟨AL,cL,rfl⟩:=zAm hoL8
            have hpre:=preOk2 (i:=8) (j:=10) hoL8 hL8 (by decide)
            have hrB:=rows2 (i:=8) (j:=10) (p:=fun w=>World.ownsRow w N 70 105 (.slice AL acc.length cL) acc.length (rowsOf ditC acc)) (q:=fun w=>Blk w N 28 #[.slice AL acc.length cL]) (v := .slice AL acc.length cL) (fun k hk=>(World.ownsRow.lt hoL8 k hk).1) (Nat.le_refl N)
            have hAk:acc.length+1≤9223372036854775807:=by omega
            have hAb:(acc.length+1)*232≤140737488355328:=by omega
            have hwas : ∀ W,Blk W N 28 #[.slice AL acc.length cL]→W.cell? ⟨N,0,none⟩=some (.slice AL acc.length cL):=fun W h=>h.cell 0
            have hscell : ∀ W,Below N w8 W→W.cell? ⟨B5,0,none⟩=some (.slice (some ⟨ga,oa,none⟩) es.length cm):=fun W hW=>(Blk.below hs8 hW hB5N).cell 0
            clear hl1 hin1 hL hoL csr hsr hs8
            refine zBA 11 [(8,(Value.slice AL acc.length cL).ownBlock,fun w=>World.ownsRow w N 70 105 (.slice AL acc.length cL) acc.length (rowsOf ditC acc)),(10,some N,fun w=>Blk w N 28 #[.slice AL acc.length cL])] hpre (by kernel_rfl) (by kernel_rfl) (by kernel_rfl) (by kernel_rfl) ?_
            simp only [exSp]
            iterate 11 apply Exists.intro
            repeat
             first
              | ((with_reducible apply lx_ex)
                 ·(go_simp;done)
                 apply Exists.intro
                 apply And.intro
                 ·apply Eq.refl
                 apply And.intro
                 ·intro W hF hD
                  first
                   | (have hf:=(zBF hF).below hszN hrB
                      have q0:=hscell W hf
                      have q1:=ft W (hb68.trans hf)
                      have q2:=hwas W (hD.was 1 rfl (by kernel_rfl))
                      go_simp
                      rfl)
                   | (have hf:=(zBF hF).below hszN hrB
                      have q0:=hscell W hf
                      have q1:=ft W (hb68.trans hf)
                      go_simp
                      rfl)
                 simp only [Act.put,zA,zB,zC])
              | ((with_reducible apply lx_pass)
                 ·(first | rfl | (go_simp;done))
                 ·apply Eq.refl
                 simp only [Act.put,zA,zB,zC])
              | (first | (with_reducible apply zA1) | (with_reducible apply zAK)
                 ·apply Eq.refl
                 apply Exists.intro
                 apply And.intro
                 ·(go_simp;rfl)
                 simp only [Act.put,zA,zB,zC])
              | ((with_reducible apply zB2 Tryz.ditTy (fun cs=>cs=XC) (by omega))
                 ·apply Eq.refl
                 apply Exists.intro
                 apply And.intro
                 ·(go_simp;rfl)
                 refine ⟨fun W hF hD=>?_,?_⟩
                 ·exact ⟨XC,rfl,hx105,rfl⟩
                 intro v
                 simp only [Act.put,zA,zB,zC])
              | ((with_reducible apply zEr Tryz.ditTy N (.slice AL acc.length cL) acc.length (rowsOf ditC acc) (fun xs=>xs=rowsOf ditC acc++XC.toList) hAk hAb)
                 ·exact hszN
                 ·first | exact List.Mem.head _ | exact List.Mem.tail _ (List.Mem.head _) | exact List.Mem.tail _ (List.Mem.tail _ (List.Mem.head _)) | exact List.Mem.tail _ (List.Mem.tail _ (List.Mem.tail _ (List.Mem.head _)))
                 ·apply Eq.refl
                 apply Exists.intro
                 apply Exists.intro
                 apply And.intro
                 ·(go_simp;rfl)
                 apply And.intro
                 ·(go_simp;rfl)
                 refine ⟨rfl,fun W hF hD=>?_,?_⟩
                 ·obtain ⟨F,g5,cs,rfl,_,hk5,rfl⟩:=hD.at 0 rfl (by kernel_rfl)
                  exact ⟨g5,_,rfl,hk5,hx105,hxone,rfl⟩
                 intro v
                 simp only [Act.put,zA,zB,zC])
              | ((with_reducible apply lx_put N 0 #[.slice AL acc.length cL] 28)
                 ·exact (fun _=>by kernel_rfl)
                 ·exact (Nat.zero_lt_one)
                 ·first | exact List.Mem.head _ | exact List.Mem.tail _ (List.Mem.head _) | exact List.Mem.tail _ (List.Mem.tail _ (List.Mem.head _)) | exact List.Mem.tail _ (List.Mem.tail _ (List.Mem.tail _ (List.Mem.head _)))
                 ·apply Eq.refl
                 apply Exists.intro
                 apply Exists.intro
                 apply And.intro
                 ·(go_simp;rfl)
                 apply And.intro
                 ·(go_simp;rfl)
                 refine ⟨rfl,fun W hF hD=>?_,?_⟩
                 ·obtain ⟨F,xs,_,hv,_⟩:=hD.at 0 rfl (by kernel_rfl)
                  obtain ⟨A6,c6,rfl⟩:=zAm hv
                  exact ⟨_,_,_,rfl⟩)
            refine lxP_nil ?_ fun w9 hF9 hD9=>?_
            ·exact List.nodup_nil
            obtain ⟨_,hg9,hb9⟩:=hD9 _ (.head _)
            obtain ⟨_,xs,rfl,hv9,_⟩:=hD9 _ (.tail _ (.head _))
            have hb69:=hb68.trans (hF9.below hszN hrB)
            clear hD9 hpre hrB hF9 ft hwas hscell hL8 hoL8
            have hkey : ∀ v,World.ownsRow w9 N 70 105 v (acc.length+1) (rowsOf ditC acc++XC.toList)→OwnDits w9 N v (acc++[x]):=fun v h=>by
             unfold OwnDits
             rw [List.length_append,zAo,zAx]
             rw [←hXC.out,List.toList_toArray] at h
             exact h
            have hoL9:=hkey _ hv9
            go_wp2_with (fail)
            go_roundg f
            case rel=>exact ⟨k+1,_,by go_num,by omega,hb9,by rw [hmore.out];exact hoL9,hb69⟩
            case measure=>omega
      ·obtain rfl:ids=[]:=List.length_eq_zero_iff.1 (by omega)
       have lS:=zAP hb5
       have hnoR:=hD5.blk_ne r5 (by decide) (by decide) (by decide)
       clear hidc h0 hoi5 c15
       go_wp2_with (first
        | (refine wpList_store_row rfl 28 (.tmp 2) (.tmp 44) rfl W1.heap.size #[.slice Am es.length cm] rfl rfl _ _ r5 (hszS _) rfl hm2 ?_))
       refine bodyPost_ret (zAe rfl _ _ W1.heap.size _ _ _ _ rfl (setRow_heap _ _ _ _ _ _ r5) Tryz.underlying28 rfl (hszS _)) rfl ⟨hfin.out _ es _ _ rfl (hD5.row hnoR _) (by omega),zAa b5 hle1 _⟩
end
def ldvH (p:Addr):Sem Value:=loadVar 25 p
theorem ldvH_eq (p:Addr):loadVar 25 p=ldvH p:=rfl
theorem run_ldvH {w:World} {g:Nat} {a b c d:Value} (h:Blk w g 25 #[a,b,c,d]):(ldvH ⟨g,0,none⟩).run Tryz.prog w = .ok (.agg #[a,b,c,d]) w:=run_loadVar_row w g _ _ _ _ _ h Tryz.underlying25 rfl (by kernel_rfl)
def Few12B (h:HisL) (e:Ending) (w':World):Prop := ∃ A n c b,e = .returned (.tuple #[.agg #[.slice A n c], .bool b])∧(b=true → ∃ es,FewH h∧DocSt w' (.slice A n c) es∧es.length≤24)
theorem Few12R.b {h:HisL} {w w':World} {e:Ending} (hr:Few12R h w e w'):Few12B h e w':=by
 rcases hr with rfl | ⟨vm,es,rfl,h1,h2,h3⟩
 ·exact ⟨none,0,0,false,rfl,fun h=>by cases h⟩
 ·obtain ⟨A,c,rfl⟩:=zAm h2.own
  exact ⟨A,_,c,true,rfl,fun _=>⟨es,h1,h2,h3⟩⟩
section
attribute [local go_sem ↓] ldvI_eq ldvO_eq
theorem links_len {o:ObjL} (h:Small o):(linksL o).length≤70:=by
 have h1:=h.ents
 have h2:=h.pars
 unfold linksL
 split
 ·rw [List.length_map];exact h1
 ·split
  ·rw [List.length_cons,List.length_map];omega
  ·split<;>simp
theorem cut_small {cut:List Txt} {n:Txt} {o:ObjL} (h:Small o):Small (cutO cut n o):=by
 unfold cutO
 split
 ·exact small_cut h
 ·exact h
theorem dec_small {t:Txt} {o:ObjL} (h:decO t=some o):Small o:=small_enc (zC9 h).1
theorem zDs {S:List StL} {n:Txt} {s:StL} {o:ObjL} (hg:getS S n=some s) (hd:decO s.text=some o):objS S n=some o:=by unfold objS;rw [hg];exact hd
theorem objS_none {S:List StL} {n:Txt} (hg:getS S n=none):objS S n=none:=by unfold objS;rw [hg]
theorem nextS_len {S:List StL} {cut:List Txt} (n:Txt):(nextS S cut n).length≤70:=by
 unfold nextS objS
 cases hg:getS S n with
 | none=>simp
 | some s=>
   simp only
   cases hd:decO s.text with
   | none=>simp
   | some o=>unfold nextO;rw [List.length_map];exact links_len (cut_small (dec_small hd))
theorem isS_mem {S:List StL} {n:Txt} (h:isS S n=true):n∈S.map StL.id:=by
 unfold isS objS at h
 cases hg:getS S n with
 | none=>rw [hg] at h;cases h
 | some s=>
   obtain ⟨h1,h2⟩:=getS_id hg
   exact List.mem_map.2 ⟨s,h1,h2⟩
theorem StkI.few {S:List StL} {cut ini todo inn out:List Txt} (h:StkI S cut ini todo inn out):inn.length≤S.length∧out.length≤ini.length+S.length*70:=by
 refine ⟨?_,?_⟩
 ·have:=zBK (rise_nodup h.ri) (m:=S.map StL.id) fun x hx=>isS_mem (h.i1 x hx).2
  rwa [List.length_map] at this
 ·exact Nat.le_trans (zBK (rise_nodup h.ro) fun x hx=>(h.o1 x hx).1.inU) (allU_len fun x _=>nextS_len _)
end
section
attribute [local go_sem ↓] ldvI_eq ldvO_eq ldvS_eq
theorem dec_kind4 {t:Txt} {o:ObjL} (h:decO t=some o):o.kind=1∨o.kind=2∨o.kind=3∨o.kind=4:=by
 have h1:=(zC9 h).1
 unfold encO at h1
 split at h1
 ·rename_i h2
  exact zCE h2.1
 ·cases h1
def linksS (S:List StL) (n:Txt):List LinkL:=match objS S n with
 | some o=>linksL o
 | none=>[]
def keptK (c:Bool) (L:List LinkL) (j:Nat):List Txt:=(L.take (if c=true then Nat.min j 1 else j)).map LinkL.id
theorem keptK_end {S:List StL} {cut:List Txt} {n:Txt} {b:Bool} (hb:b=(decide (kindS S n=3)&&inL cut n)):keptK b (linksS S n) (linksS S n).length=nextS S cut n:=by
 have hk:kindS S n=match objS S n with | some o=>o.kind | none=>0:=by
  unfold kindS objS
  cases getS S n with
  | none=>rfl
  | some s=>rfl
 rw [hk] at hb
 unfold linksS nextS keptK
 cases ho:objS S n with
 | none=>simp
 | some o=>
   rw [ho] at hb
   simp only at hb ⊢
   unfold nextO cutO
   by_cases hc:o.kind=3∧inL cut n=true
   ·rw [if_pos hc]
    have:b=true:=by rw [hb];simp [hc.1,hc.2]
    subst this
    have h3:linksL o=⟨o.tree,2⟩::parLinks o.pars:=links_three hc.1
    have h4:linksL { o with pars:=[] }=[⟨o.tree,2⟩]:=by rw [links_three (o:={ o with pars:=[] }) hc.1];rfl
    rw [h3,h4]
    simp only [if_true,List.length_cons]
    rw [show Nat.min ((parLinks o.pars).length+1) 1=1 from Nat.min_eq_right (by omega)]
    rfl
   ·rw [if_neg hc]
    have:b=false:=by
     rw [hb]
     cases h:inL cut n
     ·simp
     ·have : ¬ o.kind=3:=fun e=>hc ⟨e,h⟩
      simp [this]
    subst this
    simp
section
variable {w:World} {vm:Value} {es:List DiL}
end
end
section
attribute [local go_sem ↓] ldvI_eq ldvS_eq
theorem linksS_ok (S:List StL) (n:Txt) : ∀ y∈linksS S n,LinkOk y:=by
 intro y hy
 show y.id.length=32
 unfold linksS objS at hy
 cases hg:getS S n with
 | none=>rw [hg] at hy;simp at hy
 | some s=>
   rw [hg] at hy
   simp only at hy
   cases hd:decO s.text with
   | none=>rw [hd] at hy;simp at hy
   | some o=>
     rw [hd] at hy
     simp only at hy
     have hs:=(zC9 hd).2
     unfold linksL at hy
     split at hy
     ·obtain ⟨e,he,rfl⟩:=List.mem_map.1 hy
      exact hs.ents e he
     ·split at hy
      ·rcases List.mem_cons.1 hy with rfl | hy
       ·exact hs.tree
       ·obtain ⟨p,hp,rfl⟩:=List.mem_map.1 hy
        exact hs.pars p hp
      ·split at hy
       ·rw [List.mem_singleton.1 hy];exact hs.target
       ·simp at hy
theorem nextS_sub (S:List StL) (cut:List Txt) (n:Txt) : ∀ y∈nextS S cut n,y∈(linksS S n).map LinkL.id:=by
 intro y hy
 rw [←keptK_end (S:=S) (cut:=cut) (n:=n) rfl] at hy
 unfold keptK at hy
 obtain ⟨z,hz,rfl⟩:=List.mem_map.1 hy
 exact List.mem_map.2 ⟨z,List.mem_of_mem_take hz,rfl⟩
theorem nextS_ok (S:List StL) (cut:List Txt) (n:Txt) : ∀ y∈nextS S cut n,y.length=32:=by
 intro y hy
 obtain ⟨z,hz,rfl⟩:=List.mem_map.1 (nextS_sub S cut n y hy)
 exact linksS_ok S n z hz
theorem Rch.ok {S:List StL} {cut ini:List Txt} (h : ∀ x∈ini,x.length=32) {x:Txt} (hx:Rch S cut ini x):x.length=32:=hx (fun x=>x.length=32) h fun y z _ hz=>nextS_ok S cut y z hz
theorem zCw {l:List Txt} {x:Txt} (h:l.Nodup) (hx:inL l x=false):(l++[x]).Nodup:=by
 refine List.pairwise_append.2 ⟨h,List.pairwise_singleton _ _,fun a ha b hb e=>?_⟩
 rw [List.mem_singleton.1 hb] at e
 rw [e] at ha
 rw [inL_iff.2 ha] at hx
 cases hx
theorem GrwI.more {S:List StL} {cut ini all:List Txt} {i:Nat} {y:Txt} (h:GrwI S cut ini all i) (hi:i≤all.length) (hy:Rch S cut ini y) (hn:inL all y=false):GrwI S cut ini (all++[y]) i:=by
 refine ⟨fun x hx=>(List.mem_append.1 hx).elim (h.a1 x) fun e=>by rw [List.mem_singleton.1 e];exact hy,zCw h.nd hn,fun x hx=>List.mem_append_left _ (h.ini_ x hx),fun j x hx hj z hz=>List.mem_append_left _ (h.next j x ?_ hj z hz)⟩
 rwa [List.getElem?_append_left (by omega)] at hx
theorem GrwI.len {S:List StL} {cut ini all:List Txt} {i:Nat} (h:GrwI S cut ini all i):all.length≤(allU S cut ini).length:=zBK h.nd fun x hx=>(h.a1 x hx).inU
theorem GrwI.step {S:List StL} {cut ini all:List Txt} {i:Nat} {x:Txt} (h:GrwI S cut ini all i) (hx:all[i]?=some x) (hn : ∀ y∈nextS S cut x,y∈all):GrwI S cut ini all (i+1):=by
 refine ⟨h.a1,h.nd,h.ini_,fun j z hz hj=>?_⟩
 by_cases e:j=i
 ·subst e
  rw [hx] at hz
  injection hz with hz
  subst hz
  exact hn
 ·exact h.next j z hz (by omega)
section
variable {w:World} {vm:Value} {es:List DiL}
end
end
section
attribute [local go_sem ↓] ldvI_eq ldvS_eq
def endS (S:List StL):Nat→Txt→Option Txt
 | 0,_=>none
 | f+1,n=>match objS S n with
   | none=>none
   | some o=>if o.kind=4 then endS S f o.target else some n
def endV (r:Option Txt):Value:=match r with
 | some m => .tuple #[.agg (u8s m), .bool true]
 | none => .tuple #[.agg (u8s noId), .bool false]
theorem zD5 {S:List StL} {n:Txt} {o:ObjL} (h:objS S n=some o):Sound o∧(o.kind=1∨o.kind=2∨o.kind=3∨o.kind=4):=by
 unfold objS at h
 cases hg:getS S n with
 | none=>rw [hg] at h;cases h
 | some s=>
   rw [hg] at h
   exact ⟨(zC9 h).2,dec_kind4 h⟩
theorem endS_ok {S:List StL} : ∀ (f:Nat) (n m:Txt),n.length=32→endS S f n=some m→m.length=32
 | 0,n,m,_,h=>by cases h
 | f+1,n,m,hn,h=>by
   unfold endS at h
   cases ho:objS S n with
   | none=>rw [ho] at h;cases h
   | some o=>
     rw [ho] at h
     simp only at h
     split at h
     ·exact endS_ok f _ m (zD5 ho).1.target h
     ·injection h with h;rw [←h];exact hn
set_option maxRecDepth 100000 in
set_option maxHeartbeats 8000000 in
theorem zEz {w:World} {base p:Nat} {vl:Value} {S:List StL} (hS:StoAt w base p vl S) (n:Txt) (hn:n.length=32) :
 Calls Tryz.prog 28 #[.pointer (some ⟨p,0,none⟩), .agg (u8s n)] w fun e w'=>e = .returned (endV (endS S (S.length+1) n))∧Below w.heap.size w w':=by
 have hzi:=zeroIdV
 have hrb:=fun W=>run_build (P:=Tryz.prog) W _ _ _ zBS
 have hzo:=zeroObj
 have hZ32:(u8s noId).size=32:=by rw [zAj];rfl
 have hZone:=u8s_one noId
 have hsI : ∀ cs:Array Value,cs.size=32→(Tryz.prog.info? 46).map (·.size)=some cs.size:=fun cs h=>by rw [h];exact sz32
 have hz72:=zAB
 have hzone:zObj.all (·.oneCell')=true:=zCd
 obtain ⟨W1,hW1,b1,n1,_⟩:=boxIdS w n hn
 obtain ⟨W2,hW2⟩ : ∃ W2,W1.alloc (.cells (u8s noId) 46)=W2:=⟨_,rfl⟩
 have z2:Blk W2 W1.heap.size 46 (u8s noId):=by rw [←hW2];exact Blk.new _ _ _
 have bb2:Below W1.heap.size W1 W2:=by rw [←hW2];exact (Below.refl _ _).alloc (Nat.le_refl _) _
 have b2:=bthen b1 b1.size bb2
 have n2:=n1.below bb2 n1.lt
 have hlt12:w.heap.size<W1.heap.size:=n1.lt
 have hln:=Lib.hid (stoLen_calls (hS.below b2))
 have hsl:S.length≤500000:=hS.ok.few
 have hob:=fun W (hW:Below w.heap.size w W) (m:Txt) (hm:m.length=32)=>zBV (hS.below hW) m hm
 have hSok:=hS.ok
 obtain ⟨R,hR⟩ : ∃ R,endS S (S.length+1) n=R:=⟨_,rfl⟩
 rw [hR]
 replace hR:=Lib.hid hR
 have hRn:Hid (R=none→endV R = .tuple #[.agg (u8s noId), .bool false]):=Lib.hid fun h=>by rw [h];rfl
 have hRs:Hid (∀ m,R=some m→endV R = .tuple #[.agg (u8s m), .bool true]):=Lib.hid fun m h=>by rw [h];rfl
 generalize endV R=V at *
 obtain ⟨B2,hB2⟩ : ∃ B2,W1.heap.size=B2:=⟨_,rfl⟩
 rw [hB2] at z2 hlt12
 obtain ⟨NC,hNC⟩ : ∃ NC,u8s n=NC:=⟨_,rfl⟩
 have hNC2:=hNC
 rw [hNC] at hW1 ⊢
 obtain ⟨Z,hZ⟩ : ∃ Z,u8s noId=Z:=⟨_,rfl⟩
 rw [hZ] at hZ32 hZone hW2 z2 hzi hrb hRn
 clear hNC hZ hS
 go_enter Tryz.func28,Tryz.ntmps28
 go_wp2_with (first
  | ((with_reducible refine hln.out.mono ?_);rintro e w3 ⟨rfl,rfl⟩))
 have hw1:IntKind.i64.wrap ((S.length:Int)+1)=(S.length:Int)+1:=IntWalk.i64_in _ (by omega)
 try rw [hB2]
 go_loopg [11] (S.length+1) (fun f vi wr => ∃ (k:Nat) (m:Txt),vi = .int .i64 k∧k+f=S.length+1∧Hid (endS S f m=R)∧m.length=32∧Blk wr w.heap.size 46 (u8s m)∧Blk wr B2 46 Z∧Below w.heap.size w wr)
 case atStart=>exact ⟨0,n,rfl,by omega,hR,hn,n2,z2,b2⟩
 case round=>
  clear hR n2 z2 b2 bb2 b1 n1 hW1 hW2 hln
  obtain ⟨k,m,rfl,hkf,hend,hm,hi,hz,hbel⟩:=hrel
  have hbs:=hbel.size
  have hm32:(u8s m).size=32:=by rw [zAj,hm]
  have hm1:=u8s_one m
  cases gk with
  | zero=>
    have hki : ¬ (k:Int)<(S.length:Int)+1:=by omega
    have hV:=hRn.out hend.out.symm
    clear hend hRn hRs
    go_wp2_with (first
     | (refine wpList_store_row rfl 46 (.tmp 4) (.tmp 31) rfl B2 Z rfl rfl _ _ hz (hsI _ hZ32) rfl hZone ?_))
    (try rw [hV])
    refine bodyPost_ret (zAe rfl _ _ B2 _ _ _ _ rfl (setRow_heap _ _ _ _ _ _ hz) Tryz.underlying46 rfl (hsI _ hZ32)) rfl ⟨rfl,zAa hbel (Nat.le_of_lt hlt12) _⟩
  | succ f=>
    have hki:(k:Int)<(S.length:Int)+1:=by omega
    have hl1:=zAb (zAi hi) hm
    have hob1:=hob wr hbel m hm
    cases hg:getS S m with
    | none=>
      have hV:=hRn.out (by rw [←hend.out,endS,objS_none hg])
      have hob2:Hid (Calls Tryz.prog 30 #[.pointer (some ⟨p,0,none⟩), .agg (u8s m)] wr fun e w'=>e = .returned (.tuple #[.agg zObj, .bool false])∧Below wr.heap.size wr w'):=Lib.hid (by
       have h:=hob1
       unfold ObjT at h
       rw [hg] at h
       exact h)
      clear hg hob1 hob hend hRn hRs
      generalize zObj=ZO at *
      go_wp2_with (first
       | ((with_reducible refine hob2.out.mono ?_);rintro e w4 ⟨rfl,hb4⟩
          have b4:=bthen hbel hbs hb4
          have z4:=hz.below hb4 hz.lt)
       | ((with_reducible refine lit_new 59 (.tmp 6) (.tmp 17) ZO 72 szObj hz72 hzone _ ?_ ?_ ?_ ?_)
          ·first | exact hz72 | rfl
          ·rfl
          ·rfl
          intro W5 hb5 hbl5
          have b5:=bthen b4 b4.size hbl5
          have z5:=z4.below hbl5 z4.lt)
       | (refine wpList_store_row rfl 46 (.tmp 4) (.tmp 22) rfl B2 Z rfl rfl _ _ z5 (hsI _ hZ32) rfl hZone ?_))
      (try rw [hV])
      refine bodyPost_ret (zAe rfl _ _ B2 _ _ _ _ rfl (setRow_heap _ _ _ _ _ _ z5) Tryz.underlying46 rfl (hsI _ hZ32)) rfl ⟨rfl,zAa b5 (Nat.le_of_lt hlt12) _⟩
    | some s=>
      obtain ⟨o,hdo⟩:=(hSok.each s (getS_id hg).1).2
      have hobj:=zDs hg hdo
      have hend2:=hend.out
      rw [endS,hobj] at hend2
      simp only at hend2
      have hob2:Hid (Calls Tryz.prog 30 #[.pointer (some ⟨p,0,none⟩), .agg (u8s m)] wr fun e w'=>(∃ A1 A2 k1 k2,e = .returned (.tuple #[.agg (objC o (.slice A1 o.ents.length k1) (.slice A2 o.pars.length k2)).toArray, .bool true])∧ObjV w' (.slice A1 o.ents.length k1) (.slice A2 o.pars.length k2) o)∧Below wr.heap.size wr w'):=Lib.hid (by
       refine hob1.mono fun e w' ⟨h,hb⟩=>⟨?_,hb⟩
       unfold ObjT at h
       rw [hg] at h
       obtain ⟨o',A1,A2,k1,k2,h1,h2,h3,_⟩:=h
       rw [hdo] at h1
       injection h1 with h1
       subst h1
       exact ⟨A1,A2,k1,k2,h2,h3⟩)
      have hta:=(zD5 hobj).1.target
      clear hg hob1 hobj hdo hend
      by_cases hk4:o.kind=4
      ·rw [if_pos hk4] at hend2
       have hkb:(o.kind != 4)=false:=by simp [hk4]
       have hkb2:(o.kind==4)=true:=by simp [hk4]
       have ht32:(u8s o.target).size=32:=by rw [zAj,hta]
       have ht1:=u8s_one o.target
       replace hend2:=Lib.hid hend2
       clear hk4 hRn hRs hob
       go_wp2_with (first
        | ((with_reducible refine hob2.out.mono ?_);rintro e w4 ⟨⟨A1,A2,k1,k2,rfl,hv4⟩,hb4⟩
           have b4:=bthen hbel hbs hb4
           have z4:=hz.below hb4 hz.lt
           have i4:=hi.below hb4 hi.lt
           have hc72:(objC o (.slice A1 o.ents.length k1) (.slice A2 o.pars.length k2)).toArray.size=72:=by rw [List.size_toArray,zAv hv4.ok]
           have hcone:=zAr o A1 A2 o.ents.length k1 o.pars.length k2)
        | ((with_reducible refine lit_new 59 (.tmp 6) (.tmp 17) (objC o (.slice A1 o.ents.length k1) (.slice A2 o.pars.length k2)).toArray 72 szObj hc72 hcone _ ?_ ?_ ?_ ?_)
           ·first | exact hz72 | rfl
           ·rfl
           ·rfl
           intro W5 hb5 hbl5
           have b5:=bthen b4 b4.size hbl5
           have z5:=z4.below hbl5 z4.lt
           have i5:=i4.below hbl5 i4.lt
           have hO5:ObjB W5 w4.heap.size o (.slice A1 o.ents.length k1) (.slice A2 o.pars.length k2):=⟨hb5,hv4.ok.tree,hv4.ok.target⟩
           have hc0:=hO5.kind
           have hlt5:=zAb hO5.target hta)
        | (refine wpList_store_row rfl 46 (.tmp 3) (.tmp 29) rfl w.heap.size (u8s o.target) rfl rfl _ _ i5 (hsI _ ht32) (hm32.trans ht32.symm) ht1 ?_))
       have i6:Blk (W5.setRow w.heap.size (u8s o.target)) w.heap.size 46 (u8s o.target):=setRow_heap _ _ _ _ _ _ i5
       have z6:Blk (W5.setRow w.heap.size (u8s o.target)) B2 46 Z:=(setRow_other _ _ _ _ (by omega)).trans z5
       have b6:=zAa b5 (Nat.le_refl _) (u8s o.target)
       clear hl1 hlt5 hc0 hb5 hO5 z5 i5 z4 i4 hv4 hob2
       go_roundg f
       case rel=>exact ⟨k+1,o.target,by go_num,by omega,hend2,hta,i6,z6,b6⟩
       case measure=>omega
      ·rw [if_neg hk4] at hend2
       have hkb:(o.kind != 4)=true:=by simp [hk4]
       have hkb2:(o.kind==4)=false:=by simp [hk4]
       have hV:=hRs.out m hend2.symm
       clear hk4 hRn hRs hob hend2
       go_wp2_with (first
        | ((with_reducible refine hob2.out.mono ?_);rintro e w4 ⟨⟨A1,A2,k1,k2,rfl,hv4⟩,hb4⟩
           have b4:=bthen hbel hbs hb4
           have z4:=hz.below hb4 hz.lt
           have i4:=hi.below hb4 hi.lt
           have hc72:(objC o (.slice A1 o.ents.length k1) (.slice A2 o.pars.length k2)).toArray.size=72:=by rw [List.size_toArray,zAv hv4.ok]
           have hcone:=zAr o A1 A2 o.ents.length k1 o.pars.length k2)
        | ((with_reducible refine lit_new 59 (.tmp 6) (.tmp 17) (objC o (.slice A1 o.ents.length k1) (.slice A2 o.pars.length k2)).toArray 72 szObj hc72 hcone _ ?_ ?_ ?_ ?_)
           ·first | exact hz72 | rfl
           ·rfl
           ·rfl
           intro W5 hb5 hbl5
           have b5:=bthen b4 b4.size hbl5
           have z5:=z4.below hbl5 z4.lt
           have i5:=i4.below hbl5 i4.lt
           have hO5:ObjB W5 w4.heap.size o (.slice A1 o.ents.length k1) (.slice A2 o.pars.length k2):=⟨hb5,hv4.ok.tree,hv4.ok.target⟩
           have hc0:=hO5.kind
           have hl5:=zAb (zAi i5) hm)
        | (refine wpList_store_row rfl 46 (.tmp 4) (.tmp 27) rfl B2 (u8s m) rfl rfl _ _ z5 (hsI _ hm32) (hZ32.trans hm32.symm) hm1 ?_))
       (try rw [hV])
       refine bodyPost_ret (zAe rfl _ _ B2 _ _ _ _ rfl (setRow_heap _ _ _ _ _ _ z5) Tryz.underlying46 rfl (hsI _ hm32)) rfl ⟨rfl,zAa b5 (Nat.le_of_lt hlt12) _⟩
end
end Go.Proofs.YtbhdfaadedlcfaaGreatDoor
namespace Go.Proofs.YtbhdfaadedlcfaaGreatDoor
section
variable {α:Type} [Inhabited α]
def atQ (Q:List α) (i:Nat):α:=Q.getD i default
def swapQ (Q:List α) (i j:Nat):List α:=(Q.set i (atQ Q j)).set j (atQ Q i)
theorem atQ_get {Q:List α} {i:Nat} (h:i<Q.length):Q[i]?=some (atQ Q i):=by
 unfold atQ
 rw [List.getD_eq_getElem?_getD,List.getElem?_eq_getElem h];rfl
theorem zAW (Q:List α) (i j:Nat):(swapQ Q i j).length=Q.length:=by unfold swapQ;rw [List.length_set,List.length_set]
theorem zE5 {Q:List α} {i j:Nat} (hi:i<Q.length) (hj:j<Q.length) (k:Nat):atQ (swapQ Q i j) k=if k=j then atQ Q i else if k=i then atQ Q j else atQ Q k:=by
 unfold swapQ
 show ((Q.set i (atQ Q j)).set j (atQ Q i)).getD k default=_
 rw [List.getD_eq_getElem?_getD,List.getElem?_set]
 by_cases h1:k=j
 ·subst h1
  rw [if_pos rfl,if_pos rfl,if_pos (by rw [List.length_set];exact hj)];rfl
 ·rw [if_neg (fun e=>h1 e.symm),if_neg h1,List.getElem?_set]
  by_cases h2:k=i
  ·subst h2
   rw [if_pos rfl,if_pos rfl,if_pos hi];rfl
  ·rw [if_neg (fun e=>h2 e.symm),if_neg h2,←List.getD_eq_getElem?_getD];rfl
theorem zD4 {Q:List α} {i j:Nat} (hi:i<Q.length) (hj:j<Q.length):(swapQ Q i j).Perm Q:=by
 have h:=Array.swap_perm (xs:=Q.toArray) (i:=i) (j:=j) (by simpa using hi) (by simpa using hj)
 have e:(Q.toArray.swap i j (by simpa using hi) (by simpa using hj)).toList=swapQ Q i j:=by
  unfold swapQ
  rw [Array.swap_def]
  have e1:atQ Q j=Q[j]:=by unfold atQ;rw [List.getD_eq_getElem?_getD,List.getElem?_eq_getElem hj];rfl
  have e2:atQ Q i=Q[i]:=by unfold atQ;rw [List.getD_eq_getElem?_getD,List.getElem?_eq_getElem hi];rfl
  rw [e1,e2]
  simp
 rw [←e]
 exact h.toList
def par (c:Nat):Nat:=(c-1) / 2
structure Ord (lt:α→α→Bool):Prop where
 asymm : ∀ a b,lt a b=true→lt b a=false
 ntrans : ∀ a b c,lt a b=false→lt b c=false→lt a c=false
def HeapQ (lt:α→α→Bool) (Q:List α) (n:Nat):Prop := ∀ c,0<c→c<n→lt (atQ Q c) (atQ Q (par c))=false
def upQ (lt:α→α→Bool):Nat→List α→Nat→List α
 | 0,Q,_=>Q
 | f+1,Q,j=>if par j=j∨lt (atQ Q j) (atQ Q (par j))=false then Q else upQ lt f (swapQ Q (par j) j) (par j)
def minC (lt:α→α→Bool) (Q:List α) (i n:Nat):Nat:=if 2*i+1+1<n∧lt (atQ Q (2*i+1+1)) (atQ Q (2*i+1))=true then 2*i+1+1 else 2*i+1
def downQ (lt:α→α→Bool):Nat→List α→Nat→Nat→List α
 | 0,Q,_,_=>Q
 | f+1,Q,i,n=>if n≤2*i+1∨lt (atQ Q (minC lt Q i n)) (atQ Q i)=false then Q else downQ lt f (swapQ Q i (minC lt Q i n)) (minC lt Q i n) n
theorem par_lt {c:Nat} (h:0<c):par c<c:=by unfold par;omega
theorem upQ_len (lt:α→α→Bool) : ∀ (f:Nat) (Q:List α) (j:Nat),(upQ lt f Q j).length=Q.length
 | 0,Q,j=>rfl
 | f+1,Q,j=>by
   unfold upQ
   split
   ·rfl
   ·rw [upQ_len lt f,zAW]
theorem upQ_perm (lt:α→α→Bool) : ∀ (f:Nat) (Q:List α) (j:Nat),j<Q.length→(upQ lt f Q j).Perm Q
 | 0,Q,j,_=>List.Perm.refl _
 | f+1,Q,j,hj=>by
   unfold upQ
   split
   ·exact List.Perm.refl _
   ·have h1:par j<Q.length:=by unfold par;omega
    exact (upQ_perm lt f _ _ (by rw [zAW];exact h1)).trans (zD4 h1 hj)
theorem downQ_len (lt:α→α→Bool) : ∀ (f:Nat) (Q:List α) (i n:Nat),(downQ lt f Q i n).length=Q.length
 | 0,Q,i,n=>rfl
 | f+1,Q,i,n=>by
   unfold downQ
   split
   ·rfl
   ·rw [downQ_len lt f,zAW]
theorem minC_lt {lt:α→α→Bool} {Q:List α} {i n:Nat} (h : ¬ n≤2*i+1):minC lt Q i n<n:=by
 unfold minC;split<;>omega
theorem downQ_perm (lt:α→α→Bool) : ∀ (f:Nat) (Q:List α) (i n:Nat),i<Q.length→n≤Q.length→(downQ lt f Q i n).Perm Q
 | 0,Q,i,n,_,_=>List.Perm.refl _
 | f+1,Q,i,n,hi,hn=>by
   unfold downQ
   split
   ·exact List.Perm.refl _
   ·rename_i hc
    have h1:=minC_lt (lt:=lt) (Q:=Q) (fun h=>hc (.inl h))
    exact (downQ_perm lt f _ _ n (by rw [zAW];omega) (by rw [zAW];exact hn)).trans (zD4 hi (by omega))
theorem downQ_out (lt:α→α→Bool) : ∀ (f:Nat) (Q:List α) (i n k:Nat),i<n→n≤Q.length→n≤k→atQ (downQ lt f Q i n) k=atQ Q k
 | 0,Q,i,n,k,_,_,_=>rfl
 | f+1,Q,i,n,k,hi,hn,hk=>by
   unfold downQ
   split
   ·rfl
   ·rename_i hc
    have h1:=minC_lt (lt:=lt) (Q:=Q) (fun h=>hc (.inl h))
    rw [downQ_out lt f _ _ n k h1 (by rw [zAW];exact hn) hk,zE5 (by omega) (by omega),if_neg (by omega),if_neg (by omega)]
structure UpI (lt:α→α→Bool) (Q:List α) (n j:Nat):Prop where
 a : ∀ c,0<c→c<n→c≠j→lt (atQ Q c) (atQ Q (par c))=false
 b : ∀ c,0<c→c<n→par c=j→0<j→lt (atQ Q c) (atQ Q (par j))=false
theorem up_heap {lt:α→α→Bool} (ho:Ord lt) (n:Nat) : ∀ (f:Nat) (Q:List α) (j:Nat),n≤Q.length→j<n→j<f→UpI lt Q n j→HeapQ lt (upQ lt f Q j) n
 | 0,Q,j,_,_,h,_=>by omega
 | f+1,Q,j,hn,hj,hf,hu=>by
   unfold upQ
   split
   ·rename_i hc
    intro c h0 h1
    by_cases e:c=j
    ·rw [e] at h0 ⊢
     rcases hc with hc | hc
     ·have:=par_lt h0;omega
     ·exact hc
    ·exact hu.a c h0 h1 e
   ·rename_i hc
    have hj0:0<j:=by
     rcases Nat.eq_zero_or_pos j with e | e
     ·exact absurd (.inl (by rw [e];rfl)) hc
     ·exact e
    have hij:=par_lt hj0
    have hlt:lt (atQ Q j) (atQ Q (par j))=true:=by
     cases hb:lt (atQ Q j) (atQ Q (par j))
     ·exact absurd (.inr hb) hc
     ·rfl
    have has:=ho.asymm _ _ hlt
    have hat:=zE5 (Q:=Q) (i:=par j) (j:=j) (by omega) (by omega)
    refine up_heap ho n f _ _ (by rw [zAW];exact hn) (by omega) (by omega) ⟨fun c h0 h1 hne=>?_,fun c h0 h1 hpc hi0=>?_⟩
    ·rw [hat,hat]
     have hpc:=par_lt h0
     by_cases e1:c=j
     ·subst e1
      rw [if_pos rfl,if_neg (by omega),if_pos rfl]
      exact has
     ·rw [if_neg e1,if_neg hne]
      by_cases e2:par c=j
      ·rw [if_pos e2]
       exact hu.b c h0 h1 e2 hj0
      ·rw [if_neg e2]
       by_cases e3:par c=par j
       ·rw [if_pos e3]
        have h2:=hu.a c h0 h1 e1
        rw [e3] at h2
        exact ho.ntrans _ _ _ h2 has
       ·rw [if_neg e3]
        exact hu.a c h0 h1 e1
    ·have hpp:=par_lt hi0
     rw [hat,hat,if_neg (show ¬ par (par j)=j by omega),if_neg (show ¬ par (par j)=par j by omega)]
     have h4:=hu.a (par j) hi0 (by omega) (by omega)
     by_cases e1:c=j
     ·rw [if_pos e1];exact h4
     ·have:=par_lt h0
      rw [if_neg e1,if_neg (by omega)]
      have h2:=hu.a c h0 h1 e1
      rw [hpc] at h2
      exact ho.ntrans _ _ _ h2 h4
structure DownI (lt:α→α→Bool) (Q:List α) (n i:Nat):Prop where
 a : ∀ c,0<c→c<n→par c≠i→lt (atQ Q c) (atQ Q (par c))=false
 b : ∀ c,0<c→c<n→par c=i→0<i→lt (atQ Q c) (atQ Q (par i))=false
theorem minC_least {lt:α→α→Bool} (ho:Ord lt) {Q:List α} {i n:Nat} {c:Nat} (h0:0<c) (h1:c<n) (hp:par c=i):c=minC lt Q i n∨lt (atQ Q c) (atQ Q (minC lt Q i n))=false:=by
 have hc:c=2*i+1∨c=2*i+1+1:=by unfold par at hp;omega
 unfold minC
 split
 ·rename_i h
  rcases hc with rfl | rfl
  ·exact .inr (ho.asymm _ _ h.2)
  ·exact .inl rfl
 ·rename_i h
  rcases hc with rfl | rfl
  ·exact .inl rfl
  ·refine .inr ?_
   cases hb:lt (atQ Q (2*i+1+1)) (atQ Q (2*i+1))
   ·rfl
   ·exact absurd ⟨h1,hb⟩ h
theorem minC_par (lt:α→α→Bool) (Q:List α) (i n:Nat):par (minC lt Q i n)=i∧i<minC lt Q i n:=by
 unfold minC par
 split<;>omega
theorem down_heap {lt:α→α→Bool} (ho:Ord lt) (n:Nat) : ∀ (f:Nat) (Q:List α) (i:Nat),n≤Q.length→i<n→n≤i+f→DownI lt Q n i→HeapQ lt (downQ lt f Q i n) n
 | 0,Q,i,_,hi,h,_=>by omega
 | f+1,Q,i,hn,hi,hf,hu=>by
   unfold downQ
   split
   ·rename_i hc
    intro c h0 h1
    by_cases e:par c=i
    ·rcases hc with hc | hc
     ·unfold par at e;omega
     ·rw [e]
      rcases minC_least ho h0 h1 e (Q:=Q) with h2 | h2
      ·rw [h2];exact hc
      ·exact ho.ntrans _ _ _ h2 hc
    ·exact hu.a c h0 h1 e
   ·rename_i hc
    have h1:=minC_lt (lt:=lt) (Q:=Q) (fun h=>hc (.inl h))
    obtain ⟨hp,hlt2⟩:=minC_par lt Q i n
    have hml:=fun c h0 h1 hp=>minC_least ho (Q:=Q) (i:=i) (n:=n) (c:=c) h0 h1 hp
    have hlt:lt (atQ Q (minC lt Q i n)) (atQ Q i)=true:=by
     cases hb:lt (atQ Q (minC lt Q i n)) (atQ Q i)
     ·exact absurd (.inr hb) hc
     ·rfl
    generalize minC lt Q i n=j at *
    have has:=ho.asymm _ _ hlt
    have hat:=zE5 (Q:=Q) (i:=i) (j:=j) (by omega) (by omega)
    refine down_heap ho n f _ _ (by rw [zAW];exact hn) h1 (by omega) ⟨fun c h0 hc1 hne=>?_,fun c h0 hc1 hpc hj0=>?_⟩
    ·have hpc:=par_lt h0
     rw [hat,hat,if_neg (show ¬ par c=j from hne)]
     by_cases e1:par c=i
     ·rw [if_pos e1]
      by_cases e2:c=j
      ·rw [if_pos e2];exact has
      ·rw [if_neg e2,if_neg (by omega)]
       exact (hml c h0 hc1 e1).resolve_left e2
     ·rw [if_neg e1]
      by_cases e2:c=j
      ·rw [e2] at e1;exact absurd hp e1
      ·rw [if_neg e2]
       by_cases e3:c=i
       ·subst e3
        rw [if_pos rfl]
        exact hu.b j (by omega) h1 hp h0
       ·rw [if_neg e3]
        exact hu.a c h0 hc1 e1
    ·have:=par_lt h0
     rw [hat,hat,hp,if_neg (show ¬ c=j by omega),if_neg (show ¬ c=i by omega),if_neg (show ¬ i=j by omega),if_pos rfl]
     have h2:=hu.a c h0 hc1 (by omega)
     rwa [hpc] at h2
theorem heap_root {lt:α→α→Bool} (ho:Ord lt) {Q:List α} {n:Nat} (h:HeapQ lt Q n) (hirr:lt (atQ Q 0) (atQ Q 0)=false) : ∀ (f c:Nat),c<f→c<n→lt (atQ Q c) (atQ Q 0)=false
 | 0,c,hc,_=>by omega
 | f+1,c,hc,hn=>by
   rcases Nat.eq_zero_or_pos c with rfl | h0
   ·exact hirr
   ·have hp:=par_lt h0
    exact ho.ntrans _ _ _ (h c h0 hn) (heap_root ho h hirr f (par c) (by omega) (by omega))
theorem heap_push {lt:α→α→Bool} (ho:Ord lt) {Q:List α} (h:HeapQ lt Q Q.length) (x:α):HeapQ lt (upQ lt (Q.length+1) (Q++[x]) Q.length) (Q.length+1)∧(upQ lt (Q.length+1) (Q++[x]) Q.length).Perm (Q++[x]):=by
 have hl:(Q++[x]).length=Q.length+1:=by rw [List.length_append];rfl
 have hat : ∀ c,c<Q.length→atQ (Q++[x]) c=atQ Q c:=fun c hc=>by unfold atQ;rw [List.getD_eq_getElem?_getD,List.getD_eq_getElem?_getD,List.getElem?_append_left hc]
 refine ⟨up_heap ho (Q.length+1) _ _ _ (by omega) (by omega) (by omega) ⟨fun c h0 h1 hne=>?_,fun c h0 h1 hpc _=>?_⟩,upQ_perm lt _ _ _ (by omega)⟩
 ·have:=par_lt h0
  rw [hat c (by omega),hat (par c) (by omega)]
  exact h c h0 (by omega)
 ·have:=par_lt h0;omega
theorem heap_pop {lt:α→α→Bool} (ho:Ord lt) {Q:List α} {n:Nat} (hl:Q.length=n+1) (h:HeapQ lt Q Q.length):HeapQ lt (downQ lt (n+1) (swapQ Q 0 n) 0 n) n∧atQ (downQ lt (n+1) (swapQ Q 0 n) 0 n) n=atQ Q 0∧(downQ lt (n+1) (swapQ Q 0 n) 0 n).Perm Q∧(downQ lt (n+1) (swapQ Q 0 n) 0 n).length=n+1:=by
 have hs:(swapQ Q 0 n).length=n+1:=by rw [zAW,hl]
 have hat:=zE5 (Q:=Q) (i:=0) (j:=n) (by omega) (by omega)
 have hpm:=zD4 (Q:=Q) (i:=0) (j:=n) (by omega) (by omega)
 rcases Nat.eq_zero_or_pos n with rfl | hn
 ·refine ⟨fun c h0 h1=>by omega,?_,?_,by rw [downQ_len,hs]⟩
  ·have:downQ lt (0+1) (swapQ Q 0 0) 0 0=swapQ Q 0 0:=by unfold downQ;rw [if_pos (.inl (by omega))]
   rw [this,hat,if_pos rfl]
  ·have:downQ lt (0+1) (swapQ Q 0 0) 0 0=swapQ Q 0 0:=by unfold downQ;rw [if_pos (.inl (by omega))]
   rw [this];exact hpm
 ·refine ⟨down_heap ho n _ _ _ (by omega) hn (by omega) ⟨fun c h0 h1 hne=>?_,fun c _ _ _ h=>by omega⟩,?_,(downQ_perm lt _ _ _ _ (by omega) (by omega)).trans hpm,by rw [downQ_len,hs]⟩
  ·have:=par_lt h0
   rw [hat,hat,if_neg (show ¬ c=n by omega),if_neg (show ¬ c=0 by omega),if_neg (show ¬ par c=n by omega),if_neg (show ¬ par c=0 from hne)]
   exact h c h0 (by omega)
  ·rw [downQ_out lt _ _ _ n n hn (by omega) (Nat.le_refl _),hat,if_pos rfl]
end
end Go.Proofs.YtbhdfaadedlcfaaGreatDoor
namespace Go.Proofs.YtbhdfaadedlcfaaGreatDoor
open Go.RowKit
section
theorem objC_at {o:ObjL} (h:o.tree.length=32) (ve vp:Value):(objC o ve vp)[35]?=some vp∧(objC o ve vp)[36]?=some (.int .u32 o.time):=by
 have e:objC o ve vp=(.int .i64 o.kind :: .string (B o.data)::ve::(u8s o.tree).toList)++(vp :: .int .u32 o.time :: .string (B o.text)::((u8s o.target).toList++[.int .i64 o.of_, .string (B o.name)])):=by simp [objC]
 have hl:(Value.int .i64 o.kind :: .string (B o.data)::ve::(u8s o.tree).toList).length=35:=by simp [zAj,h]
 rw [e]
 constructor
 ·rw [List.getElem?_append_right (by omega),hl];rfl
 ·rw [List.getElem?_append_right (by omega),hl];rfl
def aheadL (x y:Nat) (a b:Txt):Bool:=if x=y then Op.bytesLess a b else decide (y<x)
theorem ahead_asymm {x y:Nat} {a b:Txt} (h:aheadL x y a b=true):aheadL y x b a=false:=by
 unfold aheadL at h ⊢
 by_cases e:x=y
 ·rw [if_pos e] at h
  rw [if_pos e.symm]
  exact zCl h
 ·rw [if_neg e] at h
  rw [if_neg fun h=>e h.symm]
  have:=of_decide_eq_true h
  exact decide_eq_false (by omega)
theorem less_ntrans {a b c:Txt} (h1:Op.bytesLess a b=false) (h2:Op.bytesLess b c=false):Op.bytesLess a c=false:=by
 cases hac:Op.bytesLess a c with
 | false=>rfl
 | true=>
   by_cases e:a=b
   ·rw [e,h2] at hac;cases hac
   ·rw [zBB (zBg h1 e) hac] at h2;cases h2
theorem zCL {x y z:Nat} {a b c:Txt} (h1:aheadL x y a b=false) (h2:aheadL y z b c=false):aheadL x z a c=false:=by
 unfold aheadL at h1 h2 ⊢
 by_cases e1:x=y
 ·subst e1
  rw [if_pos rfl] at h1
  by_cases e2:x=z
  ·rw [if_pos e2] at h2 ⊢
   exact less_ntrans h1 h2
  ·rw [if_neg e2] at h2 ⊢
   exact h2
 ·rw [if_neg e1] at h1
  have h1:=of_decide_eq_false h1
  by_cases e2:y=z
  ·subst e2
   rw [if_neg e1]
   exact decide_eq_false h1
  ·rw [if_neg e2] at h2
   have h2:=of_decide_eq_false h2
   rw [if_neg (by omega)]
   exact decide_eq_false (by omega)
theorem ahead_one {x y:Nat} {a b:Txt} (h1:aheadL x y a b=false) (h2:aheadL y x b a=false):a=b:=by
 unfold aheadL at h1 h2
 by_cases e:x=y
 ·rw [if_pos e] at h1
  rw [if_pos e.symm] at h2
  by_cases hab:a=b
  ·exact hab
  ·rw [zBg h1 hab] at h2;cases h2
 ·rw [if_neg e] at h1
  rw [if_neg fun h=>e h.symm] at h2
  have h1:=of_decide_eq_false h1
  have h2:=of_decide_eq_false h2
  omega
theorem ahead_ord {α:Type} [Inhabited α] (t:α→Nat) (f:α→Txt):Ord fun a b=>aheadL (t a) (t b) (f a) (f b):=⟨fun _ _ h=>ahead_asymm h,fun _ _ _ h1 h2=>zCL h1 h2⟩
def timeS (S:List StL) (n:Txt):Nat:=match objS S n with
 | some o=>o.time
 | none=>0
def parS (S:List StL) (n:Txt):List Txt:=match objS S n with
 | some o=>o.pars
 | none=>[]
def aheadS (S:List StL) (a b:Txt):Bool:=aheadL (timeS S a) (timeS S b) a b
theorem zC5 (S:List StL) (a:Txt):aheadS S a a=false:=by
 unfold aheadS aheadL
 rw [if_pos rfl]
 exact zBn a
def pickB (S:List StL) (b:Option Txt) (x:Txt):Option Txt:=match b with
 | none=>some x
 | some y=>if aheadS S x y=true then some x else some y
section
variable {S:List StL} {cut:List Txt}
theorem pick_some (b:Option Txt) (x:Txt) : ∃ z,pickB S b x=some z∧(z=x∨b=some z)∧aheadS S x z=false ∧ ∀ m,b=some m→aheadS S m z=false:=by
 cases b with
 | none=>exact ⟨x,rfl, .inl rfl,zC5 S x,fun m h=>by cases h⟩
 | some y=>
   cases h:aheadS S x y with
   | true=>exact ⟨x,by unfold pickB;simp [h], .inl rfl,zC5 S x,fun m hm=>by cases hm;exact ahead_asymm h⟩
   | false=>exact ⟨y,by unfold pickB;simp [h], .inr rfl,h,fun m hm=>by cases hm;exact zC5 S y⟩
theorem pick_fold : ∀ (L:List Txt) (b:Option Txt),(L.foldl (pickB S) b=none→L=[]∧b=none) ∧ ∀ n,L.foldl (pickB S) b=some n→(n∈L∨b=some n)∧(∀ m∈L,aheadS S m n=false) ∧ ∀ m,b=some m→aheadS S m n=false
 | [],b=>⟨fun h=>⟨rfl,h⟩,fun n h=>⟨.inr h,fun m hm=>by simp at hm,fun m hm=>by
    have h:b=some n:=h
    rw [h] at hm;cases hm;exact zC5 S n⟩⟩
 | x::L,b=>by
   obtain ⟨z,hz,h1,h2,h3⟩:=pick_some (S:=S) b x
   obtain ⟨i1,i2⟩:=pick_fold L (some z)
   refine ⟨fun h=>?_,fun n h=>?_⟩
   ·rw [List.foldl_cons,hz] at h
    exact absurd (i1 h).2 (by simp)
   ·rw [List.foldl_cons,hz] at h
    obtain ⟨j1,j2,j3⟩:=i2 n h
    have hzn:=j3 z rfl
    refine ⟨?_,fun m hm=>?_,fun m hm=>zCL (h3 m hm) hzn⟩
    ·rcases j1 with j1 | j1
     ·exact .inl (List.mem_cons_of_mem _ j1)
     ·cases j1
      rcases h1 with h1 | h1
      ·rw [h1];exact .inl List.mem_cons_self
      ·exact .inr h1
    ·rcases List.mem_cons.1 hm with rfl | hm
     ·exact zCL h2 hzn
     ·exact j2 m hm
def leftW (seen out:List Txt):List Txt:=seen.filter fun x => !inL out x
def bestT (S:List StL) (seen out:List Txt):Option Txt:=(leftW seen out).foldl (pickB S) none
theorem best_none {seen out:List Txt} (h:bestT S seen out=none):leftW seen out=[]:=((pick_fold _ _).1 h).1
theorem best_some {seen out:List Txt} {n:Txt} (h:bestT S seen out=some n):n∈leftW seen out ∧ ∀ m∈leftW seen out,aheadS S m n=false:=by
 obtain ⟨h1,h2,_⟩:=(pick_fold _ _).2 n h
 exact ⟨h1.elim id fun h=>(by cases h),h2⟩
theorem best_one {seen out:List Txt} {n:Txt} (hn:n∈leftW seen out) (hm : ∀ m∈leftW seen out,aheadS S m n=false):bestT S seen out=some n:=by
 cases hb:bestT S seen out with
 | none=>rw [best_none hb] at hn;simp at hn
 | some z=>
   obtain ⟨h1,h2⟩:=best_some hb
   rw [ahead_one (hm z h1) (h2 n hn)]
theorem zES {seen out:List Txt} {x:Txt}:x∈leftW seen out↔x∈seen∧x ∉ out:=by
 unfold leftW
 rw [List.mem_filter]
 constructor
 ·rintro ⟨h1,h2⟩
  refine ⟨h1,fun h=>?_⟩
  rw [inL_iff.2 h] at h2
  cases h2
 ·rintro ⟨h1,h2⟩
  refine ⟨h1,?_⟩
  cases hi:inL out x with
  | false=>rfl
  | true=>exact absurd (inL_iff.1 hi) h2
def offerS (S:List StL) (seen:List Txt) (p:Txt):List Txt:=if (!inL seen p&&kindS S p==3)=true then seen++[p] else seen
def offerL (S:List StL) (seen l:List Txt):List Txt:=l.foldl (offerS S) seen
theorem offerL_more {seen l:List Txt} {k:Nat} {x:Txt} (h:l[k]?=some x):offerL S seen (l.take (k+1))=offerS S (offerL S seen (l.take k)) x:=by
 unfold offerL
 rw [List.take_add_one,h,List.foldl_append]
 rfl
def offerE (S:List StL) (seen:List Txt) (x:Txt):List Txt:=match endS S (S.length+1) x with
 | some e=>offerS S seen e
 | none=>seen
def endsL (S:List StL) (l:List Txt):List Txt:=l.foldl (offerE S) []
theorem endsL_more {l:List Txt} {k:Nat} {x:Txt} (h:l[k]?=some x):endsL S (l.take (k+1))=offerE S (endsL S (l.take k)) x:=by
 unfold endsL
 rw [List.take_add_one,h,List.foldl_append]
 rfl
def walkW (S:List StL) (cut:List Txt):Nat→List Txt→List Txt→List Txt
 | 0,_,out=>out
 | f+1,seen,out=>match bestT S seen out with
   | none=>out
   | some n=>walkW S cut f (if inL cut n=true then seen else offerL S seen (parS S n)) (out++[n])
def walkS (S:List StL) (cut ini:List Txt):List Txt:=walkW S cut (S.length+1) (endsL S ini) []
theorem walk_stop {f:Nat} {seen out:List Txt} (h:bestT S seen out=none):walkW S cut f seen out=out:=by
 cases f with
 | zero=>rfl
 | succ f=>unfold walkW;rw [h]
theorem walkW_go {f:Nat} {seen out:List Txt} {n:Txt} (h:bestT S seen out=some n):walkW S cut (f+1) seen out=walkW S cut f (if inL cut n=true then seen else offerL S seen (parS S n)) (out++[n]):=by
 rw [walkW,h]
structure WalkI (S:List StL) (seen out:List Txt):Prop where
 nd:seen.Nodup
 k3 : ∀ x∈seen,kindS S x=3
 sub : ∀ x∈out,x∈seen
 ndo:out.Nodup
theorem zD9 {seen:List Txt} (hn:seen.Nodup) (hk : ∀ x∈seen,kindS S x=3) (p:Txt):(offerS S seen p).Nodup∧(∀ x∈offerS S seen p,kindS S x=3)∧(∀ x∈seen,x∈offerS S seen p) ∧ ∀ x∈offerS S seen p,x∈seen∨x=p:=by
 unfold offerS
 split
 ·rename_i h
  rw [Bool.and_eq_true] at h
  have h1:inL seen p=false:=by simpa using h.1
  have h2:kindS S p=3:=by simpa using h.2
  refine ⟨zCw hn h1,fun x hx=>?_,fun x hx=>List.mem_append_left _ hx,fun x hx=>?_⟩
  ·rcases List.mem_append.1 hx with hx | hx
   ·exact hk x hx
   ·rw [List.mem_singleton.1 hx];exact h2
  ·rcases List.mem_append.1 hx with hx | hx
   ·exact .inl hx
   ·exact .inr (List.mem_singleton.1 hx)
 ·exact ⟨hn,hk,fun x hx=>hx,fun x hx => .inl hx⟩
theorem zCq : ∀ (l:List Txt) {seen:List Txt},seen.Nodup→(∀ x∈seen,kindS S x=3)→(offerL S seen l).Nodup∧(∀ x∈offerL S seen l,kindS S x=3)∧(∀ x∈seen,x∈offerL S seen l) ∧ ∀ x∈offerL S seen l,x∈seen∨x∈l
 | [],seen,hn,hk=>⟨hn,hk,fun x hx=>hx,fun x hx => .inl hx⟩
 | p::l,seen,hn,hk=>by
   obtain ⟨a1,a2,a3,a4⟩:=zD9 hn hk p
   obtain ⟨b1,b2,b3,b4⟩:=zCq l a1 a2
   refine ⟨b1,b2,fun x hx=>b3 x (a3 x hx),fun x hx=>?_⟩
   rcases b4 x hx with h | h
   ·rcases a4 x h with h | h
    ·exact .inl h
    ·rw [h];exact .inr List.mem_cons_self
   ·exact .inr (List.mem_cons_of_mem _ h)
theorem endsL_law : ∀ (l:List Txt) {seen:List Txt},seen.Nodup→(∀ x∈seen,kindS S x=3)→(l.foldl (offerE S) seen).Nodup∧(∀ x∈l.foldl (offerE S) seen,kindS S x=3) ∧ ∀ x∈seen,x∈l.foldl (offerE S) seen
 | [],seen,hn,hk=>⟨hn,hk,fun x hx=>hx⟩
 | p::l,seen,hn,hk=>by
   have h:(offerE S seen p).Nodup∧(∀ x∈offerE S seen p,kindS S x=3) ∧ ∀ x∈seen,x∈offerE S seen p:=by
    unfold offerE
    cases endS S (S.length+1) p with
    | none=>exact ⟨hn,hk,fun x hx=>hx⟩
    | some e=>
      obtain ⟨a1,a2,a3,_⟩:=zD9 hn hk e
      exact ⟨a1,a2,a3⟩
   obtain ⟨b1,b2,b3⟩:=endsL_law l h.1 h.2.1
   exact ⟨b1,b2,fun x hx=>b3 x (h.2.2 x hx)⟩
theorem WalkI.start (l:List Txt):WalkI S (endsL S l) []:=by
 obtain ⟨h1,h2,_⟩:=endsL_law (S:=S) l (seen:=[]) List.nodup_nil (fun x hx=>by simp at hx)
 exact ⟨h1,h2,fun x hx=>by simp at hx,List.nodup_nil⟩
theorem WalkI.step {seen out:List Txt} (h:WalkI S seen out) {n:Txt} (hn:n∈leftW seen out):WalkI S (if inL cut n=true then seen else offerL S seen (parS S n)) (out++[n]):=by
 obtain ⟨h1,h2⟩:=zES.1 hn
 have hnd:(out++[n]).Nodup:=zCw h.ndo (by
  cases hi:inL out n with
  | false=>rfl
  | true=>exact absurd (inL_iff.1 hi) h2)
 have hsub : ∀ x∈out++[n],x∈seen:=fun x hx=>by
  rcases List.mem_append.1 hx with hx | hx
  ·exact h.sub x hx
  ·rw [List.mem_singleton.1 hx];exact h1
 split
 ·exact ⟨h.nd,h.k3,hsub,hnd⟩
 ·obtain ⟨a1,a2,a3,_⟩:=zCq (S:=S) (parS S n) h.nd h.k3
  exact ⟨a1,a2,fun x hx=>a3 x (hsub x hx),hnd⟩
theorem zCR {x:Txt} (h:kindS S x=3):x∈S.map StL.id:=by
 refine isS_mem ?_
 unfold kindS at h
 unfold isS objS
 cases hg:getS S x with
 | none=>rw [hg] at h;simp at h
 | some s=>
   rw [hg] at h
   simp only at h ⊢
   cases hd:decO s.text with
   | none=>rw [hd] at h;simp at h
   | some o=>rfl
theorem WalkI.len {seen out:List Txt} (h:WalkI S seen out):seen.length≤S.length∧out.length≤S.length:=by
 have h1:=zBK h.nd (m:=S.map StL.id) fun x hx=>zCR (h.k3 x hx)
 have h2:=zBK h.ndo (m:=S.map StL.id) fun x hx=>zCR (h.k3 x (h.sub x hx))
 rw [List.length_map] at h1 h2
 exact ⟨h1,h2⟩
end
end
section
attribute [local go_sem ↓] ldvI_eq ldvS_eq
section
variable {w:World} {vm:Value} {es:List DiL}
theorem run_field_pars {X:Array Value} {v:Value} (h:X[35]?=some v) (W:World):(Instr.field 59 (.agg X) 4).run Tryz.prog W = .ok v W:=by
 unfold Instr.field
 simp [run_underlying Tryz.underlying59,part,asAgg,isAgg,h]
end
end
section
structure DpL where
 id:Txt
 n:Nat
def addD (S:List StL) (n:Nat) (D:List DpL) (x:Txt):List DpL:=if (!inL (D.map DpL.id) x&&kindS S x==3)=true then D++[⟨x,n⟩] else D
def addL (S:List StL) (n:Nat) (D:List DpL) (l:List Txt):List DpL:=l.foldl (addD S n) D
def nextP (S:List StL) (D:List DpL) (a:Nat):List Txt:=(D.drop a).flatMap fun p=>parS S p.id
def levQ (S:List StL) (most:Nat):Nat→List DpL→List Txt→Nat→List DpL
 | 0,D,_,_=>D
 | f+1,D,ids,n=>if n≤most∧ids≠[] then levQ S most f (addL S n D ids) (nextP S (addL S n D ids) D.length) (n+1) else D
def docQ (S:List StL) (most:Nat):Nat→Nat→List DpL→List DpL
 | 0,_,D=>D
 | f+1,i,D=>match D[i]? with
   | none=>D
   | some p=>docQ S most f (i+1) (if p.n<most then addL S (p.n+1) D (parS S p.id) else D)
structure DptI (S:List StL) (D:List DpL):Prop where
 nd:(D.map DpL.id).Nodup
 k3 : ∀ p∈D,kindS S p.id=3
section
variable {S:List StL} {D:List DpL} {n most:Nat}
theorem DptI.nil : DptI S []:=⟨List.nodup_nil,fun p hp=>by cases hp⟩
theorem DptI.len (h:DptI S D):D.length≤S.length:=by
 have:=zBK h.nd (m:=S.map StL.id) fun x hx=>by
  obtain ⟨p,hp,rfl⟩:=List.mem_map.1 hx
  exact zCR (h.k3 p hp)
 rwa [List.length_map,List.length_map] at this
theorem addD_ext (S:List StL) (n:Nat) (D:List DpL) (x:Txt) : ∃ new,addD S n D x=D++new ∧ ∀ p∈new,p.n=n:=by
 unfold addD
 split
 ·exact ⟨_,rfl,fun p hp=>by rw [List.mem_singleton.1 hp]⟩
 ·exact ⟨[],(List.append_nil _).symm,fun p hp=>by cases hp⟩
theorem zCA (S:List StL) (n:Nat) : ∀ (l:List Txt) (D:List DpL), ∃ new,addL S n D l=D++new ∧ ∀ p∈new,p.n=n
 | [],D=>⟨[],(List.append_nil _).symm,fun p hp=>by cases hp⟩
 | x::l,D=>by
   obtain ⟨n1,h1,h2⟩:=addD_ext S n D x
   obtain ⟨n2,h3,h4⟩:=zCA S n l (addD S n D x)
   refine ⟨n1++n2,?_,fun p hp=>(List.mem_append.1 hp).elim (h2 p) (h4 p)⟩
   show addL S n (addD S n D x) l=_
   rw [h3,h1,List.append_assoc]
theorem addL_app (S:List StL) (n:Nat) (D:List DpL) (a b:List Txt):addL S n D (a++b)=addL S n (addL S n D a) b:=by
 unfold addL;rw [List.foldl_append]
theorem addD_I (h:DptI S D) (x:Txt):DptI S (addD S n D x):=by
 unfold addD
 split
 ·rename_i hc
  rw [Bool.and_eq_true] at hc
  have h1:inL (D.map DpL.id) x=false:=by simpa using hc.1
  have h2:kindS S x=3:=by simpa using hc.2
  refine ⟨?_,fun p hp=>?_⟩
  ·rw [List.map_append];exact zCw h.nd h1
  ·rcases List.mem_append.1 hp with hp | hp
   ·exact h.k3 p hp
   ·rw [List.mem_singleton.1 hp];exact h2
 ·exact h
theorem addL_I : ∀ (l:List Txt) {D:List DpL},DptI S D→DptI S (addL S n D l)
 | [],_,h=>h
 | x::l,_,h=>addL_I l (addD_I h x)
theorem addL_more {l:List Txt} {k:Nat} {x:Txt} (h:l[k]?=some x):addL S n D (l.take (k+1))=addD S n (addL S n D (l.take k)) x:=by
 unfold addL
 rw [List.take_add_one,h,List.foldl_append]
 rfl
theorem doc_end {f i:Nat} (h:D.length≤i):docQ S most f i D=D:=by
 cases f with
 | zero=>rfl
 | succ f=>unfold docQ;rw [List.getElem?_eq_none h]
theorem doc_go {f i:Nat} {p:DpL} (h:D[i]?=some p):docQ S most (f+1) i D=docQ S most f (i+1) (if p.n<most then addL S (p.n+1) D (parS S p.id) else D):=by
 rw [docQ,h]
theorem doc_chunk (hn:n<most) : ∀ (c:List DpL) (g a:Nat) (D:List DpL),(∀ j,j<c.length→D[a+j]?=c[j]?)→(∀ p∈c,p.n=n)→docQ S most (g+c.length) a D=docQ S most g (a+c.length) (addL S (n+1) D (c.flatMap fun p=>parS S p.id))
 | [],g,a,D,_,_=>rfl
 | p::c,g,a,D,hc,hp=>by
   have h0:D[a]?=some p:=hc 0 (by simp)
   have hpn:=hp p List.mem_cons_self
   obtain ⟨new,h1,_⟩:=zCA S (n+1) (parS S p.id) D
   rw [List.length_cons,←Nat.add_assoc,doc_go h0,hpn,if_pos hn,doc_chunk hn c g (a+1) _ (fun j hj=>?_) (fun q hq=>hp q (List.mem_cons_of_mem _ hq)),List.flatMap_cons,addL_app,show a+1+c.length=a+(c.length+1) by omega]
   have h2:=hc (j+1) (by rw [List.length_cons];omega)
   have hlt:a+(j+1)<D.length:=by
    rcases Nat.lt_or_ge (a+(j+1)) D.length with h | h
    ·exact h
    ·rw [List.getElem?_eq_none h,List.getElem?_cons_succ,List.getElem?_eq_getElem hj] at h2
     cases h2
   rw [h1,show a+1+j=a+(j+1) by omega,List.getElem?_append_left hlt,h2,List.getElem?_cons_succ]
theorem doc_last : ∀ (c:List DpL) (g a:Nat) (D:List DpL),(∀ j,j<c.length→D[a+j]?=c[j]?)→(∀ p∈c,p.n=most)→docQ S most (g+c.length) a D=docQ S most g (a+c.length) D
 | [],g,a,D,_,_=>rfl
 | p::c,g,a,D,hc,hp=>by
   have h0:D[a]?=some p:=hc 0 (by simp)
   have hpn:=hp p List.mem_cons_self
   rw [List.length_cons,←Nat.add_assoc,doc_go h0,hpn,if_neg (by omega),doc_last c g (a+1) _ (fun j hj=>?_) (fun q hq=>hp q (List.mem_cons_of_mem _ hq)),show a+1+c.length=a+(c.length+1) by omega]
   have h2:=hc (j+1) (by rw [List.length_cons];omega)
   rw [show a+1+j=a+(j+1) by omega,h2,List.getElem?_cons_succ]
theorem drop_atD (D:List DpL) (a:Nat) : ∀ j,j<(D.drop a).length→D[a+j]?=(D.drop a)[j]?:=fun j _=>by rw [List.getElem?_drop]
theorem doc_over {a g:Nat} (hI:DptI S D) (ha:a≤D.length) (hn : ∀ p∈D.drop a,p.n=n) (hm:n≤most) (hg:g+a=S.length+1) (h:n=most∨nextP S D a=[]):docQ S most g a D=D:=by
 have hl:=hI.len
 have hdl:(D.drop a).length=D.length-a:=List.length_drop
 obtain ⟨g',rfl⟩ : ∃ g',g=g'+(D.drop a).length:=⟨g-(D.drop a).length,by omega⟩
 rcases Nat.lt_or_ge n most with hlt | hge
 ·have he:nextP S D a=[]:=h.resolve_left (by omega)
  rw [doc_chunk hlt _ g' a D (drop_atD D a) hn]
  show docQ S most g' _ (addL S (n+1) D (nextP S D a))=D
  rw [he]
  show docQ S most g' _ D=D
  exact doc_end (by omega)
 ·obtain rfl:n=most:=by omega
  rw [doc_last _ g' a D (drop_atD D a) hn]
  exact doc_end (by omega)
theorem lev_doc : ∀ (f:Nat) {D:List DpL} {a n g:Nat},DptI S D→a≤D.length→(∀ p∈D.drop a,p.n=n)→n≤most→(nextP S D a=[]∨S.length+1≤f+D.length)→g+a=S.length+1→levQ S most f D (nextP S D a) (n+1)=docQ S most g a D
 | 0,D,a,n,g,hI,ha,hn,hm,hf,hg=>by
   have hl:=hI.len
   exact (doc_over hI ha hn hm hg (.inr (hf.resolve_right (by omega)))).symm
 | f+1,D,a,n,g,hI,ha,hn,hm,hf,hg=>by
   have hl:=hI.len
   unfold levQ
   by_cases hc:n+1≤most∧nextP S D a≠[]
   ·rw [if_pos hc]
    obtain ⟨new,h1,h2⟩:=zCA S (n+1) (nextP S D a) D
    have hI2:DptI S (addL S (n+1) D (nextP S D a)):=addL_I _ hI
    have hdr:(addL S (n+1) D (nextP S D a)).drop D.length=new:=by rw [h1];simp
    have hl2:(addL S (n+1) D (nextP S D a)).length=D.length+new.length:=by rw [h1,List.length_append]
    have hdl:(D.drop a).length=D.length-a:=List.length_drop
    have hfs:=hf.resolve_left hc.2
    rw [lev_doc f (a:=D.length) (n:=n+1) (g:=g-(D.drop a).length) hI2 (by omega) (by rw [hdr];exact h2) hc.1 ?_ (by omega)]
    ·obtain ⟨g',rfl⟩ : ∃ g',g=g'+(D.drop a).length:=⟨g-(D.drop a).length,by omega⟩
     rw [doc_chunk (n:=n) (by omega) _ g' a D (drop_atD D a) hn,Nat.add_sub_cancel,hdl,show a+(D.length-a)=D.length by omega]
     rfl
    ·cases hnw:new with
     | nil=>
       left
       show List.flatMap (fun p=>parS S p.id) ((addL S (n+1) D (nextP S D a)).drop D.length)=[]
       rw [hdr,hnw];rfl
     | cons q r=>
       right
       rw [hl2,hnw,List.length_cons];omega
   ·rw [if_neg hc]
    refine (doc_over hI ha hn hm hg ?_).symm
    by_cases h:n+1≤most
    ·right
     by_cases h2:nextP S D a=[]
     ·exact h2
     ·exact absurd ⟨h,h2⟩ hc
    ·left;omega
def depS (S:List StL) (most:Nat) (ends:List Txt):List DpL:=docQ S most (S.length+1) 0 (addL S 1 [] ends)
theorem dep_lev (hm:1≤most) (ends:List Txt):levQ S most (S.length+2) [] ends 1=depS S most ends:=by
 unfold depS
 unfold levQ
 by_cases he:ends=[]
 ·rw [if_neg (fun h=>h.2 he),he]
  exact (doc_end (Nat.zero_le _)).symm
 ·rw [if_pos ⟨hm,he⟩]
  obtain ⟨new,h1,h2⟩:=zCA S 1 ends []
  rw [List.nil_append] at h1
  exact lev_doc (S.length+1) (a:=0) (n:=1) (addL_I _ DptI.nil) (Nat.zero_le _) (by rw [List.drop_zero,h1];exact h2) hm (.inr (by omega)) (by omega)
theorem doc_I : ∀ (f i:Nat) {D:List DpL},DptI S D→DptI S (docQ S most f i D)
 | 0,i,D,h=>h
 | f+1,i,D,h=>by
   cases hp:D[i]? with
   | none=>rw [doc_end (List.getElem?_eq_none_iff.1 hp)];exact h
   | some p=>
     rw [doc_go hp]
     refine doc_I f (i+1) ?_
     split
     ·exact addL_I _ h
     ·exact h
theorem depS_I (S:List StL) (most:Nat) (ends:List Txt):DptI S (depS S most ends):=doc_I _ _ (addL_I _ DptI.nil)
def endsM (S:List StL) (l:List Txt):List Txt:=l.filterMap (endS S (S.length+1))
theorem endsM_more {l:List Txt} {k:Nat} {x:Txt} (h:l[k]?=some x):endsM S (l.take (k+1))=endsM S (l.take k)++(match endS S (S.length+1) x with | some e=>[e] | none=>[]):=by
 unfold endsM
 rw [List.take_add_one,h,List.filterMap_append]
 congr 1
 show List.filterMap _ [x]=_
 cases he:endS S (S.length+1) x<;>simp [he]
theorem addD_ids (D:List DpL) (x:Txt):(addD S n D x).map DpL.id=offerS S (D.map DpL.id) x:=by
 unfold addD offerS
 split<;>simp
theorem addL_ends : ∀ (l:List Txt) (D:List DpL),(addL S n D (endsM S l)).map DpL.id=l.foldl (offerE S) (D.map DpL.id)
 | [],D=>rfl
 | x::l,D=>by
   have hx:endsM S (x::l)=(match endS S (S.length+1) x with | some e=>[e] | none=>[])++endsM S l:=by
    unfold endsM
    cases he:endS S (S.length+1) x<;>simp [List.filterMap_cons,he]
   rw [hx,addL_app,addL_ends l,List.foldl_cons]
   unfold offerE
   cases he:endS S (S.length+1) x with
   | none=>rfl
   | some e=>
     show List.foldl (offerE S) ((addD S n D e).map DpL.id) l=_
     rw [addD_ids]
     rfl
theorem ends_ones (l:List Txt):addL S 1 [] (endsM S l)=(endsL S l).map fun x=>⟨x,1⟩:=by
 have h:=addL_ends (S:=S) (n:=1) l []
 obtain ⟨new,h1,h2⟩:=zCA S 1 (endsM S l) []
 rw [List.nil_append] at h1
 rw [List.map_nil] at h
 show _=(l.foldl (offerE S) []).map _
 rw [←h,h1,List.map_map]
 have e : ∀ p∈new,((fun x=>(⟨x,1⟩:DpL)) ∘ DpL.id) p=id p:=fun p hp=>by
  show (⟨p.id,1⟩:DpL)=p
  rw [←h2 p hp]
 rw [List.map_congr_left e,List.map_id]
end
end
def dptC (r:DpL):List Value:=(u8s r.id).toList++[.int .i64 r.n]
def DptOk (r:DpL):Prop:=r.id.length=32∧r.n≤2000000
theorem zBh {r:DpL} (h:DptOk r):(dptC r).length=33:=by unfold dptC;rw [List.length_append,zAI,h.1];rfl
theorem zDc (r:DpL) : ∀ u∈dptC r,u.oneCell'=true:=by
 intro u hu
 simp only [dptC,List.mem_append,List.mem_cons,List.not_mem_nil,or_false] at hu
 rcases hu with hu | rfl
 ·simp only [u8s,List.toList_toArray,List.mem_map] at hu
  obtain ⟨c,_,rfl⟩:=hu
  rfl
 ·rfl
def zDpt : Value := .agg (dptC ⟨List.replicate 32 0,0⟩).toArray
theorem Tryz.dptTy : SliceTy Tryz.prog 37 48 zDpt 33 40:=⟨Tryz.underlying37,info_parts (by kernel_rfl),by kernel_rfl,by omega⟩
theorem Tryz.ddtTy : SliceTy Tryz.prog 43 55 zDpt 33 40:=⟨Tryz.underlying43,info_parts (by kernel_rfl),by kernel_rfl,by omega⟩
theorem dptC_id {w:World} {g o:Nat} {r:DpL} (h:w.rangeAt g o (dptC r)):w.rangeAt g o (u8s r.id).toList:=fun j u hu=>h j u (by
 unfold dptC
 rw [List.getElem?_append_left (List.getElem?_eq_some_iff.1 hu).1]
 exact hu)
theorem dptC_n {w:World} {g o:Nat} {r:DpL} (hr:r.id.length=32) (h:w.rangeAt g o (dptC r)):w.cell? ⟨g,o+32,none⟩=some (.int .i64 r.n):=h 32 _ (by
 unfold dptC
 rw [List.getElem?_append_right (by rw [zAI,hr];omega),zAI,hr]
 rfl)
def DptsOk (l:List DpL):Prop := ∀ r∈l,DptOk r
theorem dptK {l:List DpL} (h:DptsOk l) : ∀ x∈l,(dptC x).length=33:=fun x hx=>zBh (h x hx)
theorem dptOne (l:List DpL) : ∀ u∈rowsOf dptC l,u.oneCell'=true:=zAJ fun x _=>zDc x
theorem szDpt : (Tryz.prog.info? 48).map (·.size)=some 33:=by kernel_rfl
theorem sizedDpt {r:DpL} (h:DptOk r):(Tryz.prog.info? 48).map (·.size)=some (dptC r).length:=by rw [zBh h];exact szDpt
theorem dptC_all (r:DpL) : ∀ u∈(dptC r).toArray.toList,u.oneCell'=true:=by rw [List.toList_toArray];exact zDc r
abbrev Dpts (w:World) (v:Value) (l:List DpL):Prop:=SliceAt w 33 dptC v l
abbrev OwnDpts (w:World) (base:Nat) (v:Value) (l:List DpL):Prop:=w.ownsRow base 48 33 v l.length (rowsOf dptC l)
theorem OwnDpts.refs {w:World} {base:Nat} {v:Value} {l:List DpL} (hok:DptsOk l) (h:OwnDpts w base v l):Dpts w v l:=SliceAt.of_own (dptK hok) h
theorem zEE {w:World} {g:Nat} {r:DpL} (h:Blk w g 48 (dptC r).toArray):w.rangeAt g 0 (dptC r):=by
 have:=zAi h
 rwa [List.toList_toArray] at this
def ldvDpt (p:Addr):Sem Value:=loadVar 48 p
theorem ldvDpt_eq (p:Addr):loadVar 48 p=ldvDpt p:=rfl
theorem zEq {w:World} {g o:Nat} {x:DpL} (h:w.rangeAt g o (dptC x)) (hx:DptOk x):(ldvDpt ⟨g,o,none⟩).run Tryz.prog w = .ok (.agg (dptC x).toArray) w:=
 run_loadVar_mid (P:=Tryz.prog) w g o 48 (dptC x) _ h Tryz.underlying48 rfl (sizedDpt hx)
theorem OwnDpts.of_row {w:World} {base g cap:Nat} {l:List DpL} (hok:DptsOk l) (h:Row w g 48 33 dptC cap l) (hg:base≤g) {n:Nat} (hn:n=l.length):OwnDpts w base (.slice (some ⟨g,0,none⟩) n cap) l:=by
 subst hn
 exact h.own (dptK hok) hg
theorem zCx : zDpt.cells.size=33:=rfl
end Go.Proofs.YtbhdfaadedlcfaaGreatDoor
