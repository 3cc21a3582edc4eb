/- Texts of this claim, laid together: DptBs, DptQ, DptW, DptIn, GraN, GraQ, GraH, GraO, GraU. -/
import Derived.Test.YtbhdfaadedlcfaaGreatDoorMl
import Derived.Shelf.RegionOpenPlain
import Derived.Lib.Overlaps
import Derived.BigRegion
import Derived.Deep.RegionWith
namespace Go.Proofs.YtbhdfaadedlcfaaGreatDoor
open Go.RowKit
section
attribute [local go_sem ↓] ldvDpt_eq ldvI_eq
set_option maxRecDepth 100000 in
set_option maxHeartbeats 4000000 in
theorem bsfDpts_calls (l:List DpL) (hok:DptsOk l) (hbig:l.length≤1000000) (v:Value) (w:World) (hv:Dpts w v l) (f:FuncId) (hf : ∀ (a:Array Value) (W:World),(callFunc f a).run Tryz.prog W = .ok (.enter f a) W) (n:List UInt8) (hn:n.length=32) (cmp:DpL→Int)
 (hcl : ∀ (W:World) (x:DpL),x∈l→Below w.heap.size w W→Calls Tryz.prog f #[.agg (dptC x).toArray, .agg (u8s n)] W fun e w'=>e = .returned (.int .i64 (cmp x))∧Below W.heap.size W w')
 (p:Nat) (hp:p≤l.length) (hcmp : ∀ i x,l[i]?=some x→(cmp x<0↔i<p)) :
 Calls Tryz.prog 86 #[v, .agg (u8s n), .func (.func f) #[] #[]] w fun e w'=>
  e = .returned (.tuple #[.int .i64 p, .bool (hitAt cmp l p)])∧Below w.heap.size w w':=by
 obtain ⟨A,cap,rfl,hcap1,hcap2,hat⟩:=hv
 have hcmp:=Lib.hid hcmp
 obtain ⟨b,hb⟩ : ∃ b,Hid (b=hitAt cmp l p):=⟨_,Lib.hid rfl⟩
 rw [←hb.out]
 obtain ⟨W1,hW1⟩ : ∃ W1,w.alloc (.cells (u8s n) 46)=W1:=⟨_,rfl⟩
 have hn1:Blk W1 w.heap.size 46 (u8s n):=by rw [←hW1];exact Blk.new _ _ _
 have bW1:Below w.heap.size w W1:=by rw [←hW1];exact (Below.refl _ _).alloc (Nat.le_refl _) _
 have hsI:(Tryz.prog.info? 46).map (·.size)=some (u8s n).toList.length:=by rw [zAI,hn];exact sz32
 obtain ⟨NC,hNC⟩ : ∃ NC,u8s n=NC:=⟨_,rfl⟩
 rw [hNC] at hW1 hn1 hsI hcl ⊢
 clear hNC
 go_enter Tryz.func86,Tryz.ntmps86
 go_wp2
 go_loopw [9,10] (fun vi vj wr => ∃ lo hi:Nat,vi = .int .i64 lo∧vj = .int .i64 hi∧lo≤p∧p≤hi∧hi≤l.length∧Below W1.heap.size W1 wr) (fun vi vj _=>(intOf vj).toNat-(intOf vi).toNat)
 case atStart=>exact ⟨0,l.length,rfl,rfl,by omega,hp,by omega,Below.refl _ _⟩
 case round=>
  obtain ⟨lo,hi,rfl,rfl,hlo,hhi,hle,hbel⟩:=hrel
  clear hW1
  by_cases hlt:lo<hi
  ·have hli:(lo:Int)<(hi:Int):=by omega
   obtain ⟨m,hm⟩ : ∃ m:Nat,Hid (m=(lo+hi) / 2):=⟨_,Lib.hid rfl⟩
   have hm2:((lo:Int)+(hi:Int)) / 2=(m:Int):=by rw [hm.out];omega
   have hml:m<l.length:=by rw [hm.out];omega
   have hmi:(m:Int)<(l.length:Int):=by omega
   have hmlo:lo≤m:=by rw [hm.out];omega
   have hmhi:m<hi:=by rw [hm.out];omega
   obtain ⟨g,o,rfl,hg,hcell⟩:=hat (by omega)
   obtain ⟨x,hx⟩ : ∃ x,l[m]?=some x:=⟨_,List.getElem?_eq_getElem hml⟩
   have hxm:=List.mem_of_getElem? hx
   have hxok:=hok x hxm
   have hxr:=hcell m x hx
   have hc2:=fun W hb=>hcl W x hxm hb
   have hd:=hcmp.out m x hx
   clear hx hcell hat hcl
   go_wp2
   refine zAd (C:=fun W=>Below W1.heap.size W1 W) (by kernel_rfl) (by kernel_rfl) hbel.drew ?_
   repeat
    first
     | ((with_reducible refine zAl ?_ ?_)
        ·(go_simp;done)
        apply Exists.intro
        refine ⟨fun W hW=>?_,?_⟩
        ·have hb0:=bthen bW1 bW1.size hW
         have q0:=zEq (zAc hxr hg hb0) hxok
         have q1:(ldvI ⟨w.heap.size,0,none⟩).run Tryz.prog W = .ok (.agg NC) W:=by
          have:=run_loadVar_mid (P:=Tryz.prog) W w.heap.size 0 46 NC.toList _ (zAi (hn1.below hW hn1.lt)) Tryz.underlying46 rfl hsI
          rwa [Array.toArray_toList] at this
         have hkeep:=zCb hW (hc2 W hb0)
         go_simp
         first
          | rfl
          | (with_reducible exact hkeep)
        simp only [Act.put,zA,zB,zC])
     | ((with_reducible refine zAh ?_ ?_)
        ·(first | rfl | (go_simp;done))
        simp only [Act.put,zA,zB,zC])
   with_reducible refine wpQuiet_nil ?_
   intro w5 hW5
   by_cases hneg:cmp x<0
   ·have hmp:m<p:=hd.1 hneg
    clear hd
    go_wp2
    go_roundw
    case rel=>exact ⟨m+1,hi,by go_num,rfl,by omega,hhi,hle,hW5⟩
    case measure=>simp [intOf];omega
   ·have hmp : ¬ m<p:=fun h=>hneg (hd.2 h)
    clear hd
    go_wp2
    go_roundw
    case rel=>exact ⟨lo,m,rfl,by go_num,hlo,by omega,by omega,hW5⟩
    case measure=>simp [intOf];omega
  ·obtain rfl:lo=p:=by omega
   obtain rfl:hi=lo:=by omega
   by_cases hlp:hi<l.length
   ·have hli:(hi:Int)<(l.length:Int):=by omega
    obtain ⟨g,o,rfl,hg,hcell⟩:=hat (by omega)
    obtain ⟨x,hx⟩ : ∃ x,l[hi]?=some x:=⟨_,List.getElem?_eq_getElem hlp⟩
    have hxm:=List.mem_of_getElem? hx
    have hxok:=hok x hxm
    have hxr:=hcell hi x hx
    have hc2:=fun W hb=>hcl W x hxm hb
    have hb':Hid (b=decide (cmp x=0)):=by show _=_;rw [hb.out,zD3 hx]
    clear hx hcell hat hb hcl
    go_wp2
    refine zAd (C:=fun W=>Below W1.heap.size W1 W) (by kernel_rfl) (by kernel_rfl) hbel.drew ?_
    repeat
     first
      | ((with_reducible refine zAl ?_ ?_)
         ·(go_simp;done)
         apply Exists.intro
         refine ⟨fun W hW=>?_,?_⟩
         ·have hb0:=bthen bW1 bW1.size hW
          have q0:=zEq (zAc hxr hg hb0) hxok
          have q1:(ldvI ⟨w.heap.size,0,none⟩).run Tryz.prog W = .ok (.agg NC) W:=by
           have:=run_loadVar_mid (P:=Tryz.prog) W w.heap.size 0 46 NC.toList _ (zAi (hn1.below hW hn1.lt)) Tryz.underlying46 rfl hsI
           rwa [Array.toArray_toList] at this
          have hkeep:=zCb hW (hc2 W hb0)
          go_simp
          first
           | rfl
           | (with_reducible exact hkeep)
         simp only [Act.put,zA,zB,zC])
      | ((with_reducible refine zAh ?_ ?_)
         ·(first | rfl | (go_simp;done))
         simp only [Act.put,zA,zB,zC])
    with_reducible refine wpQuiet_nil ?_
    intro w5 hW5
    go_wp2
    go_ret2
    exact ⟨by rw [hb'.out];rfl,bthen bW1 bW1.size hW5⟩
   ·have hli : ¬ (hi:Int)<(l.length:Int):=by omega
    have hb':Hid (b=false):=by show _=_;rw [hb.out,zEi (by omega)]
    clear hb hat
    go_wp2
    refine zAd (C:=fun W=>Below W1.heap.size W1 W) (by kernel_rfl) (by kernel_rfl) hbel.drew ?_
    repeat
     first
      | ((with_reducible refine zAl ?_ ?_)
         ·(go_simp;done)
         apply Exists.intro
         refine ⟨fun W hW=>?_,?_⟩
         ·go_simp
          first
           | rfl
         simp only [Act.put,zA,zB,zC])
      | ((with_reducible refine zAh ?_ ?_)
         ·(first | rfl | (go_simp;done))
         simp only [Act.put,zA,zB,zC])
    with_reducible refine wpQuiet_nil ?_
    intro w5 hW5
    go_wp2
    go_ret2
    exact ⟨by rw [hb'.out];rfl,bthen bW1 bW1.size hW5⟩
end
section
structure DptS (L D:List DpL):Prop where
 sorted:SortedK DpL.id L
 perm:L.Perm D
section
variable {S:List StL} {L D:List DpL} {n most:Nat}
theorem DptS.nil : DptS [] []:=⟨List.Pairwise.nil,List.Perm.refl _⟩
theorem DptS.has (h:DptS L D) (x:Txt):hasK DpL.id L x=inL (D.map DpL.id) x:=by
 have h1:hasK DpL.id L x=true↔inL (D.map DpL.id) x=true:=by
  rw [inL_iff]
  unfold hasK
  rw [List.any_eq_true]
  constructor
  ·rintro ⟨p,hp,he⟩
   exact List.mem_map.2 ⟨p,h.perm.mem_iff.1 hp,eq_of_beq he⟩
  ·intro hx
   obtain ⟨p,hp,he⟩:=List.mem_map.1 hx
   exact ⟨p,h.perm.mem_iff.2 hp,by rw [he];exact beq_self_eq_true x⟩
 cases h2:hasK DpL.id L x<;>cases h3:inL (D.map DpL.id) x<;>first | rfl | (rw [h2,h3] at h1;simp at h1)
theorem DptS.add (h:DptS L D) {x:DpL} (hx:inL (D.map DpL.id) x.id=false):DptS (L.take (posK DpL.id L x.id)++[x]++L.drop (posK DpL.id L x.id)) (D++[x]):=by
 have hh:hasK DpL.id L x.id=false:=by rw [h.has,hx]
 have h1:=zEh (x:=x) h.sorted
 unfold putK at h1
 rw [hh] at h1
 refine ⟨h1,?_⟩
 refine List.Perm.trans ?_ (h.perm.append_right [x])
 rw [List.append_assoc]
 refine (List.Perm.append_left _ List.perm_append_comm).trans ?_
 rw [←List.append_assoc,List.take_append_drop]
theorem DptS.len (h:DptS L D):L.length=D.length:=h.perm.length_eq
theorem addD_yes {x:Txt} (h1:inL (D.map DpL.id) x=false) (h2:kindS S x=3):addD S n D x=D++[⟨x,n⟩]:=by
 unfold addD
 rw [h1,h2]
 rfl
theorem addD_no {x:Txt} (h:inL (D.map DpL.id) x=true∨kindS S x≠3):addD S n D x=D:=by
 unfold addD
 rw [if_neg]
 rintro h2
 rw [Bool.and_eq_true] at h2
 rcases h with h | h
 ·rw [h] at h2;simp at h2
 ·exact h (by simpa using h2.2)
theorem nextP_yes {D':List DpL} {a:Nat} {x:DpL} (ha:a≤D'.length):nextP S (D'++[x]) a=nextP S D' a++parS S x.id:=by
 unfold nextP
 rw [List.drop_append_of_le_length ha,List.flatMap_append]
 simp
theorem addL_len (l:List Txt):D.length≤(addL S n D l).length:=by
 obtain ⟨new,h,_⟩:=zCA S n l D
 rw [h,List.length_append]
 omega
theorem nextP_self (D:List DpL):nextP S D D.length=[]:=by
 unfold nextP
 rw [List.drop_length]
 rfl
theorem lev_go {f:Nat} {ids:List Txt} (hn:n≤most) (hi:ids≠[]):levQ S most (f+1) D ids n=levQ S most f (addL S n D ids) (nextP S (addL S n D ids) D.length) (n+1):=by
 rw [levQ,if_pos ⟨hn,hi⟩]
theorem lev_end {f:Nat} {ids:List Txt} (h : ¬ (n≤most∧ids≠[])):levQ S most f D ids n=D:=by
 cases f with
 | zero=>rfl
 | succ f=>rw [levQ,if_neg h]
def FuelD (S:List StL) (f:Nat) (D:List DpL) (ids:List Txt):Prop:=ids=[]∨S.length+1≤f+D.length
theorem FuelD.pos {f:Nat} {ids:List Txt} (h:FuelD S f D ids) (hI:DptI S D) (hi:ids≠[]):0<f:=by
 have:=hI.len
 have:=h.resolve_left hi
 omega
theorem FuelD.go {f:Nat} {ids:List Txt} (h:FuelD S (f+1) D ids) (hi:ids≠[]):FuelD S f (addL S n D ids) (nextP S (addL S n D ids) D.length):=by
 have h1:=h.resolve_left hi
 obtain ⟨new,h2,_⟩:=zCA S n ids D
 cases new with
 | nil=>
   left
   rw [h2,List.append_nil]
   exact nextP_self D
 | cons q r=>
   right
   rw [h2,List.length_append,List.length_cons]
   omega
end
end
section
attribute [local go_sem ↓] ldvI_eq ldvDpt_eq
set_option maxRecDepth 100000 in
theorem fineB_calls (n:Int) (w:World):Calls Tryz.prog 27 #[.int .i64 n] w fun e w'=>e = .returned (.bool (decide (1≤n∧n≤1048576)))∧w'=w:=by
 obtain ⟨b,hb⟩ : ∃ b,Hid (decide (1≤n∧n≤1048576)=b):=⟨_,Lib.hid rfl⟩
 rw [hb.out]
 by_cases h1:1≤n
 ·by_cases h2:n≤1048576
  ·obtain rfl:b=true:=by rw [←hb.out];exact decide_eq_true ⟨h1,h2⟩
   go_enter Tryz.func27,Tryz.ntmps27
   go_wp2
   go_ret
   exact ⟨rfl,rfl⟩
  ·obtain rfl:b=false:=by rw [←hb.out];exact decide_eq_false fun h=>h2 h.2
   go_enter Tryz.func27,Tryz.ntmps27
   go_wp2
   go_ret
   exact ⟨rfl,rfl⟩
 ·obtain rfl:b=false:=by rw [←hb.out];exact decide_eq_false fun h=>h1 h.1
  go_enter Tryz.func27,Tryz.ntmps27
  go_wp2
  go_ret
  exact ⟨rfl,rfl⟩
set_option maxRecDepth 100000 in
set_option maxHeartbeats 1000000 in
theorem depPlace1_calls (x:DpL) (hx:DptOk x) (n:List UInt8) (hn:n.length=32) (w:World):Calls Tryz.prog 87 #[.agg (dptC x).toArray, .agg (u8s n)] w fun e w'=>e = .returned (.int .i64 (Lib.compareBytes x.id n))∧Below w.heap.size w w':=by
 obtain ⟨W1,hW1⟩ : ∃ W1,w.alloc (.cells (dptC x).toArray 48)=W1:=⟨_,rfl⟩
 have x1:Blk W1 w.heap.size 48 (dptC x).toArray:=by rw [←hW1];exact Blk.new _ _ _
 have b1:Below w.heap.size w W1:=by rw [←hW1];exact (Below.refl _ _).alloc (Nat.le_refl _) _
 obtain ⟨W2,hW2⟩ : ∃ W2,W1.alloc (.cells (u8s n) 46)=W2:=⟨_,rfl⟩
 have bb2:Below W1.heap.size W1 W2:=by rw [←hW2];exact (Below.refl _ _).alloc (Nat.le_refl _) _
 have x2:=x1.below bb2 x1.lt
 have n2:Blk W2 W1.heap.size 46 (u8s n):=by rw [←hW2];exact Blk.new _ _ _
 have b2:=bthen b1 b1.size bb2
 have l1 : ∀ W,Below W2.heap.size W2 W→(ldvI ⟨w.heap.size,0,none⟩).run Tryz.prog W = .ok (.agg (u8s x.id)) W:=fun W hW=>by
  have:=zAi (x2.below hW x2.lt)
  rw [List.toList_toArray] at this
  exact zAb (dptC_id this) hx.1
 have l2 : ∀ W,Below W2.heap.size W2 W→(ldvI ⟨W1.heap.size,0,none⟩).run Tryz.prog W = .ok (.agg (u8s n)) W:=fun W hW=>zAb (zAi (n2.below hW n2.lt)) hn
 have hc:=fun (W:World)=>zCe x.id n hx.1 hn W
 obtain ⟨NC,hNC⟩ : ∃ NC,u8s n=NC:=⟨_,rfl⟩
 obtain ⟨XC,hXC⟩ : ∃ XC,(dptC x).toArray=XC:=⟨_,rfl⟩
 obtain ⟨XD,hXD⟩ : ∃ XD,u8s x.id=XD:=⟨_,rfl⟩
 rw [hXC] at hW1 ⊢
 rw [hNC] at hW2 ⊢
 rw [hXD] at l1
 simp only [hNC] at l2
 simp only [hNC,hXD] at hc
 clear hNC hXC hXD x1 x2 n2 bb2
 go_enter Tryz.func87,Tryz.ntmps87
 have q1:=l1 W2 (Below.refl _ _)
 have q2:=l2 W2 (Below.refl _ _)
 have hc2:=Lib.hid ((hc W2).mono fun e w' (h:e = .returned (.int .i64 (Lib.compareBytes x.id n)) ∧ ∃ q os,w'=Go.Sort.grow (W2.drewN q) os)=>(⟨h.1,by obtain ⟨q,os,e2⟩:=h.2;rw [e2];exact zEc (bdrewN (Below.refl _ _) q) (Nat.le_refl _) os⟩:e = .returned (.int .i64 (Lib.compareBytes x.id n))∧Below W2.heap.size W2 w'))
 clear l1 l2 hc
 go_wp2_with (first
  | ((with_reducible refine hc2.out.mono ?_);rintro e w5 ⟨rfl,hW5⟩))
 go_ret
 exact ⟨rfl,bthen b2 b2.size hW5⟩
theorem depPlace1_func (a:Array Value) (W:World):(callFunc 87 a).run Tryz.prog W = .ok (.enter 87 a) W:=by kernel_rfl
set_option maxRecDepth 100000 in
set_option maxHeartbeats 2000000 in
theorem depPlace_calls {w:World} {v:Value} {l:List DpL} (hv:Dpts w v l) (hok:DptsOk l) (hs:SortedK DpL.id l) (hbig:l.length≤1000000) (n:Txt) (hn:n.length=32) :
 Calls Tryz.prog 52 #[v, .agg (u8s n)] w fun e w'=>e = .returned (.tuple #[.int .i64 (posK DpL.id l n), .bool (hasK DpL.id l n)])∧Below w.heap.size w w':=by
 obtain ⟨W1,hW1,b1,n1,lid⟩:=boxId w n hn
 have hbs:=fun (W:World) (hW:Below W1.heap.size W1 W)=>bsfDpts_calls l hok hbig v W (hv.below (bthen b1 b1.size hW)) 87 depPlace1_func n hn (fun x=>Lib.compareBytes x.id n)
  (fun W2 x hx _=>depPlace1_calls x (hok x hx) n hn W2) (posK DpL.id l n) posK_le (fun i x hx=>by
    rw [←decide_eq_true_iff (p:=Lib.compareBytes x.id n<0),cmp_neg,zDA hs hx,decide_eq_true_iff])
 rw [←hasK_hit hs] at hbs
 obtain ⟨A,cap,rfl,_⟩:=hv
 obtain ⟨NC,hNC⟩ : ∃ NC,u8s n=NC:=⟨_,rfl⟩
 rw [hNC] at hW1 n1 ⊢
 simp only [hNC] at lid hbs
 clear hNC
 generalize posK DpL.id l n=P at *
 generalize hasK DpL.id l n=HB at *
 go_enter Tryz.func52,Tryz.ntmps52
 have q1:=lid W1 (Below.refl _ _)
 have hb1:=Lib.hid (hbs W1 (Below.refl _ _))
 clear lid hbs
 go_wp2_with (first
  | ((with_reducible refine hb1.out.mono ?_);rintro e w5 ⟨rfl,hW5⟩))
 go_ret2
 exact ⟨rfl,bthen b1 b1.size hW5⟩
end
theorem zEv (w:World) (g vb o:Nat) (cur cv:Array Value) (e ev:TypeId) (hb:Blk w g e cur) (hv:Blk w vb ev cv) (hc:0<cur.size) (hne:vb≠g) (m vc lb cb:Nat) :
 (callFunc 88 #[.slice (some ⟨vb,0,none⟩) m vc, .slice (some ⟨g,o,none⟩) lb cb]).run Tryz.prog w = .ok (.value (.bool false)) w:=by
 have hsz : ∀ w,(Go.sizeOf 48).run Tryz.prog w = .ok 33 w:=fun w=>by
  obtain ⟨i,h1,_,h3,_⟩:=Tryz.dptTy.hi
  simp [sizeOf,typeInfo,h1,h3]
 rw [run_callFunc_extern Tryz.func88 (by kernel_rfl) (by kernel_rfl) (by kernel_rfl) (e:=Extern.SlicesOverlaps.overlaps #[37,37] #[4]) (by kernel_rfl),
  Lib.run_overlaps_apart w 37 4 48 Tryz.underlying37 33 hsz ⟨vb,0,none⟩ ⟨g,o,none⟩ m vc lb cb hne ev e cv.size cur.size (by unfold World.shape?;rw [show w.heap[vb]?=_ from hv]) (by unfold World.shape?;rw [show w.heap[g]?=_ from hb]) (by omega) (hv.frozen _) (hv.frozen _)]
 rfl
set_option maxRecDepth 100000 in
set_option maxHeartbeats 2000000 in
theorem insertDpts_room (l:List DpL) (hok:DptsOk l) (w:World) (g cap i vb:Nat) (x:DpL) (hx:DptOk x) (hrow:Row w g 48 33 dptC cap l) (hi:i<l.length) (hcap:l.length+1≤cap)
 (hv:Blk w vb 48 (dptC x).toArray) (hne:vb≠g) :
 Calls Tryz.prog 53 #[.slice (some ⟨g,0,none⟩) l.length cap, .int .i64 i, .slice (some ⟨vb,0,none⟩) 1 1] w fun e w'=>
  e = .returned (.slice (some ⟨g,0,none⟩) (l.length+1) cap)∧Row w' g 48 33 dptC cap (l.take i++[x]++l.drop i)∧w.grownBy w' (some g):=by
 have h63:=hrow.top63
 have hdl:(l.drop i).length=l.length-i:=List.length_drop
 have hdk : ∀ y∈l.drop i,(dptC y).length=33:=fun y hy=>dptK hok y (List.mem_of_mem_drop hy)
 have hbi:(0:Int)≤(i:Int)+1:=by omega
 have htn:((i:Int)+1).toNat=i+1:=by omega
 have hz2 : ¬ ((i:Int)=(l.length:Int)):=by omega
 have hil:(i:Int)≤(l.length:Int):=by omega
 have hil1:(i:Int)+1≤(l.length:Int)+1:=by omega
 have hil2:(i:Int)≤(l.length:Int)+1:=by omega
 have mixed:Tryz.prog.follows Departure.mixedOrders=true:=by kernel_rfl
 have hci : ¬ (cap=i):=by omega
 have hci1 : ¬ (cap=i+1):=by omega
 have hnc : ¬ ((cap:Int)<(l.length:Int)+1):=by omega
 have hcn:(l.length:Int)+1≤(cap:Int):=by omega
 have hw1:IntKind.i64.wrap ((i:Int)+1)=(i:Int)+1:=by rw [IntKind.wrap_i64];omega
 have hw2:IntKind.i64.wrap ((l.length:Int)+1)=(l.length:Int)+1:=by rw [IntKind.wrap_i64];omega
 have htl:((l.length:Int)+1).toNat=l.length+1:=by omega
 have hov : ∀ lb cb o,(callFunc 88 #[.slice (some ⟨vb,0,none⟩) 1 1, .slice (some ⟨g,o,none⟩) lb cb]).run Tryz.prog w = .ok (.value (.bool false)) w:=fun lb cb o=>by
  obtain ⟨cur,hb,hs⟩:=hrow.blk
  exact zEv w g vb o cur _ _ _ hb hv (by rw [hs];omega) hne 1 1 lb cb
 have hput:=hrow.drew.put (dptK hok) hdk (i:=i+1) (by omega) (by omega)
 have hcp1 : ∀ ty dc sc,(Builtin.copy_ #[37,37] ty #[.slice (some ⟨g,(i+1)*33,none⟩) (l.length-i) dc, .slice (some ⟨g,i*33,none⟩) (l.length+1-i) sc]).run Tryz.prog w.drew = .ok (goInt ((l.drop i).length:Nat)) (w.drew.setCells g ((i+1)*33) (rowsOf dptC (l.drop i))):=fun ty dc sc=>
  zAH w.drew _ _ ty 48 g ((i+1)*33) _ dc ⟨g,i*33,none⟩ _ sc _ _ Tryz.underlying37 szDpt (by rw [hdl];simp only [Nat.min_def];split<;>omega) (zAn hdk)
   (zAE ((hrow.drew).range_from (dptK hok) i)) ((hrow.drew).there (by rw [zAn hdk,←Nat.add_mul];exact Nat.mul_le_mul_right _ (by omega))) (dptOne _)
 obtain ⟨W1,hW1⟩ : ∃ W1,W1=w.drew.setCells g ((i+1)*33) (rowsOf dptC (l.drop i)):=⟨_,rfl⟩
 have hbel1:w.grownBy W1 (some g):=by rw [hW1];exact zBE (zEo (zDq w _)) _ _
 rw [←hW1] at hcp1 hput
 have hv1:Blk W1 vb 48 (dptC x).toArray:=by
  rw [hW1]
  exact hv.drew.setCells_far hne _ _ _
 have hs2:DptsOk (l.take (i+1)++l.drop i++l.drop (i+1+(l.drop i).length)):=by
  intro y hy
  simp only [List.mem_append] at hy
  rcases hy with (hy | hy) | hy
  ·exact hok y (List.mem_of_mem_take hy)
  ·exact hok y (List.mem_of_mem_drop hy)
  ·exact hok y (List.mem_of_mem_drop hy)
 have hset:=hput.set (dptK hs2) (i:=i) (by simp;omega) (zBh hx)
 rw [ins_place hi] at hset
 have hcp2 : ∀ ty dc,(Builtin.copy_ #[37,37] ty #[.slice (some ⟨g,i*33,none⟩) (l.length+1-i) dc, .slice (some ⟨vb,0,none⟩) 1 1]).run Tryz.prog W1 = .ok (goInt (1:Nat)) (W1.setCells g (i*33) (dptC x)):=fun ty dc=>
  zAH W1 _ _ ty 48 g (i*33) _ dc ⟨vb,0,none⟩ _ 1 _ _ Tryz.underlying37 szDpt (by simp only [Nat.min_def];split<;>omega) (by rw [zBh hx])
   (zAE (zEE hv1)) (hput.there (by rw [zBh hx];omega)) (zDc x)
 have hbel2:=zBE hbel1 (i*33) (dptC x)
 clear hput hv hv1 hrow hs2 hdk hW1
 go_enter Tryz.func53,Tryz.ntmps53
 go_wp2_with (simp only [hov])
 go_region_law_o (refine zBd rfl _ _ 37 37 rfl (.slice (some ⟨g,(i+1)*33,none⟩) (l.length-i) (cap-(i+1))) (.slice (some ⟨g,i*33,none⟩) (l.length+1-i) (cap-i)) (by simp [Act.eval,Act.put]) (by simp [Act.eval,Act.put]) (hcp1 _ _ _) ?_)
 go_wp2_with (at_builtin;refine zAX _ rfl _ _ 37 37 rfl _ _ rfl rfl (hcp2 _ _) ?_)
 go_ret
 exact ⟨rfl,hset,hbel2⟩
set_option maxRecDepth 100000 in
set_option maxHeartbeats 500000 in
theorem insertDpts_grow (l:List DpL) (hok:DptsOk l) (hbig:l.length≤1000000) (w:World) (base g cap i vb:Nat) (x:DpL) (hx:DptOk x) (hbase:base≤w.heap.size) (hrow:Row w g 48 33 dptC cap l) (hi:i<l.length) (hcap:cap<l.length+1)
 (hv:Blk w vb 48 (dptC x).toArray) :
 Calls Tryz.prog 53 #[.slice (some ⟨g,0,none⟩) l.length cap, .int .i64 i, .slice (some ⟨vb,0,none⟩) 1 1] w fun e w'=>
  ∃ G,e = .returned (.slice (some ⟨w.heap.size,0,none⟩) (l.length+1) G)∧Row w' w.heap.size 48 33 dptC G (l.take i++[x]++l.drop i)∧Below base w w':=by
 have h63:=hrow.top63
 have hle:=hrow.le
 have hgw:=hrow.lt
 have hdl:(l.drop i).length=l.length-i:=List.length_drop
 have htkl:(l.take i).length=i:=by simp;omega
 have hdk : ∀ y∈l.drop i,(dptC y).length=33:=fun y hy=>dptK hok y (List.mem_of_mem_drop hy)
 have htk : ∀ y∈l.take i,(dptC y).length=33:=fun y hy=>dptK hok y (List.mem_of_mem_take hy)
 have hbi:(0:Int)≤(i:Int)+1:=by omega
 have htn:((i:Int)+1).toNat=i+1:=by omega
 have hz2 : ¬ ((i:Int)=(l.length:Int)):=by omega
 have hil:(i:Int)≤(l.length:Int):=by omega
 have hil0:(i:Int)≤(cap:Int):=by omega
 have hil1:(i:Int)+1≤(l.length:Int)+1:=by omega
 have hil2:(i:Int)≤(l.length:Int)+1:=by omega
 have mixed:Tryz.prog.follows Departure.mixedOrders=true:=by kernel_rfl
 have hci : ¬ (cap=i):=by omega
 have hnc:(cap:Int)<(l.length:Int)+1:=by omega
 have hw1:IntKind.i64.wrap ((i:Int)+1)=(i:Int)+1:=by rw [IntKind.wrap_i64];omega
 have hw2:IntKind.i64.wrap ((l.length:Int)+1)=(l.length:Int)+1:=by rw [IntKind.wrap_i64];omega
 have hw3:IntKind.i64.wrap ((l.length:Int)+1-(i:Int))=(l.length:Int)+1-(i:Int):=by rw [IntKind.wrap_i64];omega
 have hkk:(l.length:Int)+1-(i:Int)=((l.length+1-i:Nat):Int):=by omega
 have hik:i+(l.length+1-i)=l.length+1:=by omega
 obtain ⟨i0,hi0,hz0,hzs,hzb⟩:=Tryz.dptTy.hi
 have hold:(Builtin.firstCells i0.size i (.slice (some ⟨g,0,none⟩) i cap)).run Tryz.prog w.drew = .ok (rowsOf dptC (l.take i)).toArray w.drew:=by
  rw [hzs]
  refine run_firstCells_some w.drew 33 i ⟨g,0,none⟩ i cap _ (by rw [zAn htk,htkl]) (zAE ?_)
  have:=(hrow.cut i).drew.range_from htk 0
  rw [Nat.zero_mul,List.drop_zero] at this
  exact this
 have hrz : ∀ ty,(Builtin.append_ #[37,3] ty #[.slice (some ⟨g,0,none⟩) i cap, .int .i64 ((l.length:Int)+1-(i:Int))]).run Tryz.prog w =
  .ok (.slice (some ⟨w.heap.size,0,none⟩) (l.length+1) (grownCap w (l.length+1) cap 48)) (w.drew.alloc (.cells ((rowsOf dptC (l.take i)).toArray++Builtin.zeroCells zDpt.cells (l.length+1-i)++Builtin.zeroCells zDpt.cells (grownCap w (l.length+1) cap 48-(l.length+1))) 48)):=fun ty=>by
  have h:=Lib.run_append_grow_zeros w 37 3 ty 48 i0 _ .i64 .i64 Tryz.underlying37 Tryz.underlying3 hi0 hz0 (some ⟨g,0,none⟩) i cap (rowsOf dptC (l.take i)) hold (l.length+1-i) (by omega) (by omega) (by omega) (by omega) (by rw [hzb];omega) (by rw [hzb,hik];exact growslice_fits hcap (by omega))
  rw [hik] at h
  rw [hkk]
  exact h
 obtain ⟨G,hG⟩ : ∃ G,G=grownCap w (l.length+1) cap 48:=⟨_,rfl⟩
 have hGn:l.length+1≤G:=by rw [hG];exact grownCap_ge w _ _ _
 have hGt:G≤maxLen:=by rw [hG];exact grownCap_le_maxLen w _ cap _ (by unfold maxLen;omega)
 have hG63:G≤9223372036854775807:=by simpa [maxLen] using hGt
 rw [←hG] at hrz
 have hnew:=Row.of_new (s:=l.take i) (enc:=dptC) (e:=48) (cap:=G) htk w.drew (Builtin.zeroCells zDpt.cells (l.length+1-i)++Builtin.zeroCells zDpt.cells (G-(l.length+1))) (by
  rw [htkl,Array.size_append,size_zeroCells,size_zeroCells,zCx];omega) (by rw [htkl];omega) hGt
 rw [←Array.append_assoc] at hnew
 have hbel0:Below base w (w.drew.alloc (.cells ((rowsOf dptC (l.take i)).toArray++Builtin.zeroCells zDpt.cells (l.length+1-i)++Builtin.zeroCells zDpt.cells (G-(l.length+1))) 48)):=(Below.refl _ _).drew.alloc hbase _
 have hoff:Below w.heap.size w (w.drew.alloc (.cells ((rowsOf dptC (l.take i)).toArray++Builtin.zeroCells zDpt.cells (l.length+1-i)++Builtin.zeroCells zDpt.cells (G-(l.length+1))) 48)):=(Below.refl _ _).drew.alloc (Nat.le_refl _) _
 obtain ⟨W1,hW1⟩ : ∃ W1,W1=w.drew.alloc (.cells ((rowsOf dptC (l.take i)).toArray++Builtin.zeroCells zDpt.cells (l.length+1-i)++Builtin.zeroCells zDpt.cells (G-(l.length+1))) 48):=⟨_,rfl⟩
 rw [←hW1] at hrz hnew hbel0 hoff
 clear hW1 hG
 have hold1:=hrow.below hoff
 have hv1:=hv.below hoff hv.lt
 obtain ⟨N,hN⟩ : ∃ N,N=w.heap.size:=⟨_,rfl⟩
 have hgN:g≠N:=by omega
 have hbN:base≤N:=by omega
 have hnew':Row W1 N 48 33 dptC G (l.take i):=by rw [hN];exact hnew
 rw [←hN] at hrz ⊢
 clear hnew hoff hold hN
 have hput:=hnew'.put htk (t:=[x]) (fun y hy=>by simp at hy;subst hy;exact zBh hx) (i:=i) (by omega) (by simp;omega)
 have e1:(l.take i).take i=l.take i:=List.take_of_length_le (by omega)
 have e2:(l.take i).drop (i+[x].length)=[]:=List.drop_of_length_le (by simp;omega)
 rw [zAx,e1,e2,List.append_nil] at hput
 have hcp1 : ∀ ty dc,(Builtin.copy_ #[37,37] ty #[.slice (some ⟨N,i*33,none⟩) (l.length+1-i) dc, .slice (some ⟨vb,0,none⟩) 1 1]).run Tryz.prog W1 = .ok (goInt (1:Nat)) (W1.setCells N (i*33) (dptC x)):=fun ty dc=>
  zAH W1 _ _ ty 48 N (i*33) _ dc ⟨vb,0,none⟩ _ 1 _ _ Tryz.underlying37 szDpt (by simp only [Nat.min_def];split<;>omega) (by rw [zBh hx])
   (zAE (zEE hv1)) (hnew'.there (by rw [zBh hx];omega)) (zDc x)
 have hbel1:=zAF (dptC x) (i*33) w W1 hbel0 hbN
 have hold2:Row (W1.setCells N (i*33) (dptC x)) g 48 33 dptC cap l:=by
  obtain ⟨cur,hb,hs⟩:=hold1.blk
  exact ⟨⟨cur,hb.setCells_far hgN _ _ _,hs⟩,fun j y hy=>World.rangeAt_setCells_apart (hold1.at_ j y hy) _ _ _ (.inl hgN),hold1.le,hold1.top⟩
 obtain ⟨W2,hW2⟩ : ∃ W2,W2=W1.setCells N (i*33) (dptC x):=⟨_,rfl⟩
 rw [←hW2] at hcp1 hput hbel1 hold2
 clear hW2 hold1 hv1 hnew' hbel0 hrow hv
 have hk2 : ∀ y∈l.take i++[x],(dptC y).length=33:=by
  intro y hy
  rcases List.mem_append.1 hy with hy | hy
  ·exact htk y hy
  ·simp at hy;subst hy;exact zBh hx
 have hput2:=hput.drew.put hk2 hdk (i:=i+1) (by simp;omega) (by omega)
 have e3:(l.take i++[x]).take (i+1)=l.take i++[x]:=List.take_of_length_le (by simp;omega)
 have e4:(l.take i++[x]).drop (i+1+(l.drop i).length)=[]:=List.drop_of_length_le (by simp;omega)
 rw [e3,e4,List.append_nil] at hput2
 have hcp2 : ∀ ty dc sc,(Builtin.copy_ #[37,37] ty #[.slice (some ⟨N,(i+1)*33,none⟩) (l.length-i) dc, .slice (some ⟨g,i*33,none⟩) (l.length-i) sc]).run Tryz.prog W2.drew = .ok (goInt ((l.drop i).length:Nat)) (W2.drew.setCells N ((i+1)*33) (rowsOf dptC (l.drop i))):=fun ty dc sc=>
  zAH W2.drew _ _ ty 48 N ((i+1)*33) _ dc ⟨g,i*33,none⟩ _ sc _ _ Tryz.underlying37 szDpt (by rw [hdl];simp only [Nat.min_def];split<;>omega) (zAn hdk)
   (zAE (hold2.drew.range_from (dptK hok) i)) (hput.drew.there (by rw [zAn hdk,←Nat.add_mul];exact Nat.mul_le_mul_right _ (by omega))) (dptOne _)
 have hbel2:=zAF (rowsOf dptC (l.drop i)) ((i+1)*33) w W2.drew hbel1.drew hbN
 obtain ⟨W3,hW3⟩ : ∃ W3,W3=W2.drew.setCells N ((i+1)*33) (rowsOf dptC (l.drop i)):=⟨_,rfl⟩
 rw [←hW3] at hcp2 hput2 hbel2
 clear hW3 hput hold2 hk2 hdk htk hbel1 e1 e2 e3 e4 hi0 hz0 hzs hzb hbig hGt hkk hik hdl htkl hgw
 have hGi : ¬ (G=i):=by omega
 have hGim : ¬ (G=i+1):=by omega
 go_enter Tryz.func53,Tryz.ntmps53
 go_wp2_with (first
  | (at_builtin;refine Lib.wpList_append_run _ rfl _ _ _ _ rfl _ _ rfl rfl _ _ (hrz _) ?_)
  | (at_builtin;refine zAX _ rfl _ _ 37 37 rfl _ _ rfl rfl (hcp1 _ _) ?_))
 go_region_law_o (refine zBd rfl _ _ 37 37 rfl (.slice (some ⟨N,(i+1)*33,none⟩) (l.length-i) (G-(i+1))) (.slice (some ⟨g,i*33,none⟩) (l.length-i) (cap-i)) (by simp [Act.eval,Act.put]) (by simp [Act.eval,Act.put]) (hcp2 _ _ _) ?_)
 go_wp2
 go_ret
 exact ⟨G,rfl,hput2,hbel2⟩
theorem zEf {l:List DpL} (hok:DptsOk l) (i:Nat) {x:DpL} (hx:DptOk x):DptsOk (l.take i++[x]++l.drop i):=by
 intro y hy
 simp only [List.mem_append,List.mem_singleton] at hy
 rcases hy with (hy | rfl) | hy
 ·exact hok y (List.mem_of_mem_take hy)
 ·exact hx
 ·exact hok y (List.mem_of_mem_drop hy)
set_option maxRecDepth 100000 in
set_option maxHeartbeats 500000 in
theorem insertDpts_end (l:List DpL) (hok:DptsOk l) (hbig:l.length≤1000000) (v:Value) (w:World) (base vb:Nat) (x:DpL) (hx:DptOk x) (hbase:base≤w.heap.size) (hown:OwnDpts w base v l)
 (hv:Blk w vb 48 (dptC x).toArray) :
 Calls Tryz.prog 53 #[v, .int .i64 (l.length:Nat), .slice (some ⟨vb,0,none⟩) 1 1] w fun e w'=>
  ∃ v',e = .returned v'∧OwnDpts w' base v' (l++[x])∧w.grownBy w' v.ownBlock∧Newer w v v':=by
 have hcap : ∃ A cap,v = .slice A l.length cap∧l.length≤cap∧cap≤9223372036854775807∧(A=none→l.length=0∧cap=0):=by
  rcases Row.of_own (dptK hok) hown with ⟨rfl,rfl⟩ | ⟨g,cap,rfl,hg,hrow⟩
  ·exact ⟨none,0,rfl,by simp,by omega,fun _=>⟨rfl,rfl⟩⟩
  ·exact ⟨_,cap,rfl,hrow.le,hrow.top63,fun h=>by cases h⟩
 obtain ⟨A,cap,rfl,hc1,hc2,hnil⟩:=hcap
 have hlk:=zBh hx
 have hone : ∀ u∈(dptC x).toArray.toList,u.oneCell'=true:=fun u hu=>zDc x u (by simpa using hu)
 have h1:l.length+1≤9223372036854775807:=by omega
 have h2:(l.length+1)*40≤140737488355328:=by omega
 have hlen:l.length≤9223372036854775807:=by omega
 clear hbig
 go_enter Tryz.func53,Tryz.ntmps53
 go_wp2_with (first
  | (at_builtin
     (with_reducible refine zCF (.tmp 23) (.tmp 24) 1 _ Tryz.dptTy hown hv (by rw [List.size_toArray,hlk]) hone h1 h2 hbase ?_ ?_ ?_);rfl;rfl
     intro v' w' hown3 hg3 hnw3))
 all_goals
  go_ret
  have hown4:OwnDpts w' base v' (l++[x]):=by
   unfold OwnDpts
   rw [List.length_append,List.length_singleton,zAo,zAx]
   exact hown3
  first
   | exact ⟨_,rfl,hown4,hg3,hnw3⟩
   | exact ⟨_,rfl,hown4,by cases A<;>exact hg3,by cases A<;>exact hnw3⟩
theorem zEM (l:List DpL) (hok:DptsOk l) (hbig:l.length≤1000000) (v:Value) (w:World) (base i vb:Nat) (x:DpL) (hx:DptOk x) (hbase:base≤w.heap.size) (hown:OwnDpts w base v l) (hi:i≤l.length)
 (hv:Blk w vb 48 (dptC x).toArray) (hne:v.ownBlock≠some vb) :
 Calls Tryz.prog 53 #[v, .int .i64 i, .slice (some ⟨vb,0,none⟩) 1 1] w fun e w'=>
  ∃ v',e = .returned v'∧OwnDpts w' base v' (l.take i++[x]++l.drop i)∧w.grownBy w' v.ownBlock∧Newer w v v':=by
 rcases Nat.lt_or_ge i l.length with hlt | hge
 ·rcases Row.of_own (dptK hok) hown with ⟨rfl,rfl⟩ | ⟨g,cap,rfl,hg,hrow⟩
  ·simp at hlt
  have hlen:l.length+1=(l.take i++[x]++l.drop i).length:=by simp;omega
  by_cases hcap:l.length+1≤cap
  ·refine (insertDpts_room l hok w g cap i vb x hx hrow hlt hcap hv (fun e=>hne (by rw [e];rfl))).mono ?_
   rintro e w' ⟨rfl,h1,h2⟩
   exact ⟨_,rfl,OwnDpts.of_row (zEf hok i hx) h1 hg hlen,h2, .inl rfl⟩
  ·refine (insertDpts_grow l hok hbig w w.heap.size g cap i vb x hx (Nat.le_refl _) hrow hlt (by omega) hv).mono ?_
   rintro e w' ⟨G,rfl,h1,h2⟩
   exact ⟨_,rfl,OwnDpts.of_row (zEf hok i hx) h1 hbase hlen,zCi h2 _, .inr fun k hk=>by simp only [Value.ownBlock,Option.some.injEq] at hk;omega⟩
 ·obtain rfl:i=l.length:=by omega
  rw [List.take_length,List.drop_length,List.append_nil]
  exact insertDpts_end l hok hbig v w base vb x hx hbase hown hv
section
attribute [local go_sem ↓] ldvI_eq
instance : Inhabited DiL:=⟨⟨⟨[],[]⟩,zeroO, .slice none 0 0, .slice none 0 0⟩⟩
def ndC (e:DiL):List Value:=(u8s e.st.id).toList++objC e.o e.ve e.vp
theorem ndC_len {w:World} {e:DiL} (h:DitOk w e):(ndC e).length=104:=by
 unfold ndC
 rw [List.length_append,zAI,h.id,zAv h.val.ok]
theorem ndC_one {w:World} {e:DiL} (h:DitOk w e) : ∀ u∈ndC e,u.oneCell'=true:=by
 obtain ⟨A1,A2,k1,k2,e1,e2⟩:=h.forms
 intro u hu
 unfold ndC at hu
 rw [e1,e2] at hu
 rcases List.mem_append.1 hu with hu | hu
 ·exact u8v_one e.st.id u (by simpa [u8s] using hu)
 ·exact Array.all_eq_true_iff_forall_mem.1 (zAr e.o A1 A2 e.o.ents.length k1 e.o.pars.length k2) u (by simpa using hu)
def zNd : Value := .agg ((u8s noId).toList++objC zeroO (.slice none 0 0) (.slice none 0 0)).toArray
theorem Tryz.ndTy : SliceTy Tryz.prog 86 94 zNd 104 216:=⟨Tryz.underlying86,info_parts (by kernel_rfl),by kernel_rfl,by omega⟩
theorem szNd : (Tryz.prog.info? 94).map (·.size)=some 104:=by kernel_rfl
section
variable {w w':World} {g o:Nat} {e:DiL}
theorem nd_id (h:w.rangeAt g o (ndC e)):w.rangeAt g o (u8s e.st.id).toList:=fun j u hu=>h j u (by
 unfold ndC
 rw [List.getElem?_append_left (List.getElem?_eq_some_iff.1 hu).1]
 exact hu)
theorem nd_obj (h:w.rangeAt g o (ndC e)) (hid:e.st.id.length=32):w.rangeAt g (o+32) (objC e.o e.ve e.vp):=fun j u hu=>by
 have:=h (32+j) u (by
  unfold ndC
  rw [List.getElem?_append_right (by rw [zAI,hid];omega),zAI,hid,Nat.add_sub_cancel_left]
  exact hu)
 rwa [←Nat.add_assoc] at this
theorem nd_time (h:w.rangeAt g o (ndC e)) (hid:e.st.id.length=32) (ht:e.o.tree.length=32):w.cell? ⟨g,o+32+36,none⟩=some (.int .u32 e.o.time):=nd_obj h hid 36 _ (objC_at ht _ _).2
theorem nd_pars (h:w.rangeAt g o (ndC e)) (hid:e.st.id.length=32) (ht:e.o.tree.length=32):w.cell? ⟨g,o+32+35,none⟩=some e.vp:=nd_obj h hid 35 _ (objC_at ht _ _).1
theorem DitOk.same {e:DiL} (h:DitOk w e) (h1 : ∀ k,e.ve.ownBlock=some k→w'.heap[k]?=w.heap[k]?) (h2 : ∀ k,e.vp.ownBlock=some k→w'.heap[k]?=w.heap[k]?):DitOk w' e:=⟨h.dec,h.id,h.ok,zBG h.oe h1,zBG h.op h2⟩
theorem DitOk.far {S:List (Option Nat)} {e:DiL} (h:DitOk w e) (hf:Far S w w') (h1 : ∀ k,e.ve.ownBlock=some k→some k ∉ S) (h2 : ∀ k,e.vp.ownBlock=some k→some k ∉ S):DitOk w' e:=⟨h.dec,h.id,h.ok,hf.own h.oe h1,hf.own h.op h2⟩
end
abbrev OwnNds (w:World) (B:Nat) (v:Value) (l:List DiL):Prop:=w.ownsRow B 94 104 v l.length (rowsOf ndC l)
structure QAt (w:World) (B:Nat) (v:Value) (Q:List DiL):Prop where
 own:OwnNds w B v Q
 each : ∀ e∈Q,DitOk w e
section
variable {w w':World} {B:Nat} {v:Value} {Q:List DiL}
theorem QAt.len (h:QAt w B v Q) : ∀ e∈Q,(ndC e).length=104:=fun e he=>ndC_len (h.each e he)
theorem QAt.at_ (h:QAt w B v Q):SliceAt w 104 ndC v Q:=SliceAt.of_own h.len h.own
theorem QAt.below (h:QAt w B v Q) (hb:Below w.heap.size w w'):QAt w' B v Q:=⟨zAf h.own hb,fun e he=>(h.each e he).below hb⟩
theorem QAt.apart (h:QAt w B v Q) {e:DiL} (he:DitOk w e):(∀ k,e.ve.ownBlock=some k→some k ∉ [v.ownBlock]) ∧ ∀ k,e.vp.ownBlock=some k→some k ∉ [v.ownBlock]:=
 ⟨fun k hk hm=>own_ne he.oe h.own (by decide) k hk (List.mem_singleton.1 hm).symm,fun k hk hm=>own_ne he.op h.own (by decide) k hk (List.mem_singleton.1 hm).symm⟩
end
def ltN (a b:DiL):Bool:=aheadL a.o.time b.o.time a.st.id b.st.id
theorem ltN_ord : Ord ltN:=ahead_ord (fun e:DiL=>e.o.time) (fun e=>e.st.id)
set_option maxRecDepth 100000 in
set_option maxHeartbeats 1000000 in
theorem zCk (A:Option Addr) (n c:Nat) (w:World):Calls Tryz.prog 36 #[.slice A n c] w fun e w'=>e = .returned (.int .i64 n)∧w'=w:=by
 go_enter Tryz.func36,Tryz.ntmps36
 go_wp2
 go_ret
 exact ⟨rfl,rfl⟩
set_option maxRecDepth 100000 in
set_option maxHeartbeats 4000000 in
theorem zCV {w:World} {B:Nat} {v:Value} {Q:List DiL} (h:QAt w B v Q) {i j:Nat} {x y:DiL} (hx:Q[i]?=some x) (hy:Q[j]?=some y) :
 Calls Tryz.prog 180 #[v, .int .i64 i, .int .i64 j] w fun e w'=>e = .returned (.bool (ltN x y))∧Below w.heap.size w w':=by
 have hxm:=h.each x (List.mem_of_getElem? hx)
 have hym:=h.each y (List.mem_of_getElem? hy)
 have hil:=(List.getElem?_eq_some_iff.1 hx).1
 have hjl:=(List.getElem?_eq_some_iff.1 hy).1
 obtain ⟨A,cap,rfl,hcap1,hcap2,hat⟩:=h.at_
 obtain ⟨g,o,rfl,hg,hc⟩:=hat (by omega)
 have hii:(i:Int)<(Q.length:Int):=by omega
 have hji:(j:Int)<(Q.length:Int):=by omega
 have rx:=fun W (hW:Below w.heap.size w W)=>zAc (hc i x hx) hg hW
 have ry:=fun W (hW:Below w.heap.size w W)=>zAc (hc j y hy) hg hW
 have tx:=fun W (hW:Below w.heap.size w W)=>nd_time (rx W hW) hxm.id hxm.ok.tree
 have ty:=fun W (hW:Below w.heap.size w W)=>nd_time (ry W hW) hym.id hym.ok.tree
 have lx:=fun W (hW:Below w.heap.size w W)=>zAb (nd_id (rx W hW)) hxm.id
 have ly:=fun W (hW:Below w.heap.size w W)=>zAb (nd_id (ry W hW)) hym.id
 have hls:=fun W=>less_calls x.st.id y.st.id hxm.id hym.id W
 obtain ⟨r,hr⟩ : ∃ r,ltN x y=r:=⟨_,rfl⟩
 rw [hr]
 unfold ltN aheadL at hr
 replace hr:=Lib.hid hr
 generalize x.o.time=X at *
 generalize y.o.time=Y at *
 generalize Op.bytesLess x.st.id y.st.id=lb at *
 clear h hxm hym hat hc rx ry hx hy
 go_enter Tryz.func180,Tryz.ntmps180
 go_upto_region 1 with (fail)
 refine zAd (C:=fun W=>Below w.heap.size w W) (by kernel_rfl) (by kernel_rfl) (Below.refl _ _).drew ?_
 repeat
  first
   | ((with_reducible refine zAl ?_ ?_)
      ·(go_simp;done)
      apply Exists.intro
      refine ⟨fun W hW=>?_,?_⟩
      ·first
        | (have q0:=tx W hW
           have q1:=ty W hW
           have q2:=lx W hW
           have q3:=ly W hW
           go_simp
           rfl)
      simp only [Act.put,zA,zB,zC])
   | ((with_reducible refine zAh ?_ ?_)
      ·(first | rfl | (go_simp;done))
      simp only [Act.put,zA,zB,zC])
 with_reducible refine wpQuiet_nil ?_
 intro w5 hW5
 by_cases hXY:X=Y
 ·subst hXY
  have hr2:Hid (lb=r):=Lib.hid (by have:=hr.out;rwa [if_pos rfl] at this)
  have hne:((X:Int) != (X:Int))=false:=by simp
  clear hr
  go_upto_region 3 with (fail)
  refine zAd (C:=fun W=>Below w.heap.size w W) (by kernel_rfl) (by kernel_rfl) hW5.drew ?_
  repeat
   first
    | ((with_reducible refine zAl ?_ ?_)
       ·(go_simp;done)
       apply Exists.intro
       refine ⟨fun W hW=>?_,?_⟩
       ·first
         | (have q2:=lx W hW
            have q3:=ly W hW
            have p1:=zBL hW (hls W)
            go_simp
            first
             | rfl
             | (with_reducible exact p1))
       simp only [Act.put,zA,zB,zC])
    | ((with_reducible refine zAh ?_ ?_)
       ·(first | rfl | (go_simp;done))
       simp only [Act.put,zA,zB,zC])
  with_reducible refine wpQuiet_nil ?_
  intro w6 hW6
  go_wp2
  go_ret
  obtain rfl:lb=r:=hr2.out
  exact ⟨rfl,hW6⟩
 ·have hr2:Hid (decide (Y<X)=r):=Lib.hid (by have:=hr.out;rwa [if_neg hXY] at this)
  have hne:((X:Int) != (Y:Int))=true:=by simp;omega
  clear hr
  go_upto_region 2 with (fail)
  refine zAd (C:=fun W=>Below w.heap.size w W) (by kernel_rfl) (by kernel_rfl) hW5.drew ?_
  repeat
   first
    | ((with_reducible refine zAl ?_ ?_)
       ·(go_simp;done)
       apply Exists.intro
       refine ⟨fun W hW=>?_,?_⟩
       ·first
         | (have q0:=tx W hW
            have q1:=ty W hW
            have q2:=lx W hW
            have q3:=ly W hW
            go_simp
            rfl)
       simp only [Act.put,zA,zB,zC])
    | ((with_reducible refine zAh ?_ ?_)
       ·(first | rfl | (go_simp;done))
       simp only [Act.put,zA,zB,zC])
  with_reducible refine wpQuiet_nil ?_
  intro w6 hW6
  go_wp2
  go_ret
  obtain rfl:decide (Y<X)=r:=hr2.out
  exact ⟨rfl,hW6⟩
end
section
def ldvN (p:Addr):Sem Value:=loadVar 94 p
theorem ldvN_eq (p:Addr):loadVar 94 p=ldvN p:=rfl
def stvN (p:Addr) (v:Value):Sem Unit:=storeVar 94 p v
theorem stvN_eq (p:Addr) (v:Value):storeVar 94 p v=stvN p v:=rfl
theorem zCG {w:World} {g o:Nat} {e:DiL} (h:w.rangeAt g o (ndC e)) (hl:(ndC e).length=104):(ldvN ⟨g,o,none⟩).run Tryz.prog w = .ok (.agg (ndC e).toArray) w:=run_loadVar_mid w g o 94 (ndC e) _ h Tryz.underlying94 rfl (by rw [hl];exact szNd)
theorem run_ldvN {w:World} {g:Nat} {cs:Array Value} (h:Blk w g 94 cs) (hl:cs.size=104):(ldvN ⟨g,0,none⟩).run Tryz.prog w = .ok (.agg cs) w:=run_loadVar_row w g _ _ _ _ _ h Tryz.underlying94 rfl (by rw [hl];exact szNd)
section
attribute [local go_sem ↓] ldvN_eq stvN_eq
set_option maxRecDepth 100000 in
set_option maxHeartbeats 4000000 in
theorem zBZ {w:World} {B:Nat} {v:Value} {Q:List DiL} (h:QAt w B v Q) {i j:Nat} (hi:i<Q.length) (hj:j<Q.length) :
 Calls Tryz.prog 181 #[v, .int .i64 i, .int .i64 j] w fun e w'=>e = .returned (.tuple #[])∧QAt w' B v (swapQ Q i j)∧Far [v.ownBlock] w w':=by
 have hlen:=h.len
 rcases Row.of_own hlen h.own with ⟨_,h0⟩ | ⟨g,cap,rfl,hBg,hrow⟩
 ·subst h0;simp at hi
 have hx:=atQ_get hi
 have hy:=atQ_get hj
 have hxm:=h.each _ (List.mem_of_getElem? hx)
 have hym:=h.each _ (List.mem_of_getElem? hy)
 obtain ⟨x,hxe⟩ : ∃ x,atQ Q i=x:=⟨_,rfl⟩
 obtain ⟨y,hye⟩ : ∃ y,atQ Q j=y:=⟨_,rfl⟩
 have hsw:swapQ Q i j=(Q.set i y).set j x:=by unfold swapQ;rw [hxe,hye]
 rw [hxe] at hx hxm
 rw [hye] at hy hym
 have hxl:=ndC_len hxm
 have hyl:=ndC_len hym
 have hd:=hrow.drew
 have lx:=zCG (hd.at_ i _ hx) hxl
 have ly:=zCG (hd.at_ j _ hy) hyl
 have hcap:=hrow.le
 have r1:=hd.set hlen hi hyl
 have hmem1 : ∀ e∈Q.set i y,DitOk w e:=fun e he=>by
  rcases List.mem_or_eq_of_mem_set he with h1 | h1
  ·exact h.each e h1
  ·rw [h1];exact hym
 have r2:=r1.set (fun e he=>ndC_len (hmem1 e he)) (i:=j) (by rw [List.length_set];exact hj) hxl
 have hmem2 : ∀ e∈(Q.set i y).set j x,DitOk w e:=fun e he=>by
  rcases List.mem_or_eq_of_mem_set he with h1 | h1
  ·exact hmem1 e h1
  ·rw [h1];exact hxm
 have hs1:=run_storeVar_mid (P:=Tryz.prog) w.drew g (i*104) 94 (ndC y).toArray (hd.there (by rw [List.size_toArray,hyl];omega)) (by rw [List.size_toArray,hyl];exact szNd) (all_oneCell_toArray (ndC_one hym))
 have hs2:=run_storeVar_mid (P:=Tryz.prog) (w.drew.setCells g (i*104) (ndC y)) g (j*104) 94 (ndC x).toArray (r1.there (by rw [List.size_toArray,hxl];omega)) (by rw [List.size_toArray,hxl];exact szNd) (all_oneCell_toArray (ndC_one hxm))
 rw [List.toList_toArray] at hs1 hs2
 have hf:Far [some g] w ((w.drew.setCells g (i*104) (ndC y)).setCells g (j*104) (ndC x)):=Far.cells (.inl (List.mem_singleton.2 rfl)) _ _ _ (Far.cells (.inl (List.mem_singleton.2 rfl)) _ _ _ (Far.refl _ w).drew)
 have hfin:QAt ((w.drew.setCells g (i*104) (ndC y)).setCells g (j*104) (ndC x)) B (.slice (some ⟨g,0,none⟩) Q.length cap) (swapQ Q i j):=by
  have ho:=r2.own (fun e he=>ndC_len (hmem2 e he)) hBg
  rw [List.length_set,List.length_set,←hsw] at ho
  refine ⟨?_,fun e he=>?_⟩
  ·unfold OwnNds
   rw [zAW]
   exact ho
  ·rw [hsw] at he
   obtain ⟨a1,a2⟩:=h.apart (hmem2 e he)
   exact (hmem2 e he).far hf a1 a2
 have hii:(i:Int)<(Q.length:Int):=by omega
 have hji:(j:Int)<(Q.length:Int):=by omega
 have hs1':(stvN ⟨g,i*104,none⟩ (.agg (ndC y).toArray)).run Tryz.prog w.drew = .ok () (w.drew.setCells g (i*104) (ndC y)):=hs1
 obtain ⟨W1,hW1⟩ : ∃ W1,w.drew.setCells g (i*104) (ndC y)=W1:=⟨_,rfl⟩
 rw [hW1] at hs1' hs2 hf hfin
 have hs2':(stvN ⟨g,j*104,none⟩ (.agg (ndC x).toArray)).run Tryz.prog W1 = .ok () (W1.setCells g (j*104) (ndC x)):=hs2
 obtain ⟨W2,hW2⟩ : ∃ W2,W1.setCells g (j*104) (ndC x)=W2:=⟨_,rfl⟩
 rw [hW2] at hs2' hf hfin
 obtain ⟨X,hX⟩ : ∃ X,(ndC x).toArray=X:=⟨_,rfl⟩
 obtain ⟨Y,hY⟩ : ∃ Y,(ndC y).toArray=Y:=⟨_,rfl⟩
 rw [hX] at lx hs2'
 rw [hY] at ly hs1'
 have Hf:=Lib.hid hf
 have Hfin:=Lib.hid hfin
 clear hs1 hs2 hW1 hW2 hX hY r1 r2 hmem1 hmem2 hrow hd hx hy hxm hym hxl hyl hxe hye hsw h hlen hf hfin
 go_enter Tryz.func181,Tryz.ntmps181
 go_wp2_with (fail)
 go_region
 all_goals
  go_wp2
  go_end0
  exact ⟨rfl,Hfin.out,Hf.out⟩
end
def appN (N:Nat) (ve:Value) (B:Nat) (e:TypeId) (size n:Nat) (Ψ:List Value→Prop) (v:Value) (F:Foot) (w:World):Prop:=appR B e size n Ψ v F w∧(v.ownBlock=ve.ownBlock ∨ ∀ k,v.ownBlock=some k→N≤k)
theorem appN_stab (N:Nat) (ve:Value) (B:Nat) (e:TypeId) (size n:Nat) (Ψ:List Value→Prop) (v:Value):Stab (appN N ve B e size n Ψ v):=fun F F' w w' hf ha ⟨h1,h2⟩=>⟨zDY B e size n Ψ v F F' w w' hf ha h1,h2⟩
section
variable {P:Program} {ops:Array Oper} {w0:World} {rows:List (Option Nat)} {pres:Pres} {sps:List Sp} {E:Act→Facts→Prop} {i:Nat} {rest:List Oper} {s:Sp} {ss:List Sp} {a:Act} {D:Facts}
theorem lx_append1N {d:Option Tmp} {rt:TypeId} {pos:String} {af:Array Edge} {sl x:Operand} {t e:TypeId} {z:Value} {size bytes:Nat} (hT:SliceTy P t e z size bytes) (N:Nat) (hN:N≤w0.heap.size) (B:Nat) (ve:Value) (n:Nat) (xs:List Value) (Ψ:List Value→Prop) (h63:n+1≤9223372036854775807) (hby:(n+1)*bytes≤140737488355328)
 (hB:B≤w0.heap.size) (hp:(i,ve.ownBlock,fun w=>World.ownsRow w B e size ve n xs)∈pres) (hs:s = .wr fun _=>appN N ve B e size (n+1) Ψ)
 (h : ∃ v1 v2,a.eval sl=v1∧a.eval x=v2∧v1=ve∧(∀ w,Far rows w0 w→Have ops pres i D w → ∃ g cs,v2 = .slice (some ⟨g,0,none⟩) 1 1∧Blk w g e cs∧cs.size=size∧(∀ u∈cs.toList,u.oneCell'=true)∧Ψ (xs++cs.toList)) ∧ ∀ v,LxL P ops w0 rows pres sps E (i+1) rest ss (a.put d v) ((i,appN N ve B e size (n+1) Ψ v)::D)) :
 LxL P ops w0 rows pres sps E i ({ dst:=d,op := .call { callee := .builtin .append,args := #[sl,x],argTypes := #[t,t] },type:=rt,pos:=pos,after:=af,guard:=none }::rest) (s::ss) a D:=by
 obtain ⟨_,_,rfl,rfl,hv,hc,h⟩:=h
 refine lx_wr ve.ownBlock _ (fun _=>appN N ve B e size (n+1) Ψ) hs hp (by simp [Region.wanted]) (fun _=>appN_stab N ve B e size (n+1) Ψ) (fun w hw hh hown=>?_) h
 obtain ⟨g,cs,hx,hk,hcs,h1,hps⟩:=hc w hw hh
 obtain ⟨it,i1,i2,i3,i4⟩:=hT.hi
 have hbase:B≤w.heap.size:=Nat.le_trans hB hw.size
 obtain ⟨v',w',hrun,hown',hg,_,hat⟩:=run_append_own_at (P:=P) w B t rt e it z size bytes hT.ht i1 i2 i3 i4 hT.hzs hT.hsz ve n xs hown ⟨g,0,none⟩ 1 1 cs.toList (by simp [hcs]) (zBX hk) h1 (by simp only [maxLen];omega) hby hbase
 refine zBO (v:=v') (w':=w') ?_ ⟨hg,fun F _ hF2 hF3=>⟨⟨_,hps,hown',fun k hk=>?_⟩,?_⟩⟩
 ·unfold execOp
  simp only [resolve,invoke,builtin,Sem.run_bind,Sem.run_pure,Result.andThen_ok,List.map_toArray,List.map_cons,List.map_nil,hv,hx,hrun]
 ·rcases hat with hat | hat
  ·rw [hat] at hk;exact hF2 k hk.symm
  ·rw [hat] at hk
   injection hk with hk
   subst hk
   exact hF3 _ (Nat.le_refl _) (World.ownsRow.lt hown' _ hat).2
 ·rcases hat with hat | hat
  ·exact .inl hat
  ·refine .inr fun k hk=>?_
   rw [hat] at hk
   injection hk with hk
   subst hk
   exact Nat.le_trans hN hw.size
end
structure WqAt (w:World) (B g:Nat) (vs vq vn:Value) (Q:List DiL):Prop where
 blk:Blk w g 89 #[vs,vq,vn]
 q:QAt w B vq Q
section
variable {w w':World} {B g:Nat} {vs vq vn:Value} {Q:List DiL}
theorem WqAt.c1 (h:WqAt w B g vs vq vn Q):w.cell? ⟨g,1,none⟩=some vq:=by rw [h.blk.cell];rfl
theorem WqAt.below (h:WqAt w B g vs vq vn Q) (hb:Below w.heap.size w w'):WqAt w' B g vs vq vn Q:=⟨h.blk.below hb h.blk.lt,h.q.below hb⟩
theorem run_assertN (v:Value) (W:World):(Instr.typeAssert (.iface 94 v) 20 94 false).run Tryz.prog W = .ok v W:=by kernel_rfl
theorem WqAt.apart (h:WqAt w B g vs vq vn Q) {e:DiL} (he:DitOk w e):(∀ k,e.ve.ownBlock=some k→some k ∉ [some g,vq.ownBlock]) ∧ ∀ k,e.vp.ownBlock=some k→some k ∉ [some g,vq.ownBlock]:=by
 obtain ⟨a1,a2⟩:=h.q.apart he
 refine ⟨fun k hk hm=>?_,fun k hk hm=>?_⟩
 ·rcases List.mem_cons.1 hm with h1 | h1
  ·exact zAs he.oe h.blk (by decide) (h1.symm.trans hk.symm)
  ·exact a1 k hk h1
 ·rcases List.mem_cons.1 hm with h1 | h1
  ·exact zAs he.op h.blk (by decide) (h1.symm.trans hk.symm)
  ·exact a2 k hk h1
end
set_option maxRecDepth 100000 in
set_option maxHeartbeats 4000000 in
theorem queuePush_calls {w:World} {B g:Nat} {vs vq vn:Value} {Q:List DiL} (h:WqAt w B g vs vq vn Q) (hB:B≤w.heap.size) (hbig:Q.length≤600000) {e0:DiL} (he:DitOk w e0) :
 Calls Tryz.prog 184 #[.pointer (some ⟨g,1,none⟩), .iface 94 (.agg (ndC e0).toArray)] w fun e w'=>e = .returned (.tuple #[]) ∧ ∃ vq',WqAt w' B g vs vq' vn (Q++[e0])∧Far [some g,vq.ownBlock] w w'∧Newer w vq vq':=by
 obtain ⟨A,cq,rfl⟩:=zAm h.q.own
 have hpre:=preOk2 (i:=7) (j:=9) h.q.own h.blk (by decide)
 have hl0:=ndC_len he
 have h1:=ndC_one he
 obtain ⟨XC,hXC⟩ : ∃ XC,(ndC e0).toArray=XC:=⟨_,rfl⟩
 have hxl:XC.size=104:=by rw [←hXC,List.size_toArray,hl0]
 have hxone : ∀ u∈XC.toList,u.oneCell'=true:=by rw [←hXC,List.toList_toArray];exact h1
 have hAk:Q.length+1≤9223372036854775807:=by omega
 have hAb:(Q.length+1)*216≤140737488355328:=by omega
 have hta:=run_assertN (.agg XC)
 have hlo:1<(#[vs, .slice A Q.length cq,vn]:Array Value).size:=by simp
 have H:=Lib.hid h
 have He:=Lib.hid he
 have HXC:=Lib.hid hXC
 have hBd:B≤w.drew.heap.size:=hB
 have hNd:w.heap.size≤w.drew.heap.size:=Nat.le_refl _
 rw [hXC]
 clear h he hXC h1 hl0
 go_enter Tryz.func184,Tryz.ntmps184
 go_wp2_with (fail)
 refine zBA 10 [(7,(Value.slice A Q.length cq).ownBlock,fun w=>World.ownsRow w B 94 104 (.slice A Q.length cq) Q.length (rowsOf ndC Q)),(9,some g,fun w=>Blk w g 89 #[vs, .slice A Q.length cq,vn])] hpre (by kernel_rfl) (by kernel_rfl) (by kernel_rfl) (by kernel_rfl) ?_
 simp only [exSp]
 iterate 10 apply Exists.intro
 repeat
  first
   | ((with_reducible apply lx_ex)
      ·(go_simp;done)
      apply Exists.intro
      apply And.intro
      ·apply Eq.refl
      apply And.intro
      ·intro W hF hD
       first
        | (have q2:W.cell? ⟨g,1,none⟩=some (.slice A Q.length cq):=by rw [(hD.was 1 rfl (by kernel_rfl)).cell];rfl
           have q3:=hta W
           go_simp
           rfl)
        | (have q3:=hta W
           go_simp
           rfl)
      simp only [Act.put,zA,zB,zC])
   | ((with_reducible apply lx_pass)
      ·(first | rfl | (go_simp;done))
      ·apply Eq.refl
      simp only [Act.put,zA,zB,zC])
   | (first | (with_reducible apply zA1) | (with_reducible apply zAK)
      ·apply Eq.refl
      apply Exists.intro
      apply And.intro
      ·(go_simp;rfl)
      simp only [Act.put,zA,zB,zC])
   | ((with_reducible apply zB2 Tryz.ndTy (fun cs=>cs=XC) (by omega))
      ·apply Eq.refl
      apply Exists.intro
      apply And.intro
      ·(go_simp;rfl)
      refine ⟨fun W hF hD=>?_,?_⟩
      ·exact ⟨XC,rfl,hxl,rfl⟩
      intro v
      simp only [Act.put,zA,zB,zC])
   | ((with_reducible apply lx_append1N Tryz.ndTy w.heap.size hNd B (.slice A Q.length cq) Q.length (rowsOf ndC Q) (fun xs=>xs=rowsOf ndC Q++XC.toList) hAk hAb)
      ·exact hBd
      ·first | exact List.Mem.head _ | exact List.Mem.tail _ (List.Mem.head _) | exact List.Mem.tail _ (List.Mem.tail _ (List.Mem.head _)) | exact List.Mem.tail _ (List.Mem.tail _ (List.Mem.tail _ (List.Mem.head _)))
      ·apply Eq.refl
      apply Exists.intro
      apply Exists.intro
      apply And.intro
      ·(go_simp;rfl)
      apply And.intro
      ·(go_simp;rfl)
      refine ⟨rfl,fun W hF hD=>?_,?_⟩
      ·obtain ⟨F,g5,cs,rfl,_,hk5,rfl⟩:=hD.at 0 rfl (by kernel_rfl)
       exact ⟨g5,_,rfl,hk5,hxl,hxone,rfl⟩
      intro v
      simp only [Act.put,zA,zB,zC])
   | ((with_reducible apply lx_put g 1 #[vs, .slice A Q.length cq,vn] 89)
      ·exact (fun _=>by kernel_rfl)
      ·exact hlo
      ·first | exact List.Mem.head _ | exact List.Mem.tail _ (List.Mem.head _) | exact List.Mem.tail _ (List.Mem.tail _ (List.Mem.head _)) | exact List.Mem.tail _ (List.Mem.tail _ (List.Mem.tail _ (List.Mem.head _)))
      ·apply Eq.refl
      apply Exists.intro
      apply Exists.intro
      apply And.intro
      ·(go_simp;rfl)
      apply And.intro
      ·(go_simp;rfl)
      refine ⟨rfl,fun W hF hD=>?_,?_⟩
      ·obtain ⟨F,⟨xs,_,hv,_⟩,_⟩:=hD.at 0 rfl (by kernel_rfl)
       obtain ⟨A6,c6,rfl⟩:=zAm hv
       exact ⟨_,_,_,rfl⟩)
 refine lxP_nil ?_ fun w5 hF5 hD5=>?_
 ·exact List.nodup_nil
 have hf:Far [some g,(Value.slice A Q.length cq).ownBlock] w w5:=(hF5.mono fun k hk=>by
  simp only [rowsOfP,List.map_cons,List.map_nil,List.mem_cons,List.not_mem_nil,or_false] at hk ⊢
  exact hk.symm)
 obtain ⟨_,hg5,hb5⟩:=hD5 _ (.head _)
 obtain ⟨_,⟨xs,hxs,hv5,hk5⟩,hnw⟩:=hD5 _ (.tail _ (.head _))
 have hlen:(Q++[e0]).length=Q.length+1:=by rw [List.length_append];rfl
 have hrow:rowsOf ndC (Q++[e0])=rowsOf ndC Q++XC.toList:=by rw [zAo,zAx,←HXC.out,List.toList_toArray]
 have hq:QAt w5 B v (Q++[e0]):=by
  refine ⟨?_,fun e he=>?_⟩
  ·unfold OwnNds
   rw [hlen,hrow,←hxs]
   exact hv5
  ·have he:DitOk w e:=by
    rcases List.mem_append.1 he with h1 | h1
    ·exact H.out.q.each e h1
    ·rw [List.mem_singleton.1 h1];exact He.out
   obtain ⟨a1,a2⟩:=H.out.apart he
   exact he.far hf a1 a2
 have hfin:WqAt w5 B g vs v vn (Q++[e0]):=⟨hb5,hq⟩
 clear hD5 hF5 hb5 hq hv5 hpre
 go_wp2
 go_end0
 exact ⟨rfl,v,hfin,hf,hnw⟩
attribute [local go_sem ↓] ldvN_eq
set_option maxRecDepth 100000 in
set_option maxHeartbeats 4000000 in
theorem queuePop_calls {w:World} {B g:Nat} {vs vq vn:Value} {Q:List DiL} {e0:DiL} (h:WqAt w B g vs vq vn (Q++[e0])) :
 Calls Tryz.prog 183 #[.pointer (some ⟨g,1,none⟩)] w fun e w'=>e = .returned (.iface 94 (.agg (ndC e0).toArray)) ∧ ∃ vq',WqAt w' B g vs vq' vn Q∧vq'.ownBlock=vq.ownBlock∧Far [some g] w w':=by
 have hlen:=h.q.len
 rcases Row.of_own hlen h.q.own with ⟨_,h0⟩ | ⟨gr,cap,rfl,hBg,hrow⟩
 ·simp at h0
 have hle:(Q++[e0]).length=Q.length+1:=by rw [List.length_append];rfl
 rw [hle] at h ⊢
 have hx:(Q++[e0])[Q.length]?=some e0:=by simp
 have hel:=hlen e0 (by simp)
 have heone:=ndC_one (h.q.each e0 (by simp))
 have hri:=fun W (hW:Below w.heap.size w W)=>zCG (zAc (hrow.at_ Q.length e0 hx) hrow.lt hW) hel
 have hri0:=hri w (Below.refl _ _)
 have hcap:=hrow.le
 rw [hle] at hcap
 have htop:=hrow.top63
 obtain ⟨XC,hXC⟩ : ∃ XC,(ndC e0).toArray=XC:=⟨_,rfl⟩
 have hxl:XC.size=104:=by rw [←hXC,List.size_toArray,hel]
 have hxone:XC.all (·.oneCell')=true:=by rw [←hXC];exact all_oneCell_toArray heone
 rw [hXC] at hri hri0 ⊢
 have hszx:(Tryz.prog.info? 94).map (·.size)=some XC.size:=by rw [hxl];exact szNd
 have hq1:(Q.length:Int)<((Q.length+1:Nat):Int):=by omega
 have hq2:IntKind.i64.wrap (((Q.length+1:Nat):Int)-1)=(Q.length:Int):=by rw [IntWalk.i64_in _ (by omega)];omega
 have hc1 : ∀ W,Below w.heap.size w W→W.cell? ⟨g,1,none⟩=some (.slice (some ⟨gr,0,none⟩) (Q.length+1) cap):=fun W hW=>(h.below hW).c1
 have hc10:=hc1 w (Below.refl _ _)
 have hcut:=(hrow.cut Q.length).own (fun y hy=>hlen y (List.mem_of_mem_take hy)) hBg
 rw [List.take_left] at hcut
 have H:=Lib.hid h
 have hbk:=h.blk
 have hgl:=h.blk.lt
 have hgne:w.heap.size≠g:=by omega
 have hne:gr≠g:=fun e=>zAs h.q.own h.blk (by decide) (by rw [e];rfl)
 clear hrow hlen hx hel heone hXC h hle
 go_enter Tryz.func183,Tryz.ntmps183
 go_wp2_with (first
  | ((with_reducible refine lit_new 94 (.tmp 4) (.tmp 15) XC 104 szNd hxl hxone _ ?_ ?_ ?_ ?_)
     ·first | exact hxl | kernel_rfl
     ·rfl
     ·rfl
     intro W3 hb3 hbl3
     have d1:=hc1 W3 hbl3
     have fz:=(hbk.below hbl3 hgl).frozen 1
     have ld4:=run_ldvN (hb3.far (p:=⟨g,1,none⟩) hgne (.slice (some ⟨gr,0,none⟩) Q.length cap)) hxl))
 have hf:Far [some g] w (W3.setCell ⟨g,1,none⟩ (.slice (some ⟨gr,0,none⟩) Q.length cap)):=(Far.of_below hbl3).set_ (p:=⟨g,1,none⟩) (.inl (List.mem_singleton.2 rfl)) _
 have hfin:WqAt (W3.setCell ⟨g,1,none⟩ (.slice (some ⟨gr,0,none⟩) Q.length cap)) B g vs (.slice (some ⟨gr,0,none⟩) Q.length cap) vn Q:=by
  refine ⟨(hbk.below hbl3 hgl).set_ 1 _,⟨?_,fun e he=>?_⟩⟩
  ·have:=hf.own hcut (fun k hk hm=>by
    rw [List.mem_singleton] at hm
    injection hm with hm
    injection hk with hk
    exact hne (hk.trans hm))
   exact this
  ·have he':=H.out.q.each e (List.mem_append_left _ he)
   obtain ⟨a1,a2⟩:=H.out.apart he'
   exact he'.far hf (fun k hk hm=>a1 k hk (List.mem_cons.2 (.inl (List.mem_singleton.1 hm)))) (fun k hk hm=>a2 k hk (List.mem_cons.2 (.inl (List.mem_singleton.1 hm))))
 clear hc1 hri hri0 hcut hbk H d1 fz ld4
 go_ret
 exact ⟨rfl,_,hfin,rfl,hf⟩
end
section
theorem method_row {name:String} {f:FuncId} {b:Bool} (h:(Tryz.prog.info? 122).map (fun i=>(i.methods.find? (·.name==name)).map fun m=>(m.path.size,m.func))=some (some (0,some (f,b)))) : ∃ i m,Tryz.prog.info? 122=some i∧i.methods.find? (·.name==name)=some m∧m.path = #[]∧m.func=some (f,b):=by
 obtain ⟨i,h1,h2⟩:=Option.map_eq_some_iff.1 h
 obtain ⟨m,h3,h4⟩:=Option.map_eq_some_iff.1 h2
 injection h4 with h5 h6
 exact ⟨i,m,h1,h3,Array.eq_empty_of_size_eq_zero h5,h6⟩
theorem zD7 {name:String} {f:FuncId} (h0:(Tryz.prog.info? 122).map (fun i=>(i.methods.find? (·.name==name)).map fun m=>(m.path.size,m.func))=some (some (0,some (f,false)))) (n:Nat) {g:Nat} {v:Value} {w:World} (h:w.cell? ⟨g,1,none⟩=some v):(method (n+1) 122 (.pointer (some ⟨g,1,none⟩)) name).run Tryz.prog w = .ok (f,v) w:=by
 obtain ⟨i,m,h1,h2,h3,h4⟩:=method_row h0
 have hd:(Go.loadVar 86 ⟨g,1,none⟩).run Tryz.prog w = .ok v w:=by go_simp
 unfold method
 have hu:Tryz.prog.underlying 122=some (.pointer 86):=by kernel_rfl
 have hs : ∀ s1 s2:String,(Builtin.ssaWrapNilChk_ #[122] 122 #[.pointer (some ⟨g,1,none⟩),strVal s1,strVal s2]).run Tryz.prog w = .ok (.pointer (some ⟨g,1,none⟩)) w:=fun _ _=>rfl
 simp [typeInfo,h1,h2,h3,h4,follow,receiverAt,run_underlying hu,Place.get,asAddr,hs,hd]
section
variable (n:Nat) {g:Nat} {v:Value} {w:World} (h:w.cell? ⟨g,1,none⟩=some v)
include h
theorem method_len : (method (n+1) 122 (.pointer (some ⟨g,1,none⟩)) "Len").run Tryz.prog w = .ok (36,v) w:=zD7 (by kernel_rfl) n h
theorem method_less : (method (n+1) 122 (.pointer (some ⟨g,1,none⟩)) "Less").run Tryz.prog w = .ok (180,v) w:=zD7 (by kernel_rfl) n h
theorem zDl : (method (n+1) 122 (.pointer (some ⟨g,1,none⟩)) "Swap").run Tryz.prog w = .ok (181,v) w:=zD7 (by kernel_rfl) n h
end
theorem method_push (n:Nat) (a:Addr) (w:World):(method (n+1) 122 (.pointer (some a)) "Push").run Tryz.prog w = .ok (184, .pointer (some a)) w:=by kernel_rfl
theorem zEs (n:Nat) (a:Addr) (w:World):(method (n+1) 122 (.pointer (some a)) "Pop").run Tryz.prog w = .ok (183, .pointer (some a)) w:=by kernel_rfl
section
variable {w w':World} {B g:Nat} {vs vq vn:Value} {Q:List DiL}
theorem WqAt.swap (h:WqAt w B g vs vq vn Q) {Q':List DiL} (hq:QAt w' B vq Q') (hf:Far [vq.ownBlock] w w'):WqAt w' B g vs vq vn Q':=
 ⟨hf.blk h.blk fun hm=>zAs h.q.own h.blk (by decide) (List.mem_singleton.1 hm),hq⟩
theorem QAt.mem (h:QAt w B vq Q) {i:Nat} (hi:i<Q.length):DitOk w (atQ Q i):=h.each _ (List.mem_of_getElem? (atQ_get hi))
end
set_option maxRecDepth 100000 in
set_option maxHeartbeats 4000000 in
theorem heapUp_calls {w:World} {B g:Nat} {vs vq vn:Value} {Q:List DiL} (h:WqAt w B g vs vq vn Q) (hbig:Q.length≤700000) (j:Nat) (hj:j<Q.length) (f:Nat) (hf:j<f) :
 Calls Tryz.prog 91 #[.iface 122 (.pointer (some ⟨g,1,none⟩)), .int .i64 j] w fun e w'=>e = .returned (.tuple #[])∧WqAt w' B g vs vq vn (upQ ltN f Q j)∧Far [vq.ownBlock] w w':=by
 obtain ⟨R,hR⟩ : ∃ R,upQ ltN f Q j=R:=⟨_,rfl⟩
 rw [hR]
 replace hR:=Lib.hid hR
 obtain ⟨N,hN⟩ : ∃ N,Q.length=N:=⟨_,rfl⟩
 rw [hN] at hbig hj
 go_enter Tryz.func91,Tryz.ntmps91
 go_wp2_with (fail)
 go_loopg [1] f (fun f vj wr => ∃ (j:Nat) (Q:List DiL),vj = .int .i64 j∧j<f∧j<N∧Hid (Q.length=N)∧WqAt wr B g vs vq vn Q∧Hid (upQ ltN f Q j=R)∧Far [vq.ownBlock] w wr)
 case atStart=>exact ⟨j,Q,rfl,hf,hj,Lib.hid hN,h,hR,Far.refl _ _⟩
 case round=>
  clear h hR hN hj hf
  obtain ⟨j,Q,rfl,hf,hj,hN,h,hR,hfar⟩:=hrel
  cases gk with
  | zero=>omega
  | succ f=>
    have hN':=hN.out
    by_cases h0:j=0
    ·subst h0
     have hRQ:Q=R:=by rw [←hR.out];unfold upQ;rw [if_pos (.inl rfl)]
     go_wp2_with (fail)
     go_end0
     exact ⟨rfl,hRQ▸h,hfar⟩
    ·have hw1:IntKind.i64.wrap ((j:Int)-1)=(j:Int)-1:=IntWalk.i64_in _ (by omega)
     have hw2:(((j:Int)-1).tdiv 2)=(par j:Int):=by rw [show (j:Int)-1=((j-1:Nat):Int) by omega];rfl
     have hpl:=par_lt (show 0<j by omega)
     have hpj:((par j:Int)==(j:Int))=false:=by simp;omega
     have ml:=fun n=>method_less n h.c1
     have hl:=Lib.hid (zCV h.q (atQ_get (show j<Q.length by omega)) (atQ_get (show par j<Q.length by omega)))
     have hst:par j≠j:=by omega
     have hno:ltN (atQ Q j) (atQ Q (par j))=false→Q=R:=fun e=>by rw [←hR.out];unfold upQ;rw [if_pos (.inr e)]
     have hyes:ltN (atQ Q j) (atQ Q (par j))=true→Hid (upQ ltN f (swapQ Q (par j) j) (par j)=R):=fun e=>Lib.hid (by
      have:=hR.out
      unfold upQ at this
      rwa [if_neg (fun h=>h.elim hst fun h=>by rw [e] at h;cases h)] at this)
     have hlen:Hid ((swapQ Q (par j) j).length=N):=Lib.hid (by rw [zAW];exact hN')
     have hsw:=fun W (hW:Below wr.heap.size wr W)=>Lib.hid (zBZ (h.below hW).q (show par j<Q.length by omega) (show j<Q.length by omega))
     generalize ltN (atQ Q j) (atQ Q (par j))=b at *
     generalize par j=pj at *
     clear hN' hR hst
     cases b with
     | false=>
       have hRQ:=hno rfl
       clear hyes hno hsw
       go_wp2_with (first
        | ((with_reducible refine hl.out.mono ?_);rintro e w2 ⟨rfl,hb2⟩))
       go_end0
       exact ⟨rfl,hRQ▸h.below hb2,hfar.more hb2⟩
     | true=>
       have hR2:=hyes rfl
       clear hyes hno
       go_wp2_with (first
        | ((with_reducible refine hl.out.mono ?_);rintro e w2 ⟨rfl,hb2⟩
           have h2:=h.below hb2
           have ms:=fun n=>zDl n h2.c1
           have hs2:=hsw w2 hb2)
        | ((with_reducible refine hs2.out.mono ?_);rintro e w3 ⟨rfl,hq3,hf3⟩))
       have h3:=h2.swap hq3 hf3
       have hfar3:=(hfar.more hb2).trans hf3
       clear hl hsw hs2 ml ms h2 hq3 h
       go_roundg f
       case rel=>exact ⟨pj,_,rfl,by omega,by omega,hlen,h3,hR2,hfar3⟩
       case measure=>omega
set_option maxRecDepth 100000 in
set_option maxHeartbeats 8000000 in
theorem heapDown_calls {w:World} {B g:Nat} {vs vq vn:Value} {Q:List DiL} (h:WqAt w B g vs vq vn Q) (hbig:Q.length≤700000) (n:Nat) (hn:n≤Q.length) (f:Nat) (hf:n≤f) :
 Calls Tryz.prog 92 #[.iface 122 (.pointer (some ⟨g,1,none⟩)), .int .i64 0, .int .i64 n] w fun e w'=>(∃ b,e = .returned (.bool b))∧WqAt w' B g vs vq vn (downQ ltN f Q 0 n)∧Far [vq.ownBlock] w w':=by
 obtain ⟨R,hR⟩ : ∃ R,downQ ltN f Q 0 n=R:=⟨_,rfl⟩
 rw [hR]
 replace hR:=Lib.hid hR
 obtain ⟨N,hN⟩ : ∃ N,Q.length=N:=⟨_,rfl⟩
 rw [hN] at hbig hn
 go_enter Tryz.func92,Tryz.ntmps92
 go_wp2_with (fail)
 go_loopg [7] f (fun f vi wr => ∃ (i:Nat) (Q:List DiL),vi = .int .i64 i∧n≤i+f∧i≤N∧Hid (Q.length=N)∧WqAt wr B g vs vq vn Q∧Hid (downQ ltN f Q i n=R)∧Far [vq.ownBlock] w wr)
 case atStart=>exact ⟨0,Q,rfl,by omega,by omega,Lib.hid hN,h,hR,Far.refl _ _⟩
 case round=>
  clear h hR hN hf
  obtain ⟨i,Q,rfl,hf,hi,hN,h,hR,hfar⟩:=hrel
  have hN':=hN.out
  obtain ⟨J1,hJ1⟩ : ∃ J1,2*i+1=J1:=⟨_,rfl⟩
  have hw1:IntKind.i64.wrap (2*(i:Int))=2*(i:Int):=IntWalk.i64_in _ (by omega)
  have hw2:IntKind.i64.wrap (2*(i:Int)+1)=(J1:Int):=by rw [IntWalk.i64_in _ (by omega)];omega
  by_cases hnJ:n≤J1
  ·have hRQ:Q=R:=by
    rw [←hR.out]
    cases gk with
    | zero=>rfl
    | succ f=>unfold downQ;rw [if_pos (.inl (by omega))]
   have hni:(n:Int)≤(J1:Int):=by omega
   clear hJ1
   go_wp2_with (fail)
   go_ret
   exact ⟨⟨_,rfl⟩,hRQ▸h,hfar⟩
  ·cases gk with
   | zero=>omega
   | succ f=>
     have hni : ¬ (n:Int)≤(J1:Int):=by omega
     have hnn : ¬ (J1:Int)<0:=by omega
     obtain ⟨J2,hJ2⟩ : ∃ J2,J1+1=J2:=⟨_,rfl⟩
     have hw3:IntKind.i64.wrap ((J1:Int)+1)=(J2:Int):=by rw [IntWalk.i64_in _ (by omega)];omega
     have hlen : ∀ k,Hid ((swapQ Q i k).length=N):=fun k=>Lib.hid (by rw [zAW];exact hN')
     have hno:ltN (atQ Q (minC ltN Q i n)) (atQ Q i)=false→Q=R:=fun e=>by rw [←hR.out];unfold downQ;rw [if_pos (.inr e)]
     have hyes:ltN (atQ Q (minC ltN Q i n)) (atQ Q i)=true→Hid (downQ ltN f (swapQ Q i (minC ltN Q i n)) (minC ltN Q i n) n=R):=fun e=>Lib.hid (by
      have:=hR.out
      unfold downQ at this
      rwa [if_neg (fun h=>h.elim (fun h=>by omega) fun h=>by rw [e] at h;cases h)] at this)
     have hmin:minC ltN Q i n=if J2<n∧ltN (atQ Q J2) (atQ Q J1)=true then J2 else J1:=by unfold minC;rw [hJ1,hJ2]
     have hles:=fun (a b:Nat) (ha:a<n) (hb:b<n) W (hW:Below wr.heap.size wr W)=>Lib.hid (zCV (h.below hW).q (atQ_get (show a<Q.length by omega)) (atQ_get (show b<Q.length by omega)))
     have hsw:=fun (a b:Nat) (ha:a<n) (hb:b<n) W (hW:Below wr.heap.size wr W)=>Lib.hid (zBZ (h.below hW).q (show a<Q.length by omega) (show b<Q.length by omega))
     have mls:=fun W (hW:Below wr.heap.size wr W) (k:Nat)=>method_less k (h.below hW).c1
     have mss:=fun W (hW:Below wr.heap.size wr W) (k:Nat)=>zDl k (h.below hW).c1
     have ml:=mls wr (Below.refl _ _)
     have hgt:i<J1∧i<J2∧J1<n:=by omega
     clear hJ1 hN' hR
     by_cases h2n:J2<n
     ·have h2i:(J2:Int)<(n:Int):=by omega
      have hl1:=hles J2 J1 h2n (by omega) wr (Below.refl _ _)
      cases hb1:ltN (atQ Q J2) (atQ Q J1) with
      | true=>
        rw [hb1] at hl1 hmin
        rw [if_pos ⟨h2n,rfl⟩] at hmin
        rw [hmin] at hno hyes
        have hmn:=h2n
        clear hmin hb1
        have hl2:=fun W (hW:Below wr.heap.size wr W)=>hles J2 i hmn (by omega) W hW
        have hsw2:=fun W (hW:Below wr.heap.size wr W)=>hsw i J2 (by omega) hmn W hW
        clear hles hsw
        generalize ltN (atQ Q J2) (atQ Q i)=b at *
        cases b with
        | false=>
          have hRQ:=hno rfl
          clear hyes hno hsw2
          go_wp2_with (first
           | ((with_reducible refine hl1.out.mono ?_);rintro e w2 ⟨rfl,hb2⟩
              have hl2':=hl2 w2 hb2
              have ml2:=mls w2 hb2)
           | ((with_reducible refine hl2'.out.mono ?_);rintro e w3 ⟨rfl,hb3⟩
              have b3:=bthen hb2 hb2.size hb3))
          go_ret
          exact ⟨⟨_,rfl⟩,hRQ▸h.below b3,hfar.more b3⟩
        | true=>
          have hR2:=hyes rfl
          clear hyes hno
          go_wp2_with (first
           | ((with_reducible refine hl1.out.mono ?_);rintro e w2 ⟨rfl,hb2⟩
              have hl2':=hl2 w2 hb2
              have ml2:=mls w2 hb2)
           | ((with_reducible refine hl2'.out.mono ?_);rintro e w3 ⟨rfl,hb3⟩
              have b3:=bthen hb2 hb2.size hb3
              have h3:=h.below b3
              have ms3:=mss w3 b3
              have hs3:=hsw2 w3 b3)
           | ((with_reducible refine hs3.out.mono ?_);rintro e w4 ⟨rfl,hq4,hf4⟩))
          have h4:=h3.swap hq4 hf4
          have hfar4:=(hfar.more b3).trans hf4
          have hlen4:=hlen J2
          clear hl2 hsw2 hs3 hl2' ml mls mss ms3 h3 hq4 h hlen
          go_roundg f
          case rel=>exact ⟨J2,_,rfl,by omega,by omega,hlen4,h4,hR2,hfar4⟩
          case measure=>omega
      | false=>
        rw [hb1] at hl1 hmin
        rw [if_neg (fun h=>by cases h.2)] at hmin
        rw [hmin] at hno hyes
        have hmn:=hgt.2.2
        clear hmin hb1
        have hl2:=fun W (hW:Below wr.heap.size wr W)=>hles J1 i hmn (by omega) W hW
        have hsw2:=fun W (hW:Below wr.heap.size wr W)=>hsw i J1 (by omega) hmn W hW
        clear hles hsw
        generalize ltN (atQ Q J1) (atQ Q i)=b at *
        cases b with
        | false=>
          have hRQ:=hno rfl
          clear hyes hno hsw2
          go_wp2_with (first
           | ((with_reducible refine hl1.out.mono ?_);rintro e w2 ⟨rfl,hb2⟩
              have hl2':=hl2 w2 hb2
              have ml2:=mls w2 hb2)
           | ((with_reducible refine hl2'.out.mono ?_);rintro e w3 ⟨rfl,hb3⟩
              have b3:=bthen hb2 hb2.size hb3))
          go_ret
          exact ⟨⟨_,rfl⟩,hRQ▸h.below b3,hfar.more b3⟩
        | true=>
          have hR2:=hyes rfl
          clear hyes hno
          go_wp2_with (first
           | ((with_reducible refine hl1.out.mono ?_);rintro e w2 ⟨rfl,hb2⟩
              have hl2':=hl2 w2 hb2
              have ml2:=mls w2 hb2)
           | ((with_reducible refine hl2'.out.mono ?_);rintro e w3 ⟨rfl,hb3⟩
              have b3:=bthen hb2 hb2.size hb3
              have h3:=h.below b3
              have ms3:=mss w3 b3
              have hs3:=hsw2 w3 b3)
           | ((with_reducible refine hs3.out.mono ?_);rintro e w4 ⟨rfl,hq4,hf4⟩))
          have h4:=h3.swap hq4 hf4
          have hfar4:=(hfar.more b3).trans hf4
          have hlen4:=hlen J1
          clear hl2 hsw2 hs3 hl2' ml mls mss ms3 h3 hq4 h hlen
          go_roundg f
          case rel=>exact ⟨J1,_,rfl,by omega,by omega,hlen4,h4,hR2,hfar4⟩
          case measure=>omega
     ·have h2i : ¬ (J2:Int)<(n:Int):=by omega
      rw [if_neg (fun h=>h2n h.1)] at hmin
      rw [hmin] at hno hyes
      have hmn:=hgt.2.2
      clear hmin
      have hl2:=fun W (hW:Below wr.heap.size wr W)=>hles J1 i hmn (by omega) W hW
      have hsw2:=fun W (hW:Below wr.heap.size wr W)=>hsw i J1 (by omega) hmn W hW
      clear hles hsw
      generalize ltN (atQ Q J1) (atQ Q i)=b at *
      cases b with
      | false=>
        have hRQ:=hno rfl
        clear hyes hno hsw2
        have hl2':=hl2 wr (Below.refl _ _)
        go_wp2_with (first
         | ((with_reducible refine hl2'.out.mono ?_);rintro e w3 ⟨rfl,hb3⟩
            have b3:=hb3))
        go_ret
        exact ⟨⟨_,rfl⟩,hRQ▸h.below b3,hfar.more b3⟩
      | true=>
        have hR2:=hyes rfl
        clear hyes hno
        have hl2':=hl2 wr (Below.refl _ _)
        go_wp2_with (first
         | ((with_reducible refine hl2'.out.mono ?_);rintro e w3 ⟨rfl,hb3⟩
            have b3:=hb3
            have h3:=h.below b3
            have ms3:=mss w3 b3
            have hs3:=hsw2 w3 b3)
         | ((with_reducible refine hs3.out.mono ?_);rintro e w4 ⟨rfl,hq4,hf4⟩))
        have h4:=h3.swap hq4 hf4
        have hfar4:=(hfar.more b3).trans hf4
        have hlen4:=hlen J1
        clear hl2 hsw2 hs3 hl2' ml mls mss ms3 h3 hq4 h hlen
        go_roundg f
        case rel=>exact ⟨J1,_,rfl,by omega,by omega,hlen4,h4,hR2,hfar4⟩
        case measure=>omega
set_option maxRecDepth 100000 in
set_option maxHeartbeats 4000000 in
theorem heapPush_calls {w:World} {B g:Nat} {vs vq vn:Value} {Q:List DiL} (h:WqAt w B g vs vq vn Q) (hB:B≤w.heap.size) (hbig:Q.length≤600000) {e0:DiL} (he:DitOk w e0) :
 Calls Tryz.prog 57 #[.iface 122 (.pointer (some ⟨g,1,none⟩)), .iface 94 (.agg (ndC e0).toArray)] w fun e w'=>e = .returned (.tuple #[]) ∧ ∃ vq',WqAt w' B g vs vq' vn (upQ ltN (Q.length+1) (Q++[e0]) Q.length)∧Far [some g,vq.ownBlock] w w'∧Newer w vq vq':=by
 have hp:=Lib.hid (queuePush_calls h hB hbig he)
 have hlen:(Q++[e0]).length=Q.length+1:=by rw [List.length_append];rfl
 have hgl:=h.blk.lt
 have hol : ∀ k,vq.ownBlock=some k→k<w.heap.size:=fun k hk=>(World.ownsRow.lt h.q.own k hk).2
 have mp:=fun n=>method_push n ⟨g,1,none⟩ w
 obtain ⟨M,hM⟩ : ∃ M,Q.length=M:=⟨_,rfl⟩
 rw [hM] at hbig hlen ⊢
 have hw1:IntKind.i64.wrap (((M+1:Nat):Int)-1)=(M:Int):=by rw [IntWalk.i64_in _ (by omega)];omega
 obtain ⟨Q1,hQ1⟩ : ∃ Q1,Q++[e0]=Q1:=⟨_,rfl⟩
 rw [hQ1] at hp hlen ⊢
 clear he hQ1 hM
 go_enter Tryz.func57,Tryz.ntmps57
 go_wp2_with (first
  | ((with_reducible refine hp.out.mono ?_);rintro e w2 ⟨rfl,vq2,h2,hf2,hn2⟩
     have ml:=fun n=>method_len n h2.c1
     obtain ⟨A2,c2,rfl⟩:=zAm h2.q.own
     have hln:=Lib.hid (zCk A2 (M+1) c2 w2)
     rw [hlen] at h2 ml hn2
     have hup:=Lib.hid (heapUp_calls h2 (by omega) M (by omega) (M+1) (by omega)))
  | ((with_reducible refine hln.out.mono ?_);rintro e w3 ⟨rfl,rfl⟩)
  | ((with_reducible refine hup.out.mono ?_);rintro e w4 ⟨rfl,h4,hf4⟩))
 go_end0
 exact ⟨rfl,_,h4,hf2.then_ hf4 (fun k hk=>by
  rw [List.mem_singleton] at hk
  rcases hn2 with h1 | h1
  ·exact .inl (by rw [hk,h1];simp)
  ·exact .inr (h1 k hk.symm)),hn2⟩
set_option maxRecDepth 100000 in
set_option maxHeartbeats 4000000 in
theorem heapPop_calls {w:World} {B g:Nat} {vs vq vn:Value} {Q:List DiL} (h:WqAt w B g vs vq vn Q) (hbig:Q.length≤700000) {n:Nat} (hn:Q.length=n+1) (hq:HeapQ ltN Q Q.length) :
 Calls Tryz.prog 58 #[.iface 122 (.pointer (some ⟨g,1,none⟩))] w fun e w'=>(∃ v,e = .returned v) ∧ ∃ vq' Q',WqAt w' B g vs vq' vn Q'∧HeapQ ltN Q' Q'.length∧(Q'++[atQ Q 0]).Perm Q∧vq'.ownBlock=vq.ownBlock∧Far [some g,vq.ownBlock] w w':=by
 obtain ⟨p1,p2,p3,p4⟩:=heap_pop ltN_ord hn hq
 have hsl:(swapQ Q 0 n).length=n+1:=by rw [zAW,hn]
 have hsplit:downQ ltN (n+1) (swapQ Q 0 n) 0 n=(downQ ltN (n+1) (swapQ Q 0 n) 0 n).take n++[atQ Q 0]:=by
  have h1:(downQ ltN (n+1) (swapQ Q 0 n) 0 n).length=n+1:=p4
  have h2:=atQ_get (Q:=downQ ltN (n+1) (swapQ Q 0 n) 0 n) (i:=n) (by omega)
  have h3:=List.take_of_length_le (l:=downQ ltN (n+1) (swapQ Q 0 n) 0 n) (i:=n+1) (by omega)
  rw [List.take_add_one,h2,p2] at h3
  exact h3.symm
 obtain ⟨D,hD⟩ : ∃ D,(downQ ltN (n+1) (swapQ Q 0 n) 0 n).take n=D:=⟨_,rfl⟩
 have hDl:D.length=n:=by rw [←hD,List.length_take,p4];omega
 rw [hD] at hsplit
 have hheap:HeapQ ltN D D.length:=by
  rw [hDl]
  intro c h0 h1
  have:=p1 c h0 h1
  have hc : ∀ k,k<n→atQ (downQ ltN (n+1) (swapQ Q 0 n) 0 n) k=atQ D k:=fun k hk=>by
   rw [hsplit]
   unfold atQ
   simp only [List.getD_eq_getElem?_getD]
   rw [List.getElem?_append_left (by omega)]
  have hpc:=par_lt h0
  rwa [hc c h1,hc (par c) (by omega)] at this
 rw [hsplit] at p3
 have hw1:IntKind.i64.wrap (((n+1:Nat):Int)-1)=(n:Int):=by rw [IntWalk.i64_in _ (by omega)];omega
 have ml:=fun k=>method_len k h.c1
 have ms:=fun k=>zDl k h.c1
 have hsw0:=zBZ h.q (show 0<Q.length by omega) (show n<Q.length by omega)
 rw [show ((0:Nat):Int)=0 from rfl] at hsw0
 have hsw:=Lib.hid hsw0
 clear hsw0
 have hdn:=fun W (h2:WqAt W B g vs vq vn (swapQ Q 0 n))=>Lib.hid (heapDown_calls h2 (by omega) n (by omega) (n+1) (by omega))
 obtain ⟨r0,hr0⟩ : ∃ r,atQ Q 0=r:=⟨_,rfl⟩
 rw [hr0] at hsplit p3 ⊢
 simp only [hsplit] at hdn
 have hpp:=fun W vq' (h4:WqAt W B g vs vq' vn (D++[r0]))=>Lib.hid (queuePop_calls h4)
 have hgm : ∀ W,zEs 0 ⟨g,1,none⟩ W=zEs 0 ⟨g,1,none⟩ W:=fun _=>rfl
 clear hgm p1 p2 p4 hsplit hD hr0 hsl
 obtain ⟨A1,c1,hA1⟩:=zAm h.q.own
 rw [hn] at hA1
 have hln:=Lib.hid (zCk A1 (n+1) c1 w)
 go_enter Tryz.func58,Tryz.ntmps58
 subst hA1
 go_wp2_with (first
  | ((with_reducible refine hln.out.mono ?_);rintro e w2 ⟨rfl,rfl⟩)
  | ((with_reducible refine hsw.out.mono ?_);rintro e w3 ⟨rfl,hq3,hf3⟩
     have h3:=h.swap hq3 hf3
     have hdn3:=hdn _ h3)
  | ((with_reducible refine hdn3.out.mono ?_);rintro e w4 ⟨⟨b,rfl⟩,h4,hf4⟩
     have hpp4:=hpp _ _ h4
     have mp:=fun k=>zEs k ⟨g,1,none⟩ w4)
  | ((with_reducible refine hpp4.out.mono ?_);rintro e w5 ⟨rfl,vq5,h5,hv5,hf5⟩))
 go_ret
 refine ⟨⟨_,rfl⟩,vq5,D,h5,hheap,p3,hv5,?_⟩
 have hf34:=hf3.trans hf4
 exact (hf34.mono fun k hk=>List.mem_cons_of_mem _ hk).then_ hf5 fun k hk => .inl (by rw [List.mem_singleton] at hk;rw [hk];exact List.mem_cons_self)
end
section
theorem ltN_irr (e:DiL):ltN e e=false:=by
 unfold ltN aheadL
 rw [if_pos rfl]
 exact zBn _
section
variable {S:List StL} {Q:List DiL} {seen out:List Txt}
theorem root_best (hq:HeapQ ltN Q Q.length) (hp:(Q.map fun e=>e.st.id).Perm (leftW seen out)) (ho : ∀ e∈Q,objS S e.st.id=some e.o) (h0:0<Q.length):bestT S seen out=some (atQ Q 0).st.id:=by
 have ht : ∀ e∈Q,timeS S e.st.id=e.o.time:=fun e he=>by unfold timeS;rw [ho e he]
 have hm0:atQ Q 0∈Q:=List.mem_of_getElem? (atQ_get h0)
 refine best_one (hp.mem_iff.1 (List.mem_map.2 ⟨_,hm0,rfl⟩)) fun m hm=>?_
 obtain ⟨e,he,rfl⟩:=List.mem_map.1 (hp.mem_iff.2 hm)
 obtain ⟨c,hc,rfl⟩:=List.getElem_of_mem he
 have h1:=heap_root ltN_ord hq (ltN_irr _) (c+1) c (by omega) hc
 have e1:atQ Q c=Q[c]:=by unfold atQ;rw [List.getD_eq_getElem?_getD,List.getElem?_eq_getElem hc];rfl
 rw [e1] at h1
 unfold aheadS
 rw [ht _ he,ht _ hm0]
 exact h1
theorem left_told (n:Txt):leftW seen (out++[n])=(leftW seen out).filter fun x => !decide (x=n):=by
 unfold leftW
 rw [List.filter_filter]
 congr 1
 funext x
 unfold inL
 rw [List.any_append]
 simp only [List.any_cons,List.any_nil,Bool.or_false]
 by_cases h:n=x
 ·simp [h]
 ·have h' : ¬ x=n:=fun e=>h e.symm
  simp [h,h']
theorem perm_told {L M:List Txt} {n:Txt} (h:(M++[n]).Perm L) (hn:L.Nodup):M.Perm (L.filter fun x => !decide (x=n)):=by
 have h1:=h.filter fun x => !decide (x=n)
 have h2:=(h.nodup_iff).2 hn
 have h3:n ∉ M:=fun hm=>by
  have:=(List.nodup_append.1 h2).2.2 n hm n (List.mem_singleton.2 rfl)
  exact this rfl
 have h4:(M++[n]).filter (fun x => !decide (x=n))=M:=by
  rw [List.filter_append,List.filter_eq_self.2 fun x hx=>by simp;intro e;exact h3 (e▸hx)]
  simp
 rw [h4] at h1
 exact h1
theorem left_seen {n:Txt} (h:n ∉ out):leftW (seen++[n]) out=leftW seen out++[n]:=by
 unfold leftW
 rw [List.filter_append]
 congr 1
 cases hi:inL out n with
 | true=>exact absurd (inL_iff.1 hi) h
 | false=>simp [hi]
end
structure WalkAt (S:List StL) (w:World) (B g:Nat) (vs vq vn:Value) (Q:List DiL) (seen out:List Txt):Prop where
 q:WqAt w B g vs vq vn Q
 sn:OwnIds w B vn (sortU seen)
 ok : ∀ x∈seen,x.length=32
 heap:HeapQ ltN Q Q.length
 perm:(Q.map fun e=>e.st.id).Perm (leftW seen out)
 obj : ∀ e∈Q,objS S e.st.id=some e.o
 wi:WalkI S seen out
section
variable {S:List StL} {w w':World} {B g:Nat} {vs vq vn:Value} {Q:List DiL} {seen out:List Txt}
theorem WalkAt.below (h:WalkAt S w B g vs vq vn Q seen out) (hb:Below w.heap.size w w'):WalkAt S w' B g vs vq vn Q seen out:=⟨h.q.below hb,zAf h.sn hb,h.ok,h.heap,h.perm,h.obj,h.wi⟩
theorem WalkAt.len (h:WalkAt S w B g vs vq vn Q seen out):Q.length≤S.length:=by
 have h1:=h.perm.length_eq
 rw [List.length_map] at h1
 have h2:(leftW seen out).length≤seen.length:=List.length_filter_le _ _
 have:=h.wi.len.1
 omega
theorem WqAt.setRow (h:WqAt w B g vs vq vn Q) {k:Nat} {T:TypeId} {c0:Array Value} (hk:Blk w k T c0) (h1:k≠g) (h2:vq.ownBlock≠some k) (h3:132≠T) (h4:46≠T) (cs:Array Value):WqAt (w.setRow k cs) B g vs vq vn Q:=
 ⟨zDv h.blk (fun e=>h1 e.symm) cs,zBG h.q.own fun j hj=>setRow_other _ _ _ _ fun e=>h2 (e▸hj),fun e he=>(h.q.each e he).same (fun j hj=>setRow_other _ _ _ _ fun e'=>zAs (h.q.each e he).oe hk h3 (by rw [hj,e'])) fun j hj=>setRow_other _ _ _ _ fun e'=>zAs (h.q.each e he).op hk h4 (by rw [hj,e'])⟩
end
theorem built_node {w:World} (e:DiL) (he:DitOk w e):Tryz.prog.built 94 [(0, .agg (u8s e.st.id)),(1, .agg (objC e.o e.ve e.vp).toArray)]=some (ndC e).toArray:=by
 obtain ⟨⟨id,tx⟩,⟨kind,data,ents,tree,pars,time,text,target,of_,name⟩,ve,vp⟩:=e
 have h1:id.length=32:=he.id
 have h2:tree.length=32:=he.ok.tree
 have h3:target.length=32:=he.ok.target
 clear he
 obtain ⟨f1,rfl⟩:=len32 h1
 obtain ⟨f2,rfl⟩:=len32 h2
 obtain ⟨f3,rfl⟩:=len32 h3
 clear h1 h2 h3
 show Tryz.prog.built 94 [(0, .agg (u8s (List.ofFn f1))),(1, .agg (objC ⟨kind,data,ents,List.ofFn f2,pars,time,text,List.ofFn f3,of_,name⟩ ve vp).toArray)]=some (((u8s (List.ofFn f1)).toList++objC ⟨kind,data,ents,List.ofFn f2,pars,time,text,List.ofFn f3,of_,name⟩ ve vp).toArray)
 kernel_rfl
section
attribute [local go_sem ↓] ldvN_eq
set_option maxRecDepth 100000 in
set_option maxHeartbeats 4000000 in
theorem walkNext_calls {w:World} {B g:Nat} {vs vq vn:Value} {Q:List DiL} (h:WqAt w B g vs vq vn Q) (hbig:Q.length≤700000) (h0:0<Q.length) (hq:HeapQ ltN Q Q.length) :
 Calls Tryz.prog 37 #[.pointer (some ⟨g,0,none⟩)] w fun e w'=>e = .returned (.agg (ndC (atQ Q 0)).toArray) ∧ ∃ vq' Q',WqAt w' B g vs vq' vn Q'∧HeapQ ltN Q' Q'.length∧(Q'++[atQ Q 0]).Perm Q∧vq'.ownBlock=vq.ownBlock∧Far [some g,vq.ownBlock] w w':=by
 obtain ⟨n,hn⟩ : ∃ n,Q.length=n+1:=⟨Q.length-1,by omega⟩
 obtain ⟨W1,hW1⟩ : ∃ W1,w.alloc (.cells Tryz.zeroCells94 94)=W1:=⟨_,rfl⟩
 have z1:Blk W1 w.heap.size 94 Tryz.zeroCells94:=by rw [←hW1];exact Blk.new _ _ _
 have hzs:(Tryz.zeroCells94).size=104:=by kernel_rfl
 have b1:Below w.heap.size w W1:=by rw [←hW1];exact (Below.refl _ _).alloc (Nat.le_refl _) _
 have h1:=h.below b1
 have c1:=h1.c1
 have hx:=atQ_get h0
 have hxm:=h.q.each _ (List.mem_of_getElem? hx)
 have hxl:=ndC_len hxm
 have hxo:=ndC_one hxm
 have hat:=h1.q.at_
 have hol : ∀ k,vq.ownBlock=some k→k<w.heap.size:=fun k hk=>(World.ownsRow.lt h.q.own k hk).2
 have hgl:=h.blk.lt
 have hpo:=fun W (hW:Below W1.heap.size W1 W)=>Lib.hid (heapPop_calls (h1.below hW) hbig hn hq)
 obtain ⟨r,hr⟩ : ∃ r,atQ Q 0=r:=⟨_,rfl⟩
 rw [hr] at hx hxl hxo ⊢
 simp only [hr] at hpo
 obtain ⟨X,hX⟩ : ∃ X,(ndC r).toArray=X:=⟨_,rfl⟩
 have hX104:X.size=104:=by rw [←hX,List.size_toArray,hxl]
 have hX1:X.all (·.oneCell')=true:=by rw [←hX];exact all_oneCell_toArray hxo
 obtain ⟨A,cap,rfl,hcap1,hcap2,hatc⟩:=hat
 obtain ⟨gr,o,rfl,hgr,hc⟩:=hatc h0
 have lx:=zCG (hc 0 _ hx) hxl
 rw [Nat.zero_mul,Nat.add_zero] at lx
 rw [hX] at lx ⊢
 have hszX:(Tryz.prog.info? 94).map (·.size)=some X.size:=by rw [hX104];exact szNd
 have hzX:(Tryz.zeroCells94).size=X.size:=hzs.trans hX104.symm
 have h0i:(0:Int)<(Q.length:Int):=by omega
 have hlt1:w.heap.size<W1.heap.size:=z1.lt
 have hnot : ∀ k,w.heap.size≤k→some k ∉ [some g,(Value.slice (some ⟨gr,o,none⟩) Q.length cap).ownBlock]:=fun k hk hm=>by
  rcases List.mem_cons.1 hm with h | h
  ·injection h with h;omega
  ·have:=hol _ (List.mem_singleton.1 h).symm;omega
 have hnot1:=hnot W1.heap.size b1.size
 have hnot0:=hnot w.heap.size (Nat.le_refl _)
 clear hatc hc hx hxm hxl hxo hX hr h1 hnot hn
 go_enter Tryz.func37,Tryz.ntmps37
 go_wp2_with (first
  | ((with_reducible refine lit_new 94 (.tmp 3) (.tmp 9) X 104 szNd hX104 hX1 _ ?_ ?_ ?_ ?_)
     ·first | exact hX104 | kernel_rfl
     ·rfl
     ·rfl
     intro W2 hb2 hbl2
     have hpo2:=hpo W2 hbl2)
  | ((with_reducible refine hpo2.out.mono ?_);rintro e w3 ⟨⟨v,rfl⟩,vq3,Q3,h3,hh3,hp3,hv3,hf3⟩
     have hg3:some W1.heap.size ∉ [some g,(Value.slice (some ⟨gr,o,none⟩) Q.length cap).ownBlock]:=fun hm=>hnot1 hm
     have hz3:some w.heap.size ∉ [some g,(Value.slice (some ⟨gr,o,none⟩) Q.length cap).ownBlock]:=fun hm=>hnot0 hm
     have hb3:=hf3.blk hb2 hg3
     have ld3:=run_ldvN hb3 hX104
     have z3:=hf3.blk (z1.below hbl2 z1.lt) hz3)
  | (refine wpList_store_row rfl 94 (.tmp 2) (.tmp 15) rfl w.heap.size X rfl rfl _ _ z3 hszX hzX hX1 ?_))
 have hfar:Far [some g,(Value.slice (some ⟨gr,o,none⟩) Q.length cap).ownBlock] w (w3.setRow w.heap.size X):=((Far.of_below (bthen b1 b1.size hbl2)).trans hf3).row (.inr (Nat.le_refl _)) X
 have hfin:=h3.setRow z3 (by omega) (fun e=>by rw [hv3] at e;have:=hol _ e;omega) (by decide) (by decide) X
 refine bodyPost_ret (results_cell_row rfl _ _ w.heap.size _ _ _ _ rfl (setRow_heap _ _ _ _ _ _ z3) Tryz.underlying94 rfl hszX) rfl ⟨rfl,vq3,Q3,hfin,hh3,hp3,hv3,hfar⟩
end
end
section
def bldN (fs:Array (Nat×Value)):Sem Value:=Instr.build 94 fs
theorem bldN_eq (fs:Array (Nat×Value)):Instr.build 94 fs=bldN fs:=rfl
attribute [local go_sem ↓] ldvI_eq ldvO_eq bldN_eq
def objR (N:Nat) (x:StL) (o:ObjL) (v:Value) (F:Foot) (w:World):Prop := ∃ ve vp,v = .tuple #[.agg (objC o ve vp).toArray, .bool true]∧DitOk w ⟨x,o,ve,vp⟩∧(∀ k,vp.ownBlock=some k→N≤k)∧(∀ k,ve.ownBlock=some k→F k) ∧ ∀ k,vp.ownBlock=some k→F k
theorem objR_stab (N:Nat) (x:StL) (o:ObjL) (v:Value):Stab (objR N x o v):=fun _ _ _ _ hf ha ⟨ve,vp,h1,h2,h3,h4,h5⟩=>⟨ve,vp,h1,h2.same (fun k hk=>ha.same k (World.ownsRow.lt h2.oe k hk).2 (h4 k hk)) (fun k hk=>ha.same k (World.ownsRow.lt h2.op k hk).2 (h5 k hk)),h3,fun k hk=>hf k (h4 k hk),fun k hk=>hf k (h5 k hk)⟩
theorem sortU_snoc (l:List Txt) (x:Txt):sortU (l++[x])=insU (sortU l) x:=by unfold sortU;rw [List.foldl_append];rfl
theorem szObjZ : (Tryz.prog.info? 59).map (·.size)=some zObj.size:=by rw [zAB];exact szObj
structure WalkB (S:List StL) (w:World) (B g:Nat) (vs vq vn:Value) (Q:List DiL) (seen out:List Txt):Prop where
 at_:WalkAt S w B g vs vq vn Q seen out
 ap : ∀ e∈Q,Ap e.vp vn
section
variable {S:List StL} {w w':World} {B g:Nat} {vs vq vn:Value} {Q:List DiL} {seen out:List Txt}
theorem WalkB.below (h:WalkB S w B g vs vq vn Q seen out) (hb:Below w.heap.size w w'):WalkB S w' B g vs vq vn Q seen out:=⟨h.at_.below hb,h.ap⟩
theorem WalkB.setIn (h:WalkB S w B g vs vq vn Q seen out):SetIn w B g 2 89 #[vs,vq,vn] vn (sortU seen):=⟨h.at_.q.blk,rfl,h.at_.sn,fun x hx=>h.at_.ok x (((zBz seen).2 x).1 hx),(zBz seen).1⟩
theorem WalkB.set_ (h:WalkB S w B g vs vq vn Q seen out) {vn':Value} (hb:Blk w' g 89 #[vs,vq,vn']) (hf:Far [some g,vn.ownBlock] w w'):WqAt w' B g vs vq vn' Q:=by
 have hq : ∀ {e:DiL},e∈Q→DitOk w' e:=fun {e} he=>by
  have hd:=h.at_.q.q.each e he
  refine hd.far hf (fun k hk hm=>?_) (fun k hk hm=>?_)
  ·rcases List.mem_cons.1 hm with h1 | h1
   ·exact zAs hd.oe h.at_.q.blk (by decide) (h1.symm.trans hk.symm)
   ·exact own_ne hd.oe h.at_.sn (by decide) k hk (List.mem_singleton.1 h1).symm
  ·rcases List.mem_cons.1 hm with h1 | h1
   ·exact zAs hd.op h.at_.q.blk (by decide) (h1.symm.trans hk.symm)
   ·exact h.ap e he k hk (List.mem_singleton.1 h1).symm
 refine ⟨hb,hf.own h.at_.q.q.own (fun k hk hm=>?_),fun e he=>hq he⟩
 rcases List.mem_cons.1 hm with h1 | h1
 ·exact zAs h.at_.q.q.own h.at_.q.blk (by decide) (h1.symm.trans hk.symm)
 ·exact own_ne h.at_.q.q.own h.at_.sn (by decide) k hk (List.mem_singleton.1 h1).symm
end
def OfferR (S:List StL) (w:World) (B g:Nat) (vs vq vn:Value) (Q:List DiL) (seen' out:List Txt) (w':World):Prop := ∃ vq' vn' Q',WalkB S w' B g vs vq' vn' Q' seen' out∧(∀ e∈Q',e∈Q ∨ ∀ k,e.vp.ownBlock=some k→w.heap.size≤k)∧Far [some g,vq.ownBlock,vn.ownBlock] w w'∧Newer w vn vn'
section
variable {S:List StL} {w w5 w6 w7:World} {B g:Nat} {vs vq vn vn6 vq7:Value} {Q:List DiL} {seen out:List Txt} {n:Txt} {e0:DiL}
theorem Far.offer {T:List (Option Nat)} (hb:Below w.heap.size w w5) (hf:Far T w5 w6) (hT : ∀ k,some k∈T→some k∈[some g,vq.ownBlock,vn.ownBlock]):Far [some g,vq.ownBlock,vn.ownBlock] w w6:=(Far.of_below hb).trans (hf.mono hT)
theorem OfferR.old (h:WalkB S w B g vs vq vn Q seen out) (hb:Below w.heap.size w w5) (hs:SetIn w6 B g 2 89 #[vs,vq,vn6] vn6 (sortU seen)) (hf:Far [some g,vn.ownBlock] w5 w6) (hn:Newer w5 vn vn6):OfferR S w B g vs vq vn Q seen out w6:=by
 have h5:=h.below hb
 refine ⟨vq,vn6,Q,⟨⟨h5.set_ hs.blk hf,hs.own,h.at_.ok,h.at_.heap,h.at_.perm,h.at_.obj,h.at_.wi⟩,fun e he=>((h.ap e he).symm.newer hn fun k hk=>(World.ownsRow.lt (h5.at_.q.q.each e he).op k hk).2).symm⟩,fun e he => .inl he,Far.offer hb hf fun k hk=>?_,(Newer.refl w vn).then_ hn hb.size⟩
 rcases List.mem_cons.1 hk with h1 | h1
 ·rw [h1];exact List.mem_cons_self
 ·rw [List.mem_singleton.1 h1];simp
theorem OfferR.new (h:WalkB S w B g vs vq vn Q seen out) (hb:Below w.heap.size w w5) (hs:SetIn w6 B g 2 89 #[vs,vq,vn6] vn6 (insU (sortU seen) n)) (hf:Far [some g,vn.ownBlock] w5 w6) (hn:Newer w5 vn vn6)
 (hd5:DitOk w5 e0) (hid:e0.st.id=n) (hobj:objS S n=some e0.o) (hk:kindS S n=3) (hi:inL seen n=false) (hvp : ∀ k,e0.vp.ownBlock=some k→w.heap.size≤k) (h7:WqAt w7 B g vs vq7 vn6 (upQ ltN (Q.length+1) (Q++[e0]) Q.length)) (hf7:Far [some g,vq.ownBlock] w6 w7):OfferR S w B g vs vq vn Q (seen++[n]) out w7:=by
 have h5:=h.below hb
 obtain ⟨p1,p2⟩:=heap_push ltN_ord h.at_.heap e0
 have hlen:(upQ ltN (Q.length+1) (Q++[e0]) Q.length).length=Q.length+1:=by rw [upQ_len,List.length_append];rfl
 obtain ⟨U,hU⟩ : ∃ U,upQ ltN (Q.length+1) (Q++[e0]) Q.length=U:=⟨_,rfl⟩
 rw [hU] at p1 p2 hlen h7
 have hmem : ∀ e∈U,e∈Q∨e=e0:=fun e he=>by
  rcases List.mem_append.1 (p2.mem_iff.1 he) with h1 | h1
  ·exact .inl h1
  ·exact .inr (List.mem_singleton.1 h1)
 have hno:n ∉ out:=fun hm=>by
  rw [inL_iff.2 (h.at_.wi.sub n hm)] at hi
  cases hi
 have hsn:OwnIds w7 B vn6 (sortU (seen++[n])):=by
  rw [sortU_snoc]
  refine hf7.own hs.own fun k hk hm=>?_
  rcases List.mem_cons.1 hm with h1 | h1
  ·exact zAs hs.own hs.blk (by decide) (h1.symm.trans hk.symm)
  ·have hq6:=(h5.set_ hs.blk hf).q.own
   exact own_ne hs.own hq6 (by decide) k hk (List.mem_singleton.1 h1).symm
 have hvn : ∀ k,vn.ownBlock=some k→k<w.heap.size:=fun k hk=>(World.ownsRow.lt h.at_.sn k hk).2
 refine ⟨vq7,vn6,U,⟨⟨h7,hsn,fun x hx=>?_,by rw [hlen];exact p1,?_,fun e he=>?_,⟨zCw h.at_.wi.nd hi,fun x hx=>?_,fun x hx=>List.mem_append_left _ (h.at_.wi.sub x hx),h.at_.wi.ndo⟩⟩,fun e he=>?_⟩,fun e he=>?_,?_,(Newer.refl w vn).then_ hn hb.size⟩
 ·rcases List.mem_append.1 hx with h1 | h1
  ·exact h.at_.ok x h1
  ·rw [List.mem_singleton.1 h1,←hid];exact hd5.id
 ·rw [left_seen hno]
  have h1:=p2.map fun e=>e.st.id
  rw [List.map_append] at h1
  refine h1.trans ?_
  show (Q.map (fun e=>e.st.id)++[e0.st.id]).Perm _
  rw [hid]
  exact h.at_.perm.append_right _
 ·rcases hmem e he with h1 | rfl
  ·exact h.at_.obj e h1
  ·rw [hid];exact hobj
 ·rcases List.mem_append.1 hx with h1 | h1
  ·exact h.at_.wi.k3 x h1
  ·rw [List.mem_singleton.1 h1];exact hk
 ·rcases hmem e he with h1 | rfl
  ·exact ((h.ap e h1).symm.newer hn fun k hk=>(World.ownsRow.lt (h5.at_.q.q.each e h1).op k hk).2).symm
  ·have ha:Ap vn e.vp:=fun k hk hv=>by have:=hvp k hv;have:=hvn k hk;omega
   exact (ha.newer hn fun k hk=>(World.ownsRow.lt hd5.op k hk).2).symm
 ·rcases hmem e he with h1 | rfl
  ·exact .inl h1
  ·exact .inr hvp
 ·refine Far.trans (Far.offer hb hf fun k hk=>?_) (hf7.mono fun k hk=>?_)
  ·rcases List.mem_cons.1 hk with h1 | h1
   ·rw [h1];exact List.mem_cons_self
   ·rw [List.mem_singleton.1 h1];simp
  ·rcases List.mem_cons.1 hk with h1 | h1
   ·rw [h1];exact List.mem_cons_self
   ·rw [List.mem_singleton.1 h1];simp
end
set_option maxRecDepth 100000 in
set_option maxHeartbeats 8000000 in
theorem offer_calls {S:List StL} {w:World} {sb p B g:Nat} {vl vq vn:Value} {Q:List DiL} {seen out:List Txt} (hS:StoAt w sb p vl S) (h:WalkB S w B g (.pointer (some ⟨p,0,none⟩)) vq vn Q seen out) (hB:B≤w.heap.size) (n:Txt) (hn:n.length=32) :
 Calls Tryz.prog 34 #[.pointer (some ⟨g,0,none⟩), .agg (u8s n)] w fun e w'=>e = .returned (.tuple #[])∧OfferR S w B g (.pointer (some ⟨p,0,none⟩)) vq vn Q (offerS S seen n) out w':=by
 obtain ⟨W1,hW1,b1,n1,lid⟩:=boxId w n hn
 have hSl:S.length≤500000:=hS.ok.few
 have hgl:=h.at_.q.blk.lt
 have hc0 : ∀ W,Below W1.heap.size W1 W→W.cell? ⟨g,0,none⟩=some (.pointer (some ⟨p,0,none⟩)):=fun W hW=>(h.at_.q.blk.below (bthen b1 b1.size hW) hgl).cell 0
 have hob:=fun W (hW:Below W1.heap.size W1 W)=>zBV (hS.below (bthen b1 b1.size hW)) n hn
 have hzo:=zeroObj
 have hz72:=zAB
 have hzone:=zCd
 have hszZ:=szObjZ
 have hvnl : ∀ k,vn.ownBlock=some k→k<w.heap.size:=fun k hk=>(World.ownsRow.lt h.at_.sn k hk).2
 have hlen:=h.at_.len
 have hsl:=h.at_.wi.len
 have hSok:=hS.ok
 have h10:=b1.size
 have hn1l:=n1.lt
 obtain ⟨vs,hvs⟩ : ∃ vs,Value.pointer (some ⟨p,0,none⟩)=vs:=⟨_,rfl⟩
 have hsame:offerS S seen n=seen → ∀ W,Below W1.heap.size W1 W→OfferR S w B g vs vq vn Q (offerS S seen n) out W:=fun he W hW=>by
  rw [he,←hvs]
  exact ⟨vq,vn,Q,h.below (bthen b1 b1.size hW),fun e he => .inl he,Far.of_below (bthen b1 b1.size hW),Newer.refl _ _⟩
 rw [show (fun e w'=>e=Ending.returned (Value.tuple #[])∧OfferR S w B g (.pointer (some ⟨p,0,none⟩)) vq vn Q (offerS S seen n) out w')=(fun e w'=>e=Ending.returned (Value.tuple #[])∧OfferR S w B g vs vq vn Q (offerS S seen n) out w') by rw [hvs]]
 cases hG:getS S n with
 | none=>
   have hobA:=fun W (hW:Below W1.heap.size W1 W)=>(show Calls Tryz.prog 30 #[.pointer (some ⟨p,0,none⟩), .agg (u8s n)] W fun e w'=>e = .returned (.tuple #[.agg zObj, .bool false])∧Below W.heap.size W w' from by
    have h:=hob W hW
    unfold ObjT at h
    rw [hG] at h
    exact h)
   have hoff:offerS S seen n=seen:=by unfold offerS kindS;rw [hG];simp
   have hfin:=hsame hoff
   clear hob hsame hS h hvs hoff
   obtain ⟨NC,hNC⟩ : ∃ NC,u8s n=NC:=⟨_,rfl⟩
   rw [hNC] at hW1 lid hobA ⊢
   clear hNC n1
   generalize zObj=ZO at *
   go_enter Tryz.func34,Tryz.ntmps34
   go_upto_region 1 with (fail)
   refine zAA 12 (by kernel_rfl) (by kernel_rfl) (by kernel_rfl) (by kernel_rfl) ?_
   simp only [exSp]
   iterate 12 apply Exists.intro
   repeat
    first
     | ((with_reducible apply lx0_ex)
        ·(go_simp;done)
        apply Exists.intro
        apply And.intro
        ·apply Eq.refl
        apply And.intro
        ·intro W hW hD
         have q0:=hc0 W hW
         have q1:=lid W hW
         have q2:=hobA W hW
         go_simp
         first
          | rfl
          | (with_reducible exact q2)
        simp only [Act.put,zA,zB,zC])
     | ((with_reducible apply zA2)
        ·(first | rfl | (go_simp;done))
        ·apply Eq.refl
        simp only [Act.put,zA,zB,zC])
     | ((with_reducible apply lx_al 59 ZO hzo)
        ·apply Eq.refl
        intro v
        simp only [Act.put,zA,zB,zC])
     | ((with_reducible apply lx_st' 9 59 ZO hszZ (by kernel_rfl))
        ·exact rfl
        ·apply Eq.refl
        apply Exists.intro
        apply Exists.intro
        apply And.intro
        ·(go_simp;rfl)
        apply And.intro
        ·(go_simp;rfl)
        refine ⟨?_,fun W hW hD=>?_,?_⟩
        ·first | exact List.Mem.head _ | exact List.Mem.tail _ (List.Mem.head _) | exact List.Mem.tail _ (List.Mem.tail _ (List.Mem.head _)) | exact List.Mem.tail _ (List.Mem.tail _ (List.Mem.tail _ (List.Mem.head _)))
        ·exact ⟨ZO,rfl,rfl,hzone⟩)
   refine lx0_nil ?_ fun w5 hW5 hD5=>?_
   ·exact (by simp [stsOf])
   go_upto_region 2 with (fail)
   refine zAd (C:=fun W=>Below w5.heap.size w5 W) (by kernel_rfl) (by kernel_rfl) (Below.refl _ _).drew ?_
   repeat
    first
     | ((with_reducible refine zAl ?_ ?_)
        ·(go_simp;done)
        apply Exists.intro
        refine ⟨fun W hW=>?_,?_⟩
        ·first
          | (go_simp
             rfl)
        simp only [Act.put,zA,zB,zC])
     | ((with_reducible refine zAh ?_ ?_)
        ·(first | rfl | (go_simp;done))
        simp only [Act.put,zA,zB,zC])
   with_reducible refine wpQuiet_nil ?_
   intro w6 hW6
   go_wp2_with (fail)
   go_end0
   exact ⟨rfl,hfin _ (bthen hW5 hW5.size hW6)⟩
 | some x=>
   obtain ⟨o0,ho0⟩:=(hSok.each x (getS_id hG).1).2
   have hxid:=(getS_id hG).2
   have hobj:objS S n=some o0:=zDs hG ho0
   have hkd:kindS S n=o0.kind:=by unfold kindS;rw [hG];simp only;rw [ho0]
   have hobB:=fun W (hW:Below W1.heap.size W1 W)=>(show Calls Tryz.prog 30 #[.pointer (some ⟨p,0,none⟩), .agg (u8s n)] W fun e w'=>(∃ ve vp,e = .returned (.tuple #[.agg (objC o0 ve vp).toArray, .bool true])∧DitOk w' ⟨x,o0,ve,vp⟩∧(∀ k,ve.ownBlock=some k→W.heap.size≤k) ∧ ∀ k,vp.ownBlock=some k→W.heap.size≤k)∧Below W.heap.size W w' from (hob W hW).mono fun e w' ⟨q1,q2⟩=>by
    unfold ObjT at q1
    rw [hG] at q1
    obtain ⟨o,A1,A2,k1,k2,d1,rfl,d3,d4,d5⟩:=q1
    rw [ho0] at d1
    injection d1 with d1
    subst d1
    exact ⟨⟨_,_,rfl,⟨ho0,by rw [hxid];exact hn,d3.ok,zAw d4 (Nat.zero_le _),zAw d5 (Nat.zero_le _)⟩,fun k hk=>(World.ownsRow.lt d4 k hk).1,fun k hk=>(World.ownsRow.lt d5 k hk).1⟩,q2⟩)
   have hNE:x.id=n:=hxid
   have hNn:n.length=32:=hn
   have n1':=n1
   obtain ⟨NC,hNC⟩ : ∃ NC,u8s n=NC:=⟨_,rfl⟩
   rw [hNC] at hW1 lid hobB n1' ⊢
   clear hob hG ho0 hS n1
   replace hvs:=Lib.hid hvs
   generalize zObj=ZO at *
   go_enter Tryz.func34,Tryz.ntmps34
   go_upto_region 1 with (fail)
   refine zAA 12 (by kernel_rfl) (by kernel_rfl) (by kernel_rfl) (by kernel_rfl) ?_
   simp only [exSp]
   iterate 12 apply Exists.intro
   repeat
    first
     | ((with_reducible apply lx0_ex)
        ·(go_simp;done)
        apply Exists.intro
        apply And.intro
        ·apply Eq.refl
        apply And.intro
        ·intro W hW hD
         have q0:=hc0 W hW
         have q1:=lid W hW
         go_simp
         rfl
        simp only [Act.put,zA,zB,zC])
     | ((with_reducible apply zA2)
        ·(first | rfl | (go_simp;done))
        ·apply Eq.refl
        simp only [Act.put,zA,zB,zC])
     | ((with_reducible refine lx0_new (objR W1.heap.size x o0) rfl ?_ (objR_stab _ _ _) ?_ ?_)
        ·(go_simp;done)
        ·intro W hW hD
         unfold doesAt Oper.wp execOp
         have q0:=hobB W hW
         go_simp
         (with_reducible refine q0.mono ?_)
         rintro e w' ⟨⟨ve,vp,rfl,hd,he1,he2⟩,hb⟩
         exact ⟨hb,fun F f1 f2 f3=>⟨ve,vp,rfl,hd,fun k hk=>Nat.le_trans hW.size (he2 k hk),fun k hk=>f3 k (he1 k hk) (World.ownsRow.lt hd.oe k hk).2,fun k hk=>f3 k (he2 k hk) (World.ownsRow.lt hd.op k hk).2⟩⟩
        intro v
        simp only [Act.put,zA,zB,zC])
     | ((with_reducible apply zDM)
        ·apply Eq.refl
        apply Exists.intro
        apply And.intro
        ·(go_simp;rfl)
        refine ⟨fun W hW hD=>?_,?_⟩
        ·obtain ⟨F,ve,vp,rfl,_⟩:=hD.at 0 rfl (by kernel_rfl)
         exact ⟨_,rfl,by simp⟩
        simp only [Act.put,zA,zB,zC])
     | (first | (with_reducible apply zA1) | (with_reducible apply zAK)
        ·apply Eq.refl
        apply Exists.intro
        apply And.intro
        ·(go_simp;rfl)
        simp only [Act.put,zA,zB,zC])
     | ((with_reducible apply lx_al 59 ZO hzo)
        ·apply Eq.refl
        intro v
        simp only [Act.put,zA,zB,zC])
     | ((with_reducible apply lx_st' 9 59 ZO hszZ (by kernel_rfl))
        ·exact rfl
        ·apply Eq.refl
        apply Exists.intro
        apply Exists.intro
        apply And.intro
        ·(go_simp;rfl)
        apply And.intro
        ·(go_simp;rfl)
        refine ⟨?_,fun W hW hD=>?_,?_⟩
        ·first | exact List.Mem.head _ | exact List.Mem.tail _ (List.Mem.head _) | exact List.Mem.tail _ (List.Mem.tail _ (List.Mem.head _)) | exact List.Mem.tail _ (List.Mem.tail _ (List.Mem.tail _ (List.Mem.head _)))
        ·obtain ⟨F,ve,vp,rfl,hd,_⟩:=hD.at 1 rfl (by kernel_rfl)
         obtain ⟨A1,A2,k1,k2,e1,e2⟩:=hd.forms
         exact ⟨_,rfl,by rw [List.size_toArray,zAv hd.ok,hz72],by rw [show ve=_ from e1,show vp=_ from e2];exact zAr _ _ _ _ _ _ _⟩)
   refine lx0_nil ?_ fun w5 hW5 hD5=>?_
   ·exact (by simp [stsOf])
   obtain ⟨_,ve,vp,rfl,hd5,hvp5, -, -⟩:=hD5 _ (.tail _ (.tail _ (.head _)))
   obtain ⟨_,g4,cs4,rfl,hcs4,hg4,_,hb4⟩:=hD5 _ (.head _)
   obtain rfl:(objC o0 ve vp).toArray=cs4:=by injection hcs4
   simp only [extr2_0,extr2_1]
   have b5:=bthen b1 b1.size hW5
   have hOC72:(objC o0 ve vp).toArray.size=72:=by rw [List.size_toArray,zAv hd5.ok]
   have hk0 : ∀ W,Below w5.heap.size w5 W→W.cell? ⟨g4,0,none⟩=some (.int .i64 o0.kind):=fun W hW=>by rw [(hb4.below hW hb4.lt).cell];rfl
   have hbn:=fun (hd:DitOk w5 ⟨x,o0,ve,vp⟩)=>built_node _ hd
   simp only [hxid] at hbn
   clear hcs4 hD5 hobB hc0 hzo hzone hszZ hz72
   by_cases hk:o0.kind=3
   ·have hkb:(o0.kind==3)=true:=by simp [hk]
    rw [hk] at hkd
    cases hi:inL seen n with
    | true=>
      have hoff:offerS S seen n=seen:=by unfold offerS;rw [hi];simp
      have hins:insU (sortU seen) n=sortU seen:=insU_in (zBz seen).1 (by rw [zDJ];exact hi)
      have hadd:=zCf (h.below b5.drew).setIn (by decide) (Nat.le_trans hB b5.size) (by have:=zDI seen;omega) n hn
      rw [zDJ,hi,hins,hNC] at hadd
      have hadd:=Lib.hid hadd
      have hkd0:=hk0 w5.drew (Below.refl _ _).drew
      have lid5:=lid w5.drew hW5.drew
      have Hoff:=Lib.hid hoff
      clear hk0 lid hins hoff hsame hbn
      go_upto_region 2 with (fail)
      go_region_with (first
       | (go_at_call 56;go_must (refine hadd.out.mono ?_);rintro e w6 ⟨rfl,vn6,hs6,hf6,hn6⟩))
      all_goals
       go_wp2_with (fail)
       go_end0
       refine ⟨rfl,?_⟩
       rw [Hoff.out,←hvs.out]
       exact OfferR.old h b5.drew hs6 hf6 hn6
    | false=>
      have Hoff:Hid (offerS S seen n=seen++[n]):=Lib.hid (by unfold offerS;rw [hi,hkd];rfl)
      have hadd:=zCf (h.below b5.drew).setIn (by decide) (Nat.le_trans hB b5.size) (by have:=zDI seen;omega) n hn
      rw [zDJ,hi,hNC] at hadd
      have hadd:=Lib.hid hadd
      have hkd0:=hk0 w5.drew (Below.refl _ _).drew
      have lid5:=lid w5.drew hW5.drew
      have hg4':W1.heap.size≤g4:=hg4
      have hpush:=fun W vn6 (hq:WqAt W B g (.pointer (some ⟨p,0,none⟩)) vq vn6 Q) (hBW:B≤W.heap.size) (hd:DitOk W ⟨x,o0,ve,vp⟩)=>Lib.hid (heapPush_calls hq hBW (by omega) hd)
      have hnd:=hbn hd5
      have hrb : ∀ W,(bldN #[(0, .agg (u8s n)),(1, .agg (objC o0 ve vp).toArray)]).run Tryz.prog W = .ok (.agg (ndC (⟨x,o0,ve,vp⟩:DiL)).toArray) W:=fun W=>run_build (P:=Tryz.prog) W _ _ _ hnd
      have hb4d:Blk w5.drew g4 59 (objC o0 ve vp).toArray:=hb4
      have n5d:=n1'.below hW5.drew n1'.lt
      have hset:=(h.below b5.drew)
      have hdd:DitOk w5.drew ⟨x,o0,ve,vp⟩:=hd5.below (Below.refl _ _).drew
      have hnotin : ∀ k,w.heap.size≤k→some k ∉ [some g,vn.ownBlock]:=fun k hk hm=>by
       rcases List.mem_cons.1 hm with h | h
       ·injection h with h;omega
       ·have:=hvnl k (List.mem_singleton.1 h).symm;omega
      clear hk0 lid hsame hbn
      go_upto_region 2 with (fail)
      go_cut [27] from 15 (fun s27 wx=>s27 = .bool true ∧ ∃ vn6,SetIn wx B g 2 89 #[.pointer (some ⟨p,0,none⟩),vq,vn6] vn6 (insU (sortU seen) n)∧Far [some g,vn.ownBlock] w5.drew wx∧Newer w5.drew vn vn6)
      case first=>
       go_region_with (first
        | (go_at_call 56;go_must (refine hadd.out.mono ?_);rintro e w6 ⟨rfl,vn6,hs6,hf6,hn6⟩))
       all_goals
        go_wp2_with (fail)
        go_meet
        case rel=>exact ⟨rfl,vn6,hs6,hf6,hn6⟩
      case rest=>
       rename World=>w6
       obtain ⟨rfl,vn6,hs6,hf6,hn6⟩:=hcut
       have hb6:=hf6.blk hb4d (hnotin g4 (by omega))
       have n6:=hf6.blk n5d (hnotin _ (Nat.le_refl _))
       have hd6:DitOk w6 ⟨x,o0,ve,vp⟩:=hdd.far hf6 (fun k hk hm=>by
        rcases List.mem_cons.1 hm with h1 | h1
        ·exact zAs hdd.oe hset.at_.q.blk (by decide) (h1.symm.trans hk.symm)
        ·exact own_ne hdd.oe hset.at_.sn (by decide) k hk (List.mem_singleton.1 h1).symm) (fun k hk=>hnotin k (Nat.le_trans h10 (hvp5 k hk)))
       have hq6:=hset.set_ hs6.blk hf6
       have hB6:B≤w6.drew.heap.size:=Nat.le_trans hB (Nat.le_trans b5.size hf6.size)
       have hp:=hpush w6.drew vn6 (hq6.below (Below.refl _ _).drew) hB6 (hd6.below (Below.refl _ _).drew)
       have lid6:(ldvI ⟨w.heap.size,0,none⟩).run Tryz.prog w6.drew = .ok (.agg NC) w6.drew:=by
        have h1:Blk w6.drew w.heap.size 46 (u8s n):=by rw [hNC];exact n6
        rw [←hNC]
        exact zAb (zAi h1) hNn
       have ldo6:(ldvO ⟨g4,0,none⟩).run Tryz.prog w6.drew = .ok (.agg (objC o0 ve vp).toArray) w6.drew:=run_loadVar_row w6.drew g4 _ _ _ _ _ hb6 Tryz.underlying59 rfl (by rw [hOC72];exact szObj)
       rw [hNC] at hrb
       have H1:=Lib.hid h
       have H2:=Lib.hid hs6
       have H3:=Lib.hid hdd
       generalize hOC:(objC o0 ve vp).toArray=OC at ldo6 hrb ⊢
       obtain ⟨NX,hNX⟩ : ∃ NX,(ndC (⟨x,o0,ve,vp⟩:DiL)).toArray=NX:=⟨_,rfl⟩
       rw [hNX] at hrb hp
       clear hOC hNX h hs6 hdd hd6 hq6 hset hpush hadd hkd0 lid5 n5d hb4d n6 hb6 hnd hd5 n1' hb4 hW5
       go_upto_region 3 with (fail)
       go_region_with (first
        | (go_at_call 57;go_must (refine hp.out.mono ?_);rintro e w7 ⟨rfl,vq7,h7,hf7,hn7⟩))
       all_goals
        go_wp2_with (fail)
        go_end0
        refine ⟨rfl,?_⟩
        rw [Hoff.out,←hvs.out]
        exact OfferR.new H1.out b5.drew H2.out hf6 hn6 H3.out hxid hobj hkd hi (fun k hk=>Nat.le_trans h10 (hvp5 k hk)) h7 (zBF hf7)
   ·have hkb:(o0.kind==3)=false:=by simp [hk]
    have hoff:offerS S seen n=seen:=by unfold offerS;rw [hkd];simp [hk]
    have hfin:=hsame hoff
    clear hsame hbn hoff
    go_upto_region 2 with (fail)
    refine zAd (C:=fun W=>Below w5.heap.size w5 W) (by kernel_rfl) (by kernel_rfl) (Below.refl _ _).drew ?_
    repeat
     first
      | ((with_reducible refine zAl ?_ ?_)
         ·(go_simp;done)
         apply Exists.intro
         refine ⟨fun W hW=>?_,?_⟩
         ·first
           | (have q0:=hk0 W hW
              go_simp
              rfl)
         simp only [Act.put,zA,zB,zC])
      | ((with_reducible refine zAh ?_ ?_)
         ·(first | rfl | (go_simp;done))
         simp only [Act.put,zA,zB,zC])
    with_reducible refine wpQuiet_nil ?_
    intro w6 hW6
    go_wp2_with (fail)
    go_end0
    exact ⟨rfl,hfin _ (bthen hW5 hW5.size hW6)⟩
end
end Go.Proofs.YtbhdfaadedlcfaaGreatDoor
