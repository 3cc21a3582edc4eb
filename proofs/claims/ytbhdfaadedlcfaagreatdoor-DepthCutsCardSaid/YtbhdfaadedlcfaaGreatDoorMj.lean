/- Texts of this claim, laid together: ShaU, ShaV, DocX, DocY, DocZ, DocU, Pick, MkB. -/
import Derived.Test.YtbhdfaadedlcfaaGreatDoorMi
namespace Go.Proofs.YtbhdfaadedlcfaaGreatDoor
open Go.RowKit
section
attribute [local go_sem ↓] Go.wp_at_zero Go.wp_at_succ
theorem turn_at (x n:Nat) (m:Int) (hm:m=(n:Int)) (hx:x<4294967296) (h0:1≤n) (h1:n≤31) (w:World) :
 Calls Tryz.prog 123 #[.int .u32 x, .int .u64 m] w fun e w'=>e = .returned (.int .u32 (rotr x n))∧w=w':=hm▸turn_calls x n hx h0 h1 w
def zeros (n:Nat):List Nat:=List.replicate n 0
theorem zBH (n:Nat):(zeros n).length=n:=List.length_replicate
theorem first_step (b:List UInt8) (k:Nat) (hk:k<16):(first b k++List.replicate (64-k) 0).set k (be4 b k)=first b (k+1)++List.replicate (64-(k+1)) 0:=by
 have hl:=zBI b k
 have:=zEg (first b k) (64-k) (be4 b k) (by omega)
 rw [hl] at this
 rw [this,show 64-k-1=64-(k+1) from by omega]
 congr 1
 simp [first,List.range_succ]
theorem at_byte (b:List UInt8) (i:Nat) (h:i<b.length):((b[i]).toNat:Nat)=byteAt b i:=by
 simp [byteAt,List.getD,List.getElem?_eq_getElem h]
theorem blk_new4 (w:World) (o1 o2 o3:Obj) (t:TypeId) (cs:Array Value):Blk ((((w.alloc o1).alloc o2).alloc o3).alloc (.cells cs t)) (w.heap.size+3) t cs:=by
 have:=Blk.new (((w.alloc o1).alloc o2).alloc o3) t cs
 rwa [show (((w.alloc o1).alloc o2).alloc o3).heap.size=w.heap.size+3 from by simp] at this
theorem zBR {P:Program} {f:FuncId} {args:Array Value} {w:World} {n:Nat} {v:Value}
 (h:Calls P f args (w.drewN n) fun e w'=>e = .returned v∧w.drewN n=w'):Calls P f args (w.drewN n) fun e w''=>e = .returned v ∧ ∃ m,w''=w.drewN m:=
 h.mono fun _ _ ⟨he,hm⟩=>⟨he,n,hm.symm⟩
set_option maxRecDepth 100000 in
set_option maxHeartbeats 4000000 in
theorem refBlock_calls (s0:H8) (hs0:s0.Fit) (b:List UInt8) (hb:b.length=64) (w:World) :
 Calls Tryz.prog 98 #[.agg (u32s s0.list), .string (B b), .agg (u32s K256)] w fun e w'=>e = .returned (.agg (u32s (blockOf s0 b).list))∧Below w.heap.size w w':=by
 obtain ⟨KK,hKK⟩ : ∃ KK,Hid (K256=KK):=⟨_,rfl⟩
 rw [hKK.out]
 have hKl:KK.length=64:=by rw [←hKK.out];exact zBo
 go_enter Tryz.func98,Tryz.ntmps98
 have hv0:=blk_new4 w (.cells (u32s s0.list) 170) (.cells (u32s KK) 171) (.cells (u32s (List.replicate 8 0)) 170) 171 (u32s (zeros 64))
 have hi':(Tryz.prog.info? 171).map (·.size)=some (u32s (zeros 64)).size:=by rw [zBj,zBH];exact sz64
 have hall':=zBv (zeros 64)
 go_wp2_with (first
  | (refine wpList_store_row rfl 171 (.tmp 7) (.tmp 17) rfl (w.heap.size+3) (u32s (zeros 64)) rfl rfl _ _ hv0 hi' rfl hall' ?_))
 have h1:=setRow_heap _ _ _ (u32s (zeros 64)) _ _ hv0
 obtain ⟨wz,hwz⟩ : ∃ wz,wz=World.setRow ((((w.alloc (.cells (u32s s0.list) 170)).alloc (.cells (u32s KK) 171)).alloc (.cells (u32s (List.replicate 8 0)) 170)).alloc (.cells (u32s (zeros 64)) 171)) (w.heap.size+3) (u32s (zeros 64)):=⟨_,rfl⟩
 have b1:Blk wz (w.heap.size+1+1+1) 171 (u32s (first b 0++zeros (64-0))):=by rw [hwz];exact h1
 have b2:Blk wz w.heap.size 170 (u32s s0.list):=by
  rw [hwz];unfold Blk;rw [setRow_other _ _ _ _ (by omega)];exact (((Blk.new w _ _).alloc _).alloc _).alloc _
 have b3:Blk wz (w.heap.size+1) 171 (u32s KK):=by
  rw [hwz];unfold Blk;rw [setRow_other _ _ _ _ (by omega)];exact ((blk_new2 w _ _ _).alloc _).alloc _
 have b4:Blk wz (w.heap.size+1+1) 170 (u32s (List.replicate 8 0)):=by
  rw [hwz];unfold Blk;rw [setRow_other _ _ _ _ (by omega)];exact (blk_new3 w _ _ _ _).alloc _
 have b5:Below w.heap.size w wz:=by
  rw [hwz]
  exact zAa (((((Below.refl _ _).alloc (Nat.le_refl _) _).alloc (by simp) _).alloc (by simp;omega) _).alloc (by simp;omega) _) (by omega) _
 clear h1 hv0
 obtain ⟨g,hg⟩ : ∃ g,g=w.heap.size:=⟨_,rfl⟩
 go_loopw [8] (fun i wr => ∃ k:Nat,i = .int .i64 k∧k≤16∧Blk wr (w.heap.size+1+1+1) 171 (u32s (first b k++zeros (64-k)))∧Blk wr w.heap.size 170 (u32s s0.list)∧Blk wr (w.heap.size+1) 171 (u32s KK)∧Blk wr (w.heap.size+1+1) 170 (u32s (List.replicate 8 0))∧Below w.heap.size w wr) (fun i _=>16-(intOf i).toNat)
 case atStart=>exact ⟨0,rfl,by omega,hwz▸b1,hwz▸b2,hwz▸b3,hwz▸b4,hwz▸b5⟩
 case round=>
  clear b1 b2 b3 b4 b5 hwz
  obtain ⟨k,rfl,hk,h1,h2,h3,h4,hbel⟩:=hrel
  have hbs:=h1.lt
  by_cases hlt:k<16
  ·have hki:(k:Int)<16:=by omega
   have hcz:wr.cell? ⟨w.heap.size+1+1+1,k,none⟩=some (.int .u32 ((first b k++zeros (64-k)).getD k 0:Nat)):=by
    rw [h1.cell,zA3 _ _ (by rw [List.length_append,zBI,zBH];omega)]
   have hf:=h1.frozen k
   have hset:=Lib.hid (first_step b k hlt)
   have y0:=at_byte b (4*k) (by omega)
   have y1:=at_byte b (4*k+1) (by omega)
   have y2:=at_byte b (4*k+2) (by omega)
   have y3:=at_byte b (4*k+3) (by omega)
   have l0:=zA6 b (4*k)
   have l1:=zA6 b (4*k+1)
   have l2:=zA6 b (4*k+2)
   have l3:=zA6 b (4*k+3)
   have hbe:Hid (be4 b k=byteAt b (4*k)*16777216+byteAt b (4*k+1)*65536+byteAt b (4*k+2)*256+byteAt b (4*k+3)):=rfl
   generalize (first b k++zeros (64-k)).getD k 0=oz at *
   generalize byteAt b (4*k)=c0 at *
   generalize byteAt b (4*k+1)=c1 at *
   generalize byteAt b (4*k+2)=c2 at *
   generalize byteAt b (4*k+3)=c3 at *
   have i0:(4*(k:Int))<64:=by omega
   have j0:0≤(4*(k:Int)):=by omega
   have i1:(4*(k:Int)+1)<64:=by omega
   have j1:0≤(4*(k:Int)+1):=by omega
   have i2:(4*(k:Int)+2)<64:=by omega
   have j2:0≤(4*(k:Int)+2):=by omega
   have i3:(4*(k:Int)+3)<64:=by omega
   have j3:0≤(4*(k:Int)+3):=by omega
   have hk64:(k:Int)<64:=by omega
   go_wp2
   go_region
   go_wp2
   have hv:(c0:Int)*16777216+(c1:Int)*65536+(c2:Int)*256+(c3:Int)=((be4 b k:Nat):Int):=by rw [hbe.out];simp
   rw [hv]
   have hn:=(h1.set_ k (.int .u32 (be4 b k:Nat))).drew
   rw [zB9,show (first b k++zeros (64-k)).set k (be4 b k)=first b (k+1)++zeros (64-(k+1)) from hset.out] at hn
   go_roundw
   case rel=>exact ⟨k+1,by go_num,by omega,hn,(h2.far (by simp;omega) _).drew,(h3.far (by simp) _).drew,(h4.far (by simp) _).drew,(hbel.setCell (by simp;omega) _).drew⟩
   case measure=>simp [intOf];omega
  ·have hk16:k=16:=by omega
   have hki : ¬ (k:Int)<16:=by omega
   rw [hk16] at h1
   clear hk16
   have hgoal:Hid (sched 48 (first b 16)=wordsOf b):=rfl
   go_wp2
   go_loopw [9] (fun i wr => ∃ (t:Nat) (l:List Nat),i = .int .i64 t∧16≤t∧t≤64∧Hid (l.length=t)∧Hid (Fit32 l)∧Hid (sched (64-t) l=wordsOf b)∧Blk wr (w.heap.size+1+1+1) 171 (u32s (l++zeros (64-t)))∧Blk wr w.heap.size 170 (u32s s0.list)∧Blk wr (w.heap.size+1) 171 (u32s KK)∧Blk wr (w.heap.size+1+1) 170 (u32s (List.replicate 8 0))∧Below w.heap.size w wr) (fun i _=>64-(intOf i).toNat)
   case atStart=>exact ⟨16,first b 16,rfl,by omega,by omega,zBI b 16,first_fit b 16,hgoal,h1,h2,h3,h4,hbel⟩
   case round=>
    clear h1 h2 h3 h4 hbel hbs
    obtain ⟨t,l,rfl,ht0,ht1,hlen,hfit,hsc,h1,h2,h3,h4,hbel⟩:=hrel
    have hbs:=h1.lt
    by_cases hlt:t<64
    ·have hti:(t:Int)<64:=by omega
     have get (j:Nat) (hj:j<t):wr.cell? ⟨w.heap.size+1+1+1,j,none⟩=some (.int .u32 (l.getD j 0:Nat)):=by
      rw [h1.cell,zA3 _ _ (by rw [List.length_append,hlen.out,zBH];omega),getD_left (by rw [hlen.out];exact hj)]
     have c16:=get (t-16) (by omega)
     have c15:=get (t-15) (by omega)
     have c7:=get (t-7) (by omega)
     have c2:=get (t-2) (by omega)
     have ct:wr.cell? ⟨w.heap.size+1+1+1,t,none⟩=some (.int .u32 ((l++zeros (64-t)).getD t 0:Nat)):=by
      rw [h1.cell,zA3 _ _ (by rw [List.length_append,hlen.out,zBH];omega)]
     have hft:=h1.frozen t
     have b16:=hfit.out (t-16)
     have b15:=hfit.out (t-15)
     have b7:=hfit.out (t-7)
     have b2:=hfit.out (t-2)
     have hnext:Hid (nextW l=(l.getD (t-16) 0+l.getD (t-7) 0+sig0 (l.getD (t-15) 0)+sig1 (l.getD (t-2) 0))%4294967296):=by
      unfold nextW;rw [hlen.out];rfl
     clear get
     generalize l.getD (t-16) 0=x16 at *
     generalize l.getD (t-15) 0=x15 at *
     generalize l.getD (t-7) 0=x7 at *
     generalize l.getD (t-2) 0=x2 at *
     generalize (l++zeros (64-t)).getD t 0=old at *
     obtain ⟨u16,i16,v16⟩ : ∃ u:Nat,IntKind.i64.wrap ((t:Int)-16)=(u:Int)∧u=t-16:=⟨t-16,by rw [IntWalk.i64_in _ (by omega)];omega,rfl⟩
     rw [←v16] at c16
     have m16:(u16:Int)<64:=by omega
     have n16:u16<64:=by omega
     have v16h:=Lib.hid v16
     clear v16
     obtain ⟨u15,i15,v15⟩ : ∃ u:Nat,IntKind.i64.wrap ((t:Int)-15)=(u:Int)∧u=t-15:=⟨t-15,by rw [IntWalk.i64_in _ (by omega)];omega,rfl⟩
     rw [←v15] at c15
     have m15:(u15:Int)<64:=by omega
     have n15:u15<64:=by omega
     have v15h:=Lib.hid v15
     clear v15
     obtain ⟨u7,i7,v7⟩ : ∃ u:Nat,IntKind.i64.wrap ((t:Int)-7)=(u:Int)∧u=t-7:=⟨t-7,by rw [IntWalk.i64_in _ (by omega)];omega,rfl⟩
     rw [←v7] at c7
     have m7:(u7:Int)<64:=by omega
     have n7:u7<64:=by omega
     have v7h:=Lib.hid v7
     clear v7
     obtain ⟨u2,i2,v2⟩ : ∃ u:Nat,IntKind.i64.wrap ((t:Int)-2)=(u:Int)∧u=t-2:=⟨t-2,by rw [IntWalk.i64_in _ (by omega)];omega,rfl⟩
     rw [←v2] at c2
     have m2:(u2:Int)<64:=by omega
     have n2:u2<64:=by omega
     have v2h:=Lib.hid v2
     clear v2
     have r1:=rotr_lt (n:=7) b15 (by omega) (by omega)
     have r2:=rotr_lt (n:=18) b15 (by omega) (by omega)
     have r3:=rotr_lt (n:=17) b2 (by omega) (by omega)
     have r4:=rotr_lt (n:=19) b2 (by omega) (by omega)
     have e1:bits .xor .u32 (rotr x15 7:Int) (rotr x15 18:Int)=((rotr x15 7 ^^^ rotr x15 18:Nat):Int):=u32_xor_nat _ _ r1 r2
     have e2:bits .xor .u32 ((rotr x15 7 ^^^ rotr x15 18:Nat):Int) ((x15:Int) / 8)=((sig0 x15:Nat):Int):=by
      rw [show (x15:Int) / 8=((x15 / 8:Nat):Int) from by omega];exact u32_xor_nat _ _ (xor_lt r1 r2) (by omega)
     have e3:bits .xor .u32 (rotr x2 17:Int) (rotr x2 19:Int)=((rotr x2 17 ^^^ rotr x2 19:Nat):Int):=u32_xor_nat _ _ r3 r4
     have e4:bits .xor .u32 ((rotr x2 17 ^^^ rotr x2 19:Nat):Int) ((x2:Int) / 1024)=((sig1 x2:Nat):Int):=by
      rw [show (x2:Int) / 1024=((x2 / 1024:Nat):Int) from by omega];exact u32_xor_nat _ _ (xor_lt r3 r4) (by omega)
     go_wp2
     go_region_held3 (fun w'=>w'.cell? ⟨w.heap.size+1+1+1,u15,none⟩=some (.int .u32 (x15:Int))) (first | exact c15 | go_keep)
      (first
        | (go_at_call 123;(with_reducible refine (turn_at x15 7 7 rfl b15 (by omega) (by omega) _).mono ?_);rintro e w1 ⟨rfl,rfl⟩)
        | (go_at_call 123;(with_reducible refine (turn_at x15 18 18 rfl b15 (by omega) (by omega) _).mono ?_);rintro e w1 ⟨rfl,rfl⟩))
     go_wp2
     have c2d:wr.drew.cell? ⟨w.heap.size+1+1+1,u2,none⟩=some (.int .u32 (x2:Int)):=c2
     go_region_held3 (fun w'=>w'.cell? ⟨w.heap.size+1+1+1,u2,none⟩=some (.int .u32 (x2:Int))) (first | exact c2 | exact c2d | go_keep)
      (first
        | (go_at_call 123;(with_reducible refine (turn_at x2 17 17 rfl b2 (by omega) (by omega) _).mono ?_);rintro e w1 ⟨rfl,rfl⟩)
        | (go_at_call 123;(with_reducible refine (turn_at x2 19 19 rfl b2 (by omega) (by omega) _).mono ?_);rintro e w1 ⟨rfl,rfl⟩))
     go_wp2
     have c16d:wr.drew.drew.cell? ⟨w.heap.size+1+1+1,u16,none⟩=some (.int .u32 (x16:Int)):=c16
     have c7d:wr.drew.drew.cell? ⟨w.heap.size+1+1+1,u7,none⟩=some (.int .u32 (x7:Int)):=c7
     have ctd:wr.drew.drew.cell? ⟨w.heap.size+1+1+1,t,none⟩=some (.int .u32 (old:Int)):=ct
     have h1d:=h1.drew.drew
     have h2d:=h2.drew.drew
     have h3d:=h3.drew.drew
     have h4d:=h4.drew.drew
     have hbeld:=hbel.drew.drew
     have hftd:wr.drew.drew.frozen? ⟨w.heap.size+1+1+1,t,none⟩=false:=hft
     clear h1 h2 h3 h4 hbel hft c16 c15 c7 c2 ct c2d e1 e2 e3 e4 r1 r2 r3 r4
     generalize wr.drew.drew=wo at *
     obtain ⟨nx,hval,hnx⟩ : ∃ nx:Nat,IntKind.u32.wrap (IntKind.u32.wrap (IntKind.u32.wrap ((x16:Int)+((sig0 x15:Nat):Int))+(x7:Int))+((sig1 x2:Nat):Int))=(nx:Int)∧nx=nextW l:=by
      refine ⟨nextW l,?_,rfl⟩
      rw [hnext.out,IntKind.wrap_u32,IntKind.wrap_u32,IntKind.wrap_u32]
      omega
     have hnxh:=Lib.hid hnx
     clear hnx
     have ne16:u16≠t:=by have:=v16h.out;omega
     have ne7:u7≠t:=by have:=v7h.out;omega
     go_region_held3 (fun w'=>w'.cell? ⟨w.heap.size+1+1+1,u16,none⟩=some (.int .u32 (x16:Int))∧w'.cell? ⟨w.heap.size+1+1+1,u7,none⟩=some (.int .u32 (x7:Int))) (first | exact ⟨c16d,c7d⟩ | exact ⟨zE2 c16d ne16,zE2 c7d ne7⟩ | go_keep) (fail)
     go_wp2
     have hn1:Blk ((wo.setCell ⟨w.heap.size+1+1+1,t,none⟩ (.int .u32 (nx:Int))).drew) (w.heap.size+1+1+1) 171 (u32s ((l++[nx])++zeros (64-(t+1)))):=by
      have:=(h1d.set_ t (.int .u32 (nx:Int)))
      have hs:(l++zeros (64-t)).set l.length nx=(l++[nx])++zeros (64-t-1):=zEg l (64-t) nx (by omega)
      rw [hlen.out] at hs
      rw [zB9,hs,show 64-t-1=64-(t+1) from by omega] at this
      exact this.drew
     have hnlen:Hid ((l++[nx]).length=t+1):=by rw [List.length_append,hlen.out];rfl
     have hnfit:Hid (Fit32 (l++[nx])):=hfit.out.append (by rw [hnxh.out];exact nextW_lt l)
     have hnsc:Hid (sched (64-(t+1)) (l++[nx])=wordsOf b):=by
      rw [←hsc.out,show 64-t=(64-(t+1))+1 from by omega,sched,←hnxh.out];rfl
     go_roundw
     case rel=>exact ⟨t+1,l++[nx],by go_num,by omega,by omega,hnlen,hnfit,hnsc,hn1,(h2d.far (by simp;omega) _).drew,(h3d.far (by simp) _).drew,(h4d.far (by simp) _).drew,(hbeld.setCell (by simp;omega) _).drew⟩
     case measure=>simp [intOf];omega
    ·have ht64:t=64:=by omega
     have hti : ¬ (t:Int)<64:=by omega
     have hl:l=wordsOf b:=by have:=hsc.out;rw [ht64] at this;exact this
     rw [ht64,hl,show zeros (64-64)=[] from rfl,List.append_nil] at h1
     clear ht64 hl hsc hfit hlen
     have q0:=Blk.new wr 170 (u32s (List.replicate 8 0))
     have hi8:(Tryz.prog.info? 170).map (·.size)=some (u32s s0.list).size:=by rw [zAq];exact sz8
     have hall:=zBv s0.list
     have hold:(u32s (List.replicate 8 0)).size=(u32s s0.list).size:=by rw [zAq];rfl
     go_wp2_with (first
      | (refine wpList_load_row rfl 170 (.tmp 3) rfl w.heap.size rfl _ _ _ _ h2 Tryz.underlying170 rfl hi8 ?_)
      | (refine wpList_store_row rfl 170 (.tmp 12) (.tmp 106) rfl wr.heap.size (u32s s0.list) rfl rfl _ _ q0 hi8 hold hall ?_))
     obtain ⟨vb,hvb⟩ : ∃ vb,vb=wr.heap.size:=⟨_,rfl⟩
     obtain ⟨wz,hwz⟩ : ∃ wz,wz=World.setRow (wr.alloc (.cells (u32s (List.replicate 8 0)) 170)) wr.heap.size (u32s s0.list):=⟨_,rfl⟩
     have p0:Blk wz vb 170 (u32s s0.list):=by rw [hwz,hvb];exact setRow_heap _ _ _ _ _ _ q0
     have p1:Blk wz (w.heap.size+1+1+1) 171 (u32s (wordsOf b)):=by rw [hwz];unfold Blk;rw [setRow_other _ _ _ _ (by omega)];exact h1.alloc _
     have p2:Blk wz w.heap.size 170 (u32s s0.list):=by rw [hwz];unfold Blk;rw [setRow_other _ _ _ _ (by omega)];exact h2.alloc _
     have p3:Blk wz (w.heap.size+1) 171 (u32s KK):=by rw [hwz];unfold Blk;rw [setRow_other _ _ _ _ (by omega)];exact h3.alloc _
     have p4:Blk wz (w.heap.size+1+1) 170 (u32s (List.replicate 8 0)):=by rw [hwz];unfold Blk;rw [setRow_other _ _ _ _ (by omega)];exact h4.alloc _
     have p5:Below w.heap.size w wz:=by rw [hwz];exact zAa (hbel.alloc (by omega) _) (by omega) _
     have hvw:w.heap.size+1+1+1<vb:=by omega
     clear h1 h2 h3 h4 hbel q0
     go_loopw [13] (fun i wr => ∃ (t:Nat) (s:H8),i = .int .i64 t∧t≤64∧Hid (s=after (wordsOf b) s0 t)∧s.Fit∧Blk wr vb 170 (u32s s.list)∧Blk wr (w.heap.size+1+1+1) 171 (u32s (wordsOf b))∧Blk wr w.heap.size 170 (u32s s0.list)∧Blk wr (w.heap.size+1) 171 (u32s KK)∧Blk wr (w.heap.size+1+1) 170 (u32s (List.replicate 8 0))∧Below w.heap.size w wr) (fun i _=>64-(intOf i).toNat)
     case atStart=>exact ⟨0,s0,rfl,by omega,rfl,hs0,hwz▸p0,hwz▸p1,hwz▸p2,hwz▸p3,hwz▸p4,hwz▸p5⟩
     case round=>
      rw [←hvb]
      clear p0 p1 p2 p3 p4 p5 hwz hbs hvb
      obtain ⟨t,s,rfl,ht,hst,hfit,h0,h1,h2,h3,h4,hbel⟩:=hrel
      have hbs:=h0.lt
      by_cases hlt:t<64
      ·have hti:(t:Int)<64:=by omega
       have hnext:Hid (after (wordsOf b) s0 (t+1)=rnd s (KK.getD t 0) ((wordsOf b).getD t 0)):=by rw [←hKK.out,hst.out];rfl
       have bw:=wordsOf_fit b t
       have bk:KK.getD t 0<4294967296:=by rw [←hKK.out];exact K256_fit t
       have ck:wr.cell? ⟨w.heap.size+1,t,none⟩=some (.int .u32 (KK.getD t 0:Nat)):=by rw [h3.cell,zA3 _ _ (by omega)]
       have cw:wr.cell? ⟨w.heap.size+1+1+1,t,none⟩=some (.int .u32 ((wordsOf b).getD t 0:Nat)):=by rw [h1.cell,zA3 _ _ (by rw [zCh];omega)]
       generalize (wordsOf b).getD t 0=wt at *
       generalize KK.getD t 0=kt at *
       obtain ⟨xa,xb,xc,xd,xe,xf,xg,xh⟩:=s
       obtain ⟨ba,bb,bc,bd,be,bf,bg,bh⟩:=hfit
       simp only at ba bb bc bd be bf bg bh
       have c0:wr.cell? ⟨vb,0,none⟩=some (.int .u32 (xa:Int)):=h0.cell 0
       have c1:wr.cell? ⟨vb,1,none⟩=some (.int .u32 (xb:Int)):=h0.cell 1
       have c2:wr.cell? ⟨vb,2,none⟩=some (.int .u32 (xc:Int)):=h0.cell 2
       have c3:wr.cell? ⟨vb,3,none⟩=some (.int .u32 (xd:Int)):=h0.cell 3
       have c4:wr.cell? ⟨vb,4,none⟩=some (.int .u32 (xe:Int)):=h0.cell 4
       have c5:wr.cell? ⟨vb,5,none⟩=some (.int .u32 (xf:Int)):=h0.cell 5
       have c6:wr.cell? ⟨vb,6,none⟩=some (.int .u32 (xg:Int)):=h0.cell 6
       have c7:wr.cell? ⟨vb,7,none⟩=some (.int .u32 (xh:Int)):=h0.cell 7
       have r6:=rotr_lt (n:=6) be (by omega) (by omega)
       have r11:=rotr_lt (n:=11) be (by omega) (by omega)
       have r25:=rotr_lt (n:=25) be (by omega) (by omega)
       have r2:=rotr_lt (n:=2) ba (by omega) (by omega)
       have r13:=rotr_lt (n:=13) ba (by omega) (by omega)
       have r22:=rotr_lt (n:=22) ba (by omega) (by omega)
       have e1:bits .xor .u32 (rotr xe 6:Int) (rotr xe 11:Int)=((rotr xe 6 ^^^ rotr xe 11:Nat):Int):=u32_xor_nat _ _ r6 r11
       have e2:bits .xor .u32 ((rotr xe 6 ^^^ rotr xe 11:Nat):Int) (rotr xe 25:Int)=((sum1 xe:Nat):Int):=u32_xor_nat _ _ (xor_lt r6 r11) r25
       have e3:bits .and .u32 (xe:Int) (xf:Int)=((xe &&& xf:Nat):Int):=u32_and_nat _ _ be bf
       have e4:bits .xor .u32 IntKind.u32.max (xe:Int)=((4294967295 ^^^ xe:Nat):Int):=u32_xor_nat 4294967295 _ (by omega) be
       have bn:4294967295 ^^^ xe<4294967296:=xor_lt (by omega) be
       have e5:bits .and .u32 ((4294967295 ^^^ xe:Nat):Int) (xg:Int)=(((4294967295 ^^^ xe) &&& xg:Nat):Int):=u32_and_nat _ _ bn bg
       have e6:bits .xor .u32 ((xe &&& xf:Nat):Int) (((4294967295 ^^^ xe) &&& xg:Nat):Int)=(((xe &&& xf) ^^^ ((4294967295 ^^^ xe) &&& xg):Nat):Int):=u32_xor_nat _ _ (and_lt bf) (and_lt bg)
       obtain ⟨X,hX,hXe⟩ : ∃ X:Nat,IntKind.u32.wrap (IntKind.u32.wrap (IntKind.u32.wrap (IntKind.u32.wrap ((xh:Int)+((sum1 xe:Nat):Int))+(((xe &&& xf) ^^^ ((4294967295 ^^^ xe) &&& xg):Nat):Int))+(kt:Int))+(wt:Int))=(X:Int)∧X=rndX ⟨xa,xb,xc,xd,xe,xf,xg,xh⟩ kt wt:=by
        refine ⟨_,?_,rfl⟩
        unfold rndX
        generalize ((xe &&& xf) ^^^ ((4294967295 ^^^ xe) &&& xg))=ch
        simp only [IntKind.wrap_u32]
        omega
       have hXh:=Lib.hid hXe
       clear hXe
       have f1:bits .xor .u32 (rotr xa 2:Int) (rotr xa 13:Int)=((rotr xa 2 ^^^ rotr xa 13:Nat):Int):=u32_xor_nat _ _ r2 r13
       have f2:bits .xor .u32 ((rotr xa 2 ^^^ rotr xa 13:Nat):Int) (rotr xa 22:Int)=((sum0 xa:Nat):Int):=u32_xor_nat _ _ (xor_lt r2 r13) r22
       have f3:bits .and .u32 (xa:Int) (xb:Int)=((xa &&& xb:Nat):Int):=u32_and_nat _ _ ba bb
       have f4:bits .and .u32 (xa:Int) (xc:Int)=((xa &&& xc:Nat):Int):=u32_and_nat _ _ ba bc
       have f5:bits .and .u32 (xb:Int) (xc:Int)=((xb &&& xc:Nat):Int):=u32_and_nat _ _ bb bc
       have f6:bits .xor .u32 ((xa &&& xb:Nat):Int) ((xa &&& xc:Nat):Int)=(((xa &&& xb) ^^^ (xa &&& xc):Nat):Int):=u32_xor_nat _ _ (and_lt bb) (and_lt bc)
       have f7:bits .xor .u32 (((xa &&& xb) ^^^ (xa &&& xc):Nat):Int) ((xb &&& xc:Nat):Int)=(((xa &&& xb) ^^^ (xa &&& xc) ^^^ (xb &&& xc):Nat):Int):=u32_xor_nat _ _ (xor_lt (and_lt bb) (and_lt bc)) (and_lt bc)
       obtain ⟨Y,hY,hYe⟩ : ∃ Y:Nat,IntKind.u32.wrap (((sum0 xa:Nat):Int)+(((xa &&& xb) ^^^ (xa &&& xc) ^^^ (xb &&& xc):Nat):Int))=(Y:Int)∧Y=rndY ⟨xa,xb,xc,xd,xe,xf,xg,xh⟩:=by
        refine ⟨_,?_,rfl⟩
        unfold rndY
        generalize (xa &&& xb) ^^^ (xa &&& xc) ^^^ (xb &&& xc)=mj
        simp only [IntKind.wrap_u32]
        omega
       have hYh:=Lib.hid hYe
       clear hYe
       go_wp2
       go_quiet (first
        | (go_at_call 123;with_reducible exact zBR (turn_at xe 6 6 rfl be (by omega) (by omega) _))
        | (go_at_call 123;with_reducible exact zBR (turn_at xe 11 11 rfl be (by omega) (by omega) _))
        | (go_at_call 123;with_reducible exact zBR (turn_at xe 25 25 rfl be (by omega) (by omega) _)))
       have k0:=h0.drewN nq
       have k1:=h1.drewN nq
       have k2:=h2.drewN nq
       have k3:=h3.drewN nq
       have k4:=h4.drewN nq
       have kbel:=bdrewN hbel nq
       have c0':(wr.drewN nq).cell? ⟨vb,0,none⟩=some (.int .u32 (xa:Int)):=c0
       have c1':(wr.drewN nq).cell? ⟨vb,1,none⟩=some (.int .u32 (xb:Int)):=c1
       have c2':(wr.drewN nq).cell? ⟨vb,2,none⟩=some (.int .u32 (xc:Int)):=c2
       have hX2:(((xh:Int)+((sum1 xe:Nat):Int)+bits .xor .u32 ((xe &&& xf:Nat):Int) (bits .and .u32 (bits .xor .u32 (if IntKind.u32.signed=true then -1 else IntKind.u32.max) (xe:Int)) (xg:Int))+(kt:Int))%4294967296+(wt:Int))%4294967296=(X:Int):=by
        rw [show (if IntKind.u32.signed=true then (-1:Int) else IntKind.u32.max)=IntKind.u32.max from rfl,e4,e5,e6,hXh.out,rndX]
        generalize ((xe &&& xf) ^^^ ((4294967295 ^^^ xe) &&& xg))=ch
        simp only
        omega
       rw [hX2]
       clear hX2
       clear h0 h1 h2 h3 h4 hbel c0 c1 c2 c3 c4 c5 c6 c7 ck cw hX e1 e2 e3 e4 e5 e6
       generalize wr.drewN nq=wo at *
       go_simp
       go_step
       go_step
       go_quiet (first
        | (go_at_call 123;with_reducible exact zBR (turn_at xa 2 2 rfl ba (by omega) (by omega) _))
        | (go_at_call 123;with_reducible exact zBR (turn_at xa 13 13 rfl ba (by omega) (by omega) _))
        | (go_at_call 123;with_reducible exact zBR (turn_at xa 22 22 rfl ba (by omega) (by omega) _)))
       have g0:=k0.drewN nq
       have g1:=k1.drewN nq
       have g2:=k2.drewN nq
       have g3:=k3.drewN nq
       have g4:=k4.drewN nq
       have gbel:=bdrewN kbel nq
       clear k0 k1 k2 k3 k4 kbel c0' c1' c2' f1 f2 f3 f4 f5 f6 f7 hY r2 r13 r22 r6 r11 r25
       generalize wo.drewN nq=wp at *
       go_simp
       go_step
       have d0:wp.cell? ⟨vb,0,none⟩=some (.int .u32 (xa:Int)):=g0.cell 0
       have d1:wp.cell? ⟨vb,1,none⟩=some (.int .u32 (xb:Int)):=g0.cell 1
       have d2:wp.cell? ⟨vb,2,none⟩=some (.int .u32 (xc:Int)):=g0.cell 2
       have d3:wp.cell? ⟨vb,3,none⟩=some (.int .u32 (xd:Int)):=g0.cell 3
       have d4:wp.cell? ⟨vb,4,none⟩=some (.int .u32 (xe:Int)):=g0.cell 4
       have d5:wp.cell? ⟨vb,5,none⟩=some (.int .u32 (xf:Int)):=g0.cell 5
       have d6:wp.cell? ⟨vb,6,none⟩=some (.int .u32 (xg:Int)):=g0.cell 6
       obtain ⟨D,hD,hDe⟩ : ∃ D:Nat,IntKind.u32.wrap ((xd:Int)+(X:Int))=(D:Int)∧D=(xd+X)%4294967296:=⟨_,by rw [IntKind.wrap_u32];omega,rfl⟩
       obtain ⟨A0,hA,hAe⟩ : ∃ A0:Nat,IntKind.u32.wrap ((X:Int)+(Y:Int))=(A0:Int)∧A0=(X+Y)%4294967296:=⟨_,by rw [IntKind.wrap_u32];omega,rfl⟩
       have hDh:=Lib.hid hDe
       have hAh:=Lib.hid hAe
       clear hDe hAe
       have hiN:(Tryz.prog.info? 170).map (·.size)=some (u32s (H8.mk A0 xa xb xc D xe xf xg).list).size:=by rw [zAq];exact sz8
       have hallN:=zBv (H8.mk A0 xa xb xc D xe xf xg).list
       go_wp2_with (first
        | (refine wpList_store_row rfl 170 (.tmp 12) (.tmp 194) rfl vb (u32s (H8.mk A0 xa xb xc D xe xf xg).list) rfl rfl _ _ g0 hiN rfl hallN ?_))
       have e0:Blk (wp.setRow vb (u32s (H8.mk A0 xa xb xc D xe xf xg).list)) vb 170 (u32s (H8.mk A0 xa xb xc D xe xf xg).list):=setRow_heap _ _ _ _ _ _ g0
       have e1:Blk (wp.setRow vb (u32s (H8.mk A0 xa xb xc D xe xf xg).list)) (w.heap.size+1+1+1) 171 (u32s (wordsOf b)):=by unfold Blk;rw [setRow_other _ _ _ _ (by omega)];exact g1
       have e2:Blk (wp.setRow vb (u32s (H8.mk A0 xa xb xc D xe xf xg).list)) w.heap.size 170 (u32s s0.list):=by unfold Blk;rw [setRow_other _ _ _ _ (by omega)];exact g2
       have e3:Blk (wp.setRow vb (u32s (H8.mk A0 xa xb xc D xe xf xg).list)) (w.heap.size+1) 171 (u32s KK):=by unfold Blk;rw [setRow_other _ _ _ _ (by omega)];exact g3
       have e4:Blk (wp.setRow vb (u32s (H8.mk A0 xa xb xc D xe xf xg).list)) (w.heap.size+1+1) 170 (u32s (List.replicate 8 0)):=by unfold Blk;rw [setRow_other _ _ _ _ (by omega)];exact g4
       have e5:Below w.heap.size w (wp.setRow vb (u32s (H8.mk A0 xa xb xc D xe xf xg).list)):=zAa gbel (by omega) _
       have hns:Hid (H8.mk A0 xa xb xc D xe xf xg=after (wordsOf b) s0 (t+1)):=by
        show _=_
        rw [hnext.out,rnd,hAh.out,hDh.out,hXh.out,hYh.out]
       have hnf:(H8.mk A0 xa xb xc D xe xf xg).Fit:=⟨by have:=hAh.out;show A0<_;omega,ba,bb,bc,by have:=hDh.out;show D<_;omega,be,bf,bg⟩
       clear d0 d1 d2 d3 d4 d5 d6 hD hA hiN hallN
       generalize wp.setRow vb (u32s (H8.mk A0 xa xb xc D xe xf xg).list)=wq at *
       go_wp2
       go_roundw
       case rel=>exact ⟨t+1,_,by go_num,by omega,hns,hnf,e0,e1,e2,e3,e4,e5⟩
       case measure=>simp [intOf];omega
      ·have ht64:t=64:=by omega
       have hti : ¬ (t:Int)<64:=by omega
       obtain ⟨R,hR⟩ : ∃ R,Hid (blockOf s0 b=R):=⟨_,rfl⟩
       have hsv:Hid (R=s.plus s0):=by show _=_;rw [←hR.out,blockOf,←ht64,←hst.out]
       clear ht64 hst
       go_wp2
       go_loopw [16] (fun i wr => ∃ i':Nat,i = .int .i64 i'∧i'≤8∧Blk wr vb 170 (u32s (mixed s.list s0.list i'))∧Blk wr w.heap.size 170 (u32s s0.list)∧Blk wr (w.heap.size+1+1) 170 (u32s (List.replicate 8 0))∧Below w.heap.size w wr) (fun i _=>8-(intOf i).toNat)
       case atStart=>exact ⟨0,rfl,by omega,h0,h2,h4,hbel⟩
       case round=>
        clear h0 h1 h2 h3 h4 hbel hbs
        obtain ⟨i,rfl,hi,h1,h2,h3,hbel⟩:=hrel
        have hbs:=h1.lt
        by_cases hi8:i<8
        ·have hii:(i:Int)<8:=by omega
         have ml:(mixed s.list s0.list i).length=8:=zED s.list s0.list rfl i hi
         have cv:wr.cell? ⟨vb,i,none⟩=some (.int .u32 (s.list.getD i 0:Nat)):=by
          rw [h1.cell,zA3 _ _ (by omega),mixed_get s.list s0.list rfl i hi8]
         have cs:wr.cell? ⟨w.heap.size,i,none⟩=some (.int .u32 (s0.list.getD i 0:Nat)):=by
          rw [h2.cell,zA3 _ _ hi8]
         have zv:=h1.frozen i
         have hms:=Lib.hid (mixed_step s.list s0.list rfl i hi8)
         unfold add32 at hms
         generalize s.list.getD i 0=xv at *
         generalize s0.list.getD i 0=xs at *
         obtain ⟨N,hN,hNe⟩ : ∃ N:Nat,IntKind.u32.wrap ((xv:Int)+(xs:Int))=(N:Int)∧N=(xv+xs)%4294967296:=⟨_,by rw [IntKind.wrap_u32];omega,rfl⟩
         have hNh:=Lib.hid hNe
         clear hNe
         go_wp2
         go_region
         go_wp2
         go_roundw
         case rel=>
          refine ⟨i+1,by go_num,by omega,?_,?_,?_,?_⟩
          ·have:=(h1.set_ i (.int .u32 (N:Int))).drew
           rw [zB9,hNh.out,hms.out] at this
           rw [hNh.out]
           exact this
          ·exact (h2.far (p:=⟨vb,i,none⟩) (by simp;omega) _).drew
          ·exact (h3.far (p:=⟨vb,i,none⟩) (by simp;omega) _).drew
          ·exact (hbel.setCell (p:=⟨vb,i,none⟩) (by simp;omega) _).drew
         case measure=>simp [intOf];omega
        ·have hi8':i=8:=by omega
         have hii : ¬ (i:Int)<8:=by omega
         rw [hi8',mixed_all,←hsv.out] at h1
         clear hi8'
         have hi':(Tryz.prog.info? 170).map (·.size)=some (u32s R.list).size:=by rw [zAq];exact sz8
         have hall':=zBv R.list
         have hold':(u32s (List.replicate 8 0)).size=(u32s R.list).size:=by rw [zAq];rfl
         go_wp2_with (first
          | (refine wpList_load_row rfl 170 (.tmp 12) rfl vb rfl _ _ _ _ h1 Tryz.underlying170 rfl hi' ?_)
          | (refine wpList_store_row rfl 170 (.tmp 6) (.tmp 208) rfl (w.heap.size+1+1) (u32s R.list) rfl rfl _ _ h3 hi' hold' hall' ?_))
         exact bodyPost_ret (results_cell_row rfl _ _ (w.heap.size+1+1) _ _ _ _ rfl (setRow_heap _ _ _ _ _ _ h3) Tryz.underlying170 rfl hi') rfl ⟨by rw [hR.out],zAa hbel (by omega) _⟩
end
section
attribute [local go_sem ↓] Go.wp_at_zero Go.wp_at_succ
attribute [local go_sem ↓] ldv8_eq stv8_eq
attribute [local go_sem] run_ldv8 run_stv8
def ldv64 (p:Addr):Sem Value:=loadVar 171 p
theorem ldv64_eq (p:Addr):loadVar 171 p=ldv64 p:=rfl
theorem run_ldv64 (w:World) (g:Nat) (hh:HasRow w g 171 64):(ldv64 ⟨g,0,none⟩).run Tryz.prog w = .ok (.agg (RowOf w g)) w:=by
 obtain ⟨cs,hn,h⟩:=hh
 rw [zB4 h]
 exact run_loadVar_row w g _ _ _ _ _ h Tryz.underlying171 rfl (by rw [hn];exact sz64)
attribute [local go_sem ↓] ldv64_eq
attribute [local go_sem] run_ldv64
theorem pad_done (n j:Nat) (hj:j≤padLen n) (h:(n+1+j)%64=56):j=padLen n:=by unfold padLen at *;omega
theorem pad_more (n j:Nat) (hj:j≤padLen n) (h:(n+1+j)%64≠56):j+1≤padLen n:=by unfold padLen at *;omega
theorem lenBytes_step' (n j:Nat) (hj:j<8):(zAU n).take (7-j)++[UInt8.ofNat ((n:Int)*8 / 2 ^ (8*j)%256).toNat]=(zAU n).take (8-j):=by
 have:=zDz n (7-j) (by omega)
 rwa [show 56-8*(7-j)=8*j from by omega,show 7-j+1=8-j from by omega] at this
theorem blocks_take (m:Nat) (s:H8) (l:List UInt8):blocks (m+1) s l=blocks m (blockOf s (l.take 64)) (l.drop 64):=rfl
theorem k_calls' (KK:List Nat) (h:Hid (K256=KK)) (w:World) :
 Calls Tryz.prog 97 #[] w fun e w'=>e = .returned (.agg (u32s KK))∧Below w.heap.size w w':=h.out▸k_calls w
theorem refBlock_calls' (KK:List Nat) (h:Hid (K256=KK)) (s0:H8) (hs0:s0.Fit) (b:List UInt8) (hb:b.length=64) (w:World) :
 Calls Tryz.prog 98 #[.agg (u32s s0.list), .string (B b), .agg (u32s KK)] w fun e w'=>e = .returned (.agg (u32s (blockOf s0 b).list))∧Below w.heap.size w w':=h.out▸refBlock_calls s0 hs0 b hb w
set_option maxRecDepth 100000 in
set_option maxHeartbeats 2000000 in
theorem zEI (l:List UInt8) (w:World) (hlen:l.length≤1099511627776) :
 Calls Tryz.prog 68 #[.string (B l)] w fun e w'=>e = .returned (.agg (u8s (shaOf l)))∧Below w.heap.size w w':=by
 have hll:(l.length:Int)≤1099511627776:=by omega
 obtain ⟨KK,hKK⟩ : ∃ KK,Hid (K256=KK):=⟨_,rfl⟩
 have hKl:KK.length=64:=by rw [←hKK.out];exact zBo
 have hst1:=Tryz.str_of_one
 have hst2:=fun (o:Obj) (x:Int)=>Tryz.str_of_oneAt (w.alloc o) (w.heap.size+1) x (by simp)
 go_enter Tryz.func68,Tryz.ntmps68
 go_wp2
 clear hst2
 have g0:=(Blk.new w 46 (u8s (List.replicate 32 0))).alloc (.cells #[.int .u8 128] 5)
 have b0:Below w.heap.size w ((w.alloc (.cells (u8s (List.replicate 32 0)) 46)).alloc (.cells #[.int .u8 128] 5)):=((Below.refl _ _).alloc (Nat.le_refl _) _).alloc (by simp) _
 go_loopw [4] (fun tx wr => ∃ (j:Nat),j≤padLen l.length∧tx = .string (B (l++128::List.replicate j 0))∧Blk wr w.heap.size 46 (u8s (List.replicate 32 0))∧Below w.heap.size w wr) (fun tx _=>l.length+1+64-(strOf tx).length)
 case atStart=>exact ⟨0,by omega,by simp,g0,b0⟩
 case round=>
  clear g0 b0
  obtain ⟨j,hj,rfl,hr,hbel⟩:=hrel
  have hrl:=hr.lt
  have hp64:padLen l.length<64:=by unfold padLen;omega
  have hjl:(j:Int)<64:=by omega
  have hlen0:(l++128::List.replicate j 0).length=l.length+1+j:=by simp;omega
  by_cases hd:(l.length+1+j)%64=56
  ·have hje:=pad_done _ _ hj hd
   have ht1:(((l++128::List.replicate j 0).length:Int)%64 != 56)=false:=by rw [hlen0];simp;omega
   have ht2:(((l.length:Int)+((j:Int)+1))%64 != 56)=false:=by simp;omega
   have ht3:(((l.length:Int)+1+(j:Int))%64 != 56)=false:=by simp;omega
   have hbsl:=Lib.hid hlen0
   have hbse:Hid (l++128::List.replicate j 0=l++128::List.replicate (padLen l.length) 0):=by show _=_;rw [←hje]
   clear hje hd hj
   generalize l++128::List.replicate j 0=bs at *
   have hbl:bs.length≤1099511627776+65:=by omega
   clear hlen0
   go_wp2
   go_loopw [5,4] (fun i tx wr => ∃ k:Nat,i = .int .i64 (7-(k:Int))∧k≤8∧tx = .string (B (bs++(zAU l.length).take k))∧Blk wr w.heap.size 46 (u8s (List.replicate 32 0))∧Below w.heap.size w wr) (fun i _ _=>(intOf i+1).toNat)
   case atStart=>exact ⟨0,rfl,by omega,by rw [List.take_zero,List.append_nil],hr,hbel⟩
   case round=>
    clear hr hbel hrl ht1 ht2 ht3
    obtain ⟨k,rfl,hk,rfl,hr,hbel⟩:=hrel
    have hrl:=hr.lt
    by_cases hk8:k<8
    ·obtain ⟨i,hi⟩ : ∃ i:Nat,(7-(k:Int))=(i:Int):=⟨7-k,by omega⟩
     have hi8:i<8:=by omega
     have hii:(i:Int)<8:=by omega
     have hstep:=lenBytes_step' l.length i hi8
     rw [show 7-i=k from by omega,show 8-i=k+1 from by omega] at hstep
     have hsteph:=Lib.hid hstep
     clear hstep
     have hnext:Hid ((i:Int)-1=7-((k+1:Nat):Int)):=by show _=_;omega
     rw [hi]
     clear hi
     have ht0:((zAU l.length).take k).length≤8:=by rw [List.length_take];omega
     generalize (zAU l.length).take k=t0 at *
     go_wp2
     go_roundw
     case rel=>exact ⟨k+1,congrArg (Value.int .i64) hnext.out,by omega,by rw [←hsteph.out],hr.alloc _,hbel.alloc (by omega) _⟩
     case measure=>simp [intOf]
    ·have hk8':k=8:=by omega
     have hki:(7-(k:Int))<0:=by omega
     have hpd:bs++(zAU l.length).take k=padded l:=by
      rw [hk8',List.take_of_length_le (by rw [zA9];omega),hbse.out]
      simp [padded]
     rw [hpd]
     clear hpd hk8'
     obtain ⟨m0,hm0⟩:=zDH l
     have hst0:Hid (blocks m0 H0 (padded l)=stateOf l):=by
      show _=_
      rw [stateOf,hm0,Nat.mul_div_cancel_left _ (by omega)]
     have hpdl:(padded l).length≤1099511627976:=by
      have:(padded l).length=l.length+1+padLen l.length+8:=by simp [padded,zA9];omega
      rw [this];omega
     have hm0h:=Lib.hid hm0
     clear hm0 hbse hbsl
     generalize padded l=pd at *
     have hi8:(Tryz.prog.info? 170).map (·.size)=some (u32s H0.list).size:=by rw [zAq];exact sz8
     have hall:=zBv H0.list
     have hold:(u32s (List.replicate 8 0)).size=(u32s H0.list).size:=rfl
     have hv0:=Blk.new wr 170 (u32s (List.replicate 8 0))
     have h0:Blk (World.setRow (wr.alloc (.cells (u32s (List.replicate 8 0)) 170)) wr.heap.size (u32s H0.list)) wr.heap.size 170 (u32s H0.list):=setRow_heap _ _ _ _ _ _ hv0
     have h1:Blk (World.setRow (wr.alloc (.cells (u32s (List.replicate 8 0)) 170)) wr.heap.size (u32s H0.list)) w.heap.size 46 (u8s (List.replicate 32 0)):=by
      unfold Blk;rw [setRow_other _ _ _ _ (by omega)];exact hr.alloc _
     have h2:Below w.heap.size w (World.setRow (wr.alloc (.cells (u32s (List.replicate 8 0)) 170)) wr.heap.size (u32s H0.list)):=zAa (hbel.alloc (by omega) _) (by omega) _
     have hi64:(Tryz.prog.info? 171).map (·.size)=some (u32s KK).size:=by rw [zBj,hKl];exact sz64
     have hall64:=zBv KK
     have hold64:(u32s (zeros 64)).size=(u32s KK).size:=by rw [zBj,zBj,hKl,zBH]
     go_wp2_with (first
      | (refine wpList_store_row rfl 170 (.tmp 6) (.tmp 41) rfl wr.heap.size (u32s H0.list) rfl rfl _ _ hv0 hi8 hold hall ?_)
      | (refine wpList_store_row rfl 171 (.tmp 7) (.tmp 42) rfl w1.heap.size (u32s KK) rfl rfl _ _ (Blk.new w1 171 (u32s (zeros 64))) hi64 hold64 hall64 ?_)
      | (go_at_call 97;go_must (refine (k_calls' KK hKK _).mono ?_);rintro e w1 ⟨rfl,hb1⟩))
     clear hv0 hr hbel hall hold hi8 hold64 hall64 hi64
     have k0:=h0.below hb1 h0.lt
     have k1:=h1.below hb1 h1.lt
     have k2:=bthen h2 h2.size hb1
     have hvw1:wr.heap.size<w1.heap.size:=k0.lt
     have hv1:=Blk.new w1 171 (u32s (zeros 64))
     have q0:Blk (World.setRow (w1.alloc (.cells (u32s (zeros 64)) 171)) w1.heap.size (u32s KK)) w1.heap.size 171 (u32s KK):=setRow_heap _ _ _ _ _ _ hv1
     have q1:Blk (World.setRow (w1.alloc (.cells (u32s (zeros 64)) 171)) w1.heap.size (u32s KK)) wr.heap.size 170 (u32s H0.list):=by
      unfold Blk;rw [setRow_other _ _ _ _ (by omega)];exact k0.alloc _
     have q2:Blk (World.setRow (w1.alloc (.cells (u32s (zeros 64)) 171)) w1.heap.size (u32s KK)) w.heap.size 46 (u8s (List.replicate 32 0)):=by
      unfold Blk;rw [setRow_other _ _ _ _ (by omega)];exact k1.alloc _
     have q3:Below w.heap.size w (World.setRow (w1.alloc (.cells (u32s (zeros 64)) 171)) w1.heap.size (u32s KK)):=zAa (k2.alloc (by omega) _) (by omega) _
     obtain ⟨vb,hvb⟩ : ∃ vb,wr.heap.size=vb:=⟨_,rfl⟩
     obtain ⟨kb,hkb⟩ : ∃ kb,w1.heap.size=kb:=⟨_,rfl⟩
     have hvw:w.heap.size<vb:=by omega
     have hkw:vb<kb:=by omega
     obtain ⟨wz,hwz⟩ : ∃ wz,World.setRow (w1.alloc (.cells (u32s (zeros 64)) 171)) w1.heap.size (u32s KK)=wz:=⟨_,rfl⟩
     rw [hwz] at q0 q1 q2 q3
     clear h0 h1 h2 k0 k1 k2 hb1 hv1 hvw1
     go_loopw [8] (fun i wr => ∃ (i' m:Nat) (s:H8),i = .int .i64 i'∧i'≤1099511627976∧Hid (pd.length=i'+64*m)∧Hid (blocks m s (pd.drop i')=stateOf l)∧s.Fit∧Blk wr kb 171 (u32s KK)∧Blk wr vb 170 (u32s s.list)∧Blk wr w.heap.size 46 (u8s (List.replicate 32 0))∧Below w.heap.size w wr) (fun i _=>pd.length+64-(intOf i).toNat)
     case atStart=>exact ⟨0,m0,H0,rfl,by omega,by rw [Nat.zero_add];exact hm0h,hst0,H0_fit,hwz▸hkb▸q0,hwz▸hvb▸q1,hwz▸q2,hwz▸q3⟩
     case round=>
      rw [hvb,hkb]
      clear q0 q1 q2 q3 hwz hvb hkb hm0h hst0 hrl
      obtain ⟨i,m,s,rfl,hi,hm,hst,hfit,h0,h1,h2,h3⟩:=hrel
      have hbs1:=h1.lt
      by_cases hlt:i+64≤pd.length
      ·have hlti:(i:Int)+64≤(pd.length:Int):=by omega
       have hR:HasRow wr vb 170 8:=zCt h1 (zAq s)
       have hO:RowOf wr vb=u32s s.list:=zB4 h1
       have hRd:HasRow wr.drew vb 170 8:=hR
       have hOd:RowOf wr.drew vb=u32s s.list:=hO
       have hRk:HasRow wr kb 171 64:=zCt h0 (by rw [zBj];exact hKl)
       have hOk:RowOf wr kb=u32s KK:=zB4 h0
       have hRkd:HasRow wr.drew kb 171 64:=hRk
       have hOkd:RowOf wr.drew kb=u32s KK:=hOk
       have h0d:Blk wr.drew kb 171 (u32s KK):=h0
       have h1d:Blk wr.drew vb 170 (u32s s.list):=h1
       have hbs1d:vb<wr.drew.heap.size:=hbs1
       have hbs0d:kb<wr.drew.heap.size:=h0.lt
       go_wp2
       have s1:IntKind.i64.wrap ((i:Int)+64)=(i:Int)+64:=IntWalk.i64_in _ (by omega)
       have s2:0≤(i:Int)+64:=by omega
       have s3:(i:Int)≤(i:Int)+64:=by omega
       have s4:((i:Int)+64).toNat=i+64:=by omega
       have s5:i+64-i=64:=by omega
       go_region_with (first
        | (go_at_call 98;go_must (refine (refBlock_calls' KK hKK s hfit ((pd.drop i).take 64) (by rw [List.length_take,List.length_drop];omega) _).mono ?_);rintro e w1 ⟨rfl,hb1⟩;have hRc:=zCt (h1d.below hb1 hbs1d) (zAq s);have hOc:=zB4 (h1d.below hb1 hbs1d)))
       all_goals
        clear s1 s2 s3 s4 s5
        have e0:Blk (w1.setRow vb (u32s (blockOf s ((pd.drop i).take 64)).list)) kb 171 (u32s KK):=by
         unfold Blk;rw [setRow_other _ _ _ _ (by omega)];exact Blk.below (w:=wr.drew) h0 hb1 h0.lt
        have e1:=setRow_heap w1 vb _ (u32s (blockOf s ((pd.drop i).take 64)).list) _ _ (h1d.below hb1 hbs1d)
        have e2:Blk (w1.setRow vb (u32s (blockOf s ((pd.drop i).take 64)).list)) w.heap.size 46 (u8s (List.replicate 32 0)):=by
         unfold Blk;rw [setRow_other _ _ _ _ (by omega)];exact Blk.below (w:=wr.drew) h2 hb1 h2.lt
        have e3:=zAa (bthen h3.drew (Nat.le_of_lt h2.lt) hb1) (Nat.le_of_lt hvw) (u32s (blockOf s ((pd.drop i).take 64)).list)
        have hml:=hm.out
        obtain ⟨m',rfl⟩ : ∃ m',m=m'+1:=⟨m-1,by omega⟩
        have hnst:Hid (blocks m' (blockOf s ((pd.drop i).take 64)) (pd.drop (i+64))=stateOf l):=by
         have:=hst.out
         rw [blocks_take,List.drop_drop] at this
         exact this
        have hnm:Hid (pd.length=i+64+64*m'):=by show _=_;omega
        have hfit2:(blockOf s ((pd.drop i).take 64)).Fit:=plus_fit _ _
        generalize blockOf s ((pd.drop i).take 64)=s' at *
        clear hRc hOc hb1 hml hm hst
        generalize w1.setRow vb (u32s s'.list)=wz at *
        go_wp2
        go_roundw
        case rel=>exact ⟨i+64,m',s',by go_num,by omega,hnm,hnst,hfit2,e0,e1,e2,e3⟩
        case measure=>simp [intOf];omega
      ·have hlti:(pd.length:Int)<(i:Int)+64:=by omega
       have hsl:Hid (s=stateOf l):=by
        have hm0':m=0:=by have:=hm.out;omega
        have:=hst.out
        rw [hm0'] at this
        exact this
       clear hst hm
       have hg0:=Blk.new wr 46 (u8s (List.replicate 32 0))
       have k0:Blk (World.setRow (wr.alloc (.cells (u8s (List.replicate 32 0)) 46)) wr.heap.size (u8s (List.replicate 32 0))) wr.heap.size 46 (u8s (List.replicate 32 0)):=setRow_heap _ _ _ _ _ _ hg0
       have k1:Blk (World.setRow (wr.alloc (.cells (u8s (List.replicate 32 0)) 46)) wr.heap.size (u8s (List.replicate 32 0))) vb 170 (u32s s.list):=by
        unfold Blk;rw [setRow_other _ _ _ _ (by omega)];exact h1.alloc _
       have k2:Blk (World.setRow (wr.alloc (.cells (u8s (List.replicate 32 0)) 46)) wr.heap.size (u8s (List.replicate 32 0))) w.heap.size 46 (u8s (List.replicate 32 0)):=by
        unfold Blk;rw [setRow_other _ _ _ _ (by omega)];exact h2.alloc _
       have k3:Below w.heap.size w (World.setRow (wr.alloc (.cells (u8s (List.replicate 32 0)) 46)) wr.heap.size (u8s (List.replicate 32 0))):=zAa (h3.alloc (Nat.le_of_lt h2.lt) _) (by omega) _
       have hi':(Tryz.prog.info? 46).map (·.size)=some (u8s (List.replicate 32 0)).size:=by rw [zAj,List.length_replicate];exact sz32
       have hall':=u8s_one (List.replicate 32 0)
       go_wp2_with (first
        | (refine wpList_store_row rfl 46 (.tmp 9) (.tmp 58) rfl wr.heap.size (u8s (List.replicate 32 0)) rfl rfl _ _ hg0 hi' rfl hall' ?_))
       obtain ⟨ib,hib⟩ : ∃ ib,wr.heap.size=ib:=⟨_,rfl⟩
       have hvi:vb<ib:=by omega
       clear h0 h1 h2 h3 hg0
       obtain ⟨wz,hwz⟩ : ∃ wz,World.setRow (wr.alloc (.cells (u8s (List.replicate 32 0)) 46)) wr.heap.size (u8s (List.replicate 32 0))=wz:=⟨_,rfl⟩
       rw [hwz] at k0 k1 k2 k3
       go_loopw [10] (fun i wr => ∃ k:Nat,i = .int .i64 k∧k≤32∧Blk wr ib 46 (u8s ((idOf s).take k++List.replicate (32-k) 0))∧Blk wr vb 170 (u32s s.list)∧Blk wr w.heap.size 46 (u8s (List.replicate 32 0))∧Below w.heap.size w wr) (fun i _=>32-(intOf i).toNat)
       case atStart=>exact ⟨0,rfl,by omega,hwz▸hib▸k0,hwz▸k1,hwz▸k2,hwz▸k3⟩
       case round=>
        rw [hib]
        clear k0 k1 k2 k3 hwz hib hbs1
        obtain ⟨i,rfl,hi,h0,h1,h2,h3⟩:=hrel
        have hbi:=h0.lt
        by_cases hi32:i<32
        ·have hii:(i:Int)<32:=by omega
         have hq:(i:Int) / 4<8:=by omega
         have hq0:(0:Int)≤(i:Int) / 4:=by omega
         have hqn:i / 4<8:=by omega
         have cw:wr.cell? ⟨vb,i / 4,none⟩=some (.int .u32 (s.list.getD (i / 4) 0:Nat)):=by
          rw [h1.cell,zA3 _ _ hqn]
         have cz:wr.cell? ⟨ib,i,none⟩=some (.int .u8 ((((idOf s).take i++List.replicate (32-i) 0).getD i 0).toNat:Nat)):=by
          rw [h0.cell,u8s_get _ _ (by rw [List.length_append,List.length_take,zAO,List.length_replicate];omega)]
         have fz:=h0.frozen i
         have hset:=Lib.hid (take_set (idOf s) i 32 (by rw [zAO];exact hi32) (zAO s).symm)
         have hget:=Lib.hid (idOf_get s i hi32)
         generalize (((idOf s).take i++List.replicate (32-i) 0).getD i 0).toNat=oz at *
         generalize s.list.getD (i / 4) 0=x at *
         go_wp2
         have hvv:(x:Int) / 2 ^ (24-8*(i%4))%256=((x / 2 ^ (24-8*(i%4))%256:Nat):Int):=by simp
         rw [hvv]
         have hlt:=Nat.mod_lt (x / 2 ^ (24-8*(i%4))) (show 0<256 by omega)
         have hn:=h0.set_ i (.int .u8 ((x / 2 ^ (24-8*(i%4))%256:Nat):Int))
         rw [u8s_set _ _ _ hlt,←hget.out,hset.out] at hn
         go_roundw
         case rel=>exact ⟨i+1,by go_num,by omega,hn,h1.far (by simp;omega) _,h2.far (by simp;omega) _,h3.setCell (by simp;omega) _⟩
         case measure=>simp [intOf];omega
        ·have hi32':i=32:=by omega
         have hii : ¬ (i:Int)<32:=by omega
         have h0':Blk wr ib 46 (u8s (idOf s)):=by
          rw [hi32',List.take_of_length_le (by rw [zAO];omega),Nat.sub_self,List.replicate_zero,List.append_nil] at h0
          exact h0
         clear hi32' h0
         have hid:(idOf s).length=32:=zAO s
         have hfin:Hid (shaOf l=idOf s):=by show _=_;rw [hsl.out];rfl
         clear hsl
         generalize idOf s=id at *
         have hi2:(Tryz.prog.info? 46).map (·.size)=some (u8s id).size:=by rw [zAj,hid];exact sz32
         have hall2:=u8s_one id
         have hold2:(u8s (List.replicate 32 0)).size=(u8s id).size:=by rw [zAj,zAj,hid,List.length_replicate]
         go_wp2_with (first
          | (refine wpList_load_row rfl 46 (.tmp 9) rfl ib rfl _ _ _ _ h0' Tryz.underlying46 rfl hi2 ?_)
          | (refine wpList_store_row rfl 46 (.tmp 2) (.tmp 76) rfl w.heap.size (u8s id) rfl rfl _ _ h2 hi2 hold2 hall2 ?_))
         exact bodyPost_ret (results_cell_row rfl _ _ w.heap.size _ _ _ _ rfl (setRow_heap _ _ _ _ _ _ h2) Tryz.underlying46 rfl hi2) rfl ⟨by rw [hfin.out],zAa h3 (Nat.le_refl _) _⟩
  ·have hjm:=pad_more _ _ hj hd
   have ht1:(((l++128::List.replicate j 0).length:Int)%64 != 56)=true:=by rw [hlen0];simp;omega
   have ht2:(((l.length:Int)+((j:Int)+1))%64 != 56)=true:=by simp;omega
   have ht3:(((l.length:Int)+1+(j:Int))%64 != 56)=true:=by simp;omega
   have hq:Hid ((l++128::List.replicate j 0)++[0]=l++128::List.replicate (j+1) 0):=by
    show _=_
    rw [List.append_assoc,List.cons_append,←List.replicate_succ']
   go_wp2
   go_roundw
   case rel=>exact ⟨j+1,hjm,by rw [←hq.out];simp,hr.alloc _,hbel.alloc (by omega) _⟩
   case measure=>rw [strOf_B,strOf_B];simp;omega
end
section
def stvS (p:Addr) (v:Value):Sem Unit:=storeVar 28 p v
theorem stvS_eq (p:Addr) (v:Value):storeVar 28 p v=stvS p v:=rfl
def ldvT (p:Addr):Sem Value:=loadVar 70 p
theorem ldvT_eq (p:Addr):loadVar 70 p=ldvT p:=rfl
attribute [local go_sem ↓] ldvI_eq ldvO_eq ldvS_eq ldvT_eq stvI_eq stvS_eq
def OldOr (B:Nat) (es:List DiL) (e:DiL):Prop:=e∈es∨((∀ k,e.ve.ownBlock=some k→B≤k) ∧ ∀ k,e.vp.ownBlock=some k→B≤k)
def WithQ (B:Nat) (vm:Value) (es:List DiL) (L:List StL) (n:Txt) (b:Bool) (e:Ending) (w':World):Prop := ∃ vm' es',e = .returned (.tuple #[.agg #[vm'], .agg (u8s n), .bool b])∧DocSt w' vm' es'∧es'.map (·.st)=L∧(∀ e∈es',OldOr B es e)∧(vm'=vm ∨ ∀ k,vm'.ownBlock=some k→B≤k)
def WithR (w:World) (vm:Value) (es:List DiL) (t:Txt) (e:Ending) (w':World):Prop:=WithQ w.heap.size vm es (putS (es.map (·.st)) t) (putI t) (decO t).isSome e w'
theorem zE7 {W:World} {g4 g5:Nat} {vm vz:Value} {n:Txt} {zi:Array Value} (h4:Blk W g4 28 #[vz]) (h5:Blk W g5 46 zi) (hne:g4≠g5) (hn:n.length=32) (hz:zi.size=32) (hv:vm.oneCell'=true) :
 (stvS ⟨g4,0,none⟩ (.agg #[vm])).run Tryz.prog W = .ok () (W.setRow g4 #[vm])∧(stvI ⟨g5,0,none⟩ (.agg (u8s n))).run Tryz.prog (W.setRow g4 #[vm]) = .ok () ((W.setRow g4 #[vm]).setRow g5 (u8s n)) ∧
 ((W.setRow g4 #[vm]).setRow g5 (u8s n)).heap[g4]?=some (.cells #[vm] 28 (0,0))∧((W.setRow g4 #[vm]).setRow g5 (u8s n)).heap[g5]?=some (.cells (u8s n) 46 (0,0)):=by
 have hl:(u8s n).size=32:=by rw [zAj,hn]
 have h5':Blk (W.setRow g4 #[vm]) g5 46 zi:=by
  show (W.setRow g4 #[vm]).heap[g5]?=_
  rw [setRow_other _ _ _ _ (fun e=>hne e.symm)]
  exact h5
 refine ⟨run_storeVar_row W g4 _ _ _ _ h4 szDSt rfl (by simp [hv]),run_storeVar_row _ g5 _ _ _ _ h5' (by rw [hl];exact sz32) (hz.trans hl.symm) (u8s_one n),?_,setRow_heap _ _ _ _ _ _ h5'⟩
 rw [setRow_other _ _ _ _ hne]
 exact setRow_heap _ _ _ _ _ _ h4
theorem acc_bounds {a n:Nat} (h:a≤n+1) (hf:n<490000):a+1≤9223372036854775807∧(a+1)*232≤140737488355328∧(a+1)+1≤9223372036854775807∧((a+1)+1)*232≤140737488355328:=by
 refine ⟨by omega,by omega,by omega,by omega⟩
theorem with_laid {F:World} {base:Nat} {vo:Value} {es:List DiL} {nw:DiL} {x:StL} {p B:Nat} (own:OwnDits F base vo (es.take p++[nw]++es.drop p)) (each : ∀ e∈es,DitOk F e) (hnw:DitOk F nw) (hst:nw.st=x) (hB:(∀ k,nw.ve.ownBlock=some k→B≤k) ∧ ∀ k,nw.vp.ownBlock=some k→B≤k)
 (hins:insK StL.id (es.map (·.st)) x=(es.take p).map (·.st)++[x]++(es.drop p).map (·.st)) (hput:StoOk (insK StL.id (es.map (·.st)) x)) : ∃ es',DocSt F vo es'∧es'.map (·.st)=insK StL.id (es.map (·.st)) x ∧ ∀ e∈es',OldOr B es e:=by
 have hmem : ∀ e∈es.take p++[nw]++es.drop p,DitOk F e:=by
  intro e he
  rcases List.mem_append.1 he with he | he
  ·rcases List.mem_append.1 he with he | he
   ·exact each e (List.mem_of_mem_take he)
   ·rw [List.mem_singleton.1 he];exact hnw
  ·exact each e (List.mem_of_mem_drop he)
 have hmap:(es.take p++[nw]++es.drop p).map (·.st)=insK StL.id (es.map (·.st)) x:=by
  rw [hins,List.map_append,List.map_append,←hst]
  rfl
 exact ⟨_,⟨zAw own (Nat.zero_le _),hmem,by rw [hmap];exact hput⟩,hmap,fun e he=>by
  rcases List.mem_append.1 he with he | he
  ·rcases List.mem_append.1 he with he | he
   ·exact .inl (List.mem_of_mem_take he)
   ·rw [List.mem_singleton.1 he];exact .inr hB
  ·exact .inl (List.mem_of_mem_drop he)⟩
theorem own_named {w:World} {base:Nat} {e:TypeId} {size n:Nat} {v:Value} {xs:List Value} (h:w.ownsRow base e size v n xs) : ∃ A c L,v = .slice A L c:=by
 obtain ⟨A,c,rfl⟩:=zAm h
 exact ⟨A,c,n,rfl⟩
theorem zDv {W:World} {g k:Nat} {t:TypeId} {cs:Array Value} (h:Blk W k t cs) (hne:k≠g) (c:Array Value):Blk (W.setRow g c) k t cs:=by
 show (W.setRow g c).heap[k]?=_
 rw [setRow_other _ _ _ _ hne]
 exact h
theorem zEZ (s:List StL) (n:Txt):hasK StL.id s n=(getS s n).isSome:=by
 unfold hasK getS
 rw [Bool.eq_iff_iff,List.any_eq_true,List.find?_isSome]
theorem less_from {s:List StL} {n:Txt} {x:StL} {k:Nat} (hs:SortedK StL.id s) (hh:hasK StL.id s n=false) (hx:s[k]?=some x):Op.bytesLess n x.id=decide (posK StL.id s n≤k):=by
 have h1:=zDA (n:=n) hs hx
 have hm:=hasK_mem hh x (List.mem_of_getElem? hx)
 cases hb:Op.bytesLess x.id n with
 | true=>
   rw [zCl hb]
   rw [hb] at h1
   have:=of_decide_eq_true h1.symm
   symm
   rw [decide_eq_false_iff_not]
   omega
 | false=>
   rw [zBg hb (by simpa using hm)]
   rw [hb] at h1
   have:=of_decide_eq_false h1.symm
   symm
   rw [decide_eq_true_iff]
   omega
end
section
attribute [local go_sem ↓] ldvI_eq ldvO_eq ldvS_eq ldvT_eq stvI_eq stvS_eq
set_option maxRecDepth 100000 in
set_option maxHeartbeats 16000000 in
theorem docWith_none {w:World} {vm:Value} {es:List DiL} (h:DocSt w vm es) (hf:es.length<490000) (t:Txt) (ht:t.length≤5000) (hd:decO t=none) :
 Calls Tryz.prog 41 #[.agg #[vm], .string (B t)] w fun e w'=>WithR w vm es t e w'∧Below w.heap.size w w':=by
 have hzI:=zeroIdV
 have hzo:=zeroObj
 have hz72:=zAB
 have hrb:=fun W=>run_build (P:=Tryz.prog) W _ _ _ zBS
 have hZ32:(u8s noId).size=32:=by rw [zAj,zAg]
 have hZone:=u8s_one noId
 have hszI : ∀ cs:Array Value,cs.size=32→(Tryz.prog.info? 46).map (·.size)=some cs.size:=fun cs h=>by rw [h];exact sz32
 obtain ⟨W1,hW1⟩ : ∃ W1,w.alloc (.cells #[vm] 28)=W1:=⟨_,rfl⟩
 have s1:Blk W1 w.heap.size 28 #[vm]:=by rw [←hW1];exact Blk.new _ _ _
 have b1:Below w.heap.size w W1:=by rw [←hW1];exact (Below.refl _ _).alloc (Nat.le_refl _) _
 obtain ⟨W2,hW2⟩ : ∃ W2,W1.alloc (.cells #[.slice none 0 0] 28)=W2:=⟨_,rfl⟩
 have r2:Blk W2 W1.heap.size 28 #[.slice none 0 0]:=by rw [←hW2];exact Blk.new _ _ _
 have bb2:Below W1.heap.size W1 W2:=by rw [←hW2];exact (Below.refl _ _).alloc (Nat.le_refl _) _
 obtain ⟨W3,hW3⟩ : ∃ W3,W2.alloc (.cells (u8s noId) 46)=W3:=⟨_,rfl⟩
 have i3:Blk W3 W2.heap.size 46 (u8s noId):=by rw [←hW3];exact Blk.new _ _ _
 have bb3:Below W2.heap.size W2 W3:=by rw [←hW3];exact (Below.refl _ _).alloc (Nat.le_refl _) _
 have s2:=s1.below bb2 s1.lt
 have s3:=s2.below bb3 s2.lt
 have r3:=r2.below bb3 r2.lt
 have b2:=bthen b1 b1.size bb2
 have b3:=bthen b2 b2.size bb3
 have hl1:=s1.lt
 have hl2:=r2.lt
 have hvm:vm.oneCell'=true:=by
  obtain ⟨A,cap,rfl,_⟩:=h.at_
  rfl
 have hde:=zB0 t ht W3
 have hn0:(List.replicate 32 (0:UInt8))=noId:=rfl
 unfold WithR
 rw [hd]
 have hpi:putI t=noId:=by unfold putI;rw [hd];exact hn0
 have hps : ∀ s,putS s t=s:=fun s=>by unfold putS;rw [hd]
 rw [hpi,hps]
 rw [hd] at hde
 have hde:Hid (Calls Tryz.prog 67 #[.string (B t)] W3 fun e w'=>e = .returned (.tuple #[.agg zObj, .bool false])∧Below W3.heap.size W3 w'):=hde
 have hzone:zObj.all (·.oneCell')=true:=zAr zeroO none none 0 0 0 0
 have hst:=h
 clear h hd hpi hps hn0
 generalize zObj=ZO at *
 go_enter Tryz.func41,Tryz.ntmps41
 go_wp2_with (first
  | ((with_reducible refine hde.out.mono ?_);rintro e w4 ⟨rfl,hb4⟩
     have b4:=bthen b3 b3.size hb4
     have s4:=s3.below hb4 s3.lt
     have r4:=r3.below hb4 r3.lt
     have i4:=i3.below hb4 i3.lt)
  | ((with_reducible refine lit_new 59 (.tmp 7) (.tmp 17) ZO 72 szObj hz72 hzone _ ?_ ?_ ?_ ?_)
     ·first | exact hz72 | rfl
     ·rfl
     ·rfl
     intro W5 hb5 hbl5
     have b5:=bthen b4 b4.size hbl5
     have s5:=s4.below hbl5 s4.lt
     have r5:=r4.below hbl5 r4.lt
     have i5:=i4.below hbl5 i4.lt
     have l5:=zAP s5
     obtain ⟨t1,t2,t3,t4⟩:=zE7 (n:=noId) r5 i5 (by omega) zAg hZ32 hvm))
 have bF:=zAa (zAa b5 (Nat.le_of_lt hl1) #[vm]) (Nat.le_of_lt (Nat.lt_of_lt_of_le hl1 (Nat.le_of_lt hl2))) (u8s noId)
 refine bodyPost_ret (zBl rfl _ _ W1.heap.size W2.heap.size _ _ _ _ _ _ _ _ rfl t3 rfl t4 Tryz.underlying28 rfl szDSt Tryz.underlying46 rfl (hszI _ hZ32)) rfl ⟨⟨vm,es,rfl,hst.below bF,rfl,fun e he => .inl he, .inl rfl⟩,bF⟩
set_option maxRecDepth 100000 in
set_option maxHeartbeats 16000000 in
theorem docWith_hit {w:World} {vm:Value} {es:List DiL} (h:DocSt w vm es) (hf:es.length<490000) (t:Txt) (ht:t.length≤5000) {o:ObjL} (hd:decO t=some o) {y:StL} (hG:getS (es.map (·.st)) (shaOf t)=some y) :
 Calls Tryz.prog 41 #[.agg #[vm], .string (B t)] w fun e w'=>WithR w vm es t e w'∧Below w.heap.size w w':=by
 have hzI:=zeroIdV
 have hzo:=zeroObj
 have hz72:=zAB
 have hrb:=fun W=>run_build (P:=Tryz.prog) W _ _ _ zBS
 have hZ32:(u8s noId).size=32:=by rw [zAj,zAg]
 have hZone:=u8s_one noId
 have hszI : ∀ cs:Array Value,cs.size=32→(Tryz.prog.info? 46).map (·.size)=some cs.size:=fun cs h=>by rw [h];exact sz32
 obtain ⟨W1,hW1⟩ : ∃ W1,w.alloc (.cells #[vm] 28)=W1:=⟨_,rfl⟩
 have s1:Blk W1 w.heap.size 28 #[vm]:=by rw [←hW1];exact Blk.new _ _ _
 have b1:Below w.heap.size w W1:=by rw [←hW1];exact (Below.refl _ _).alloc (Nat.le_refl _) _
 obtain ⟨W2,hW2⟩ : ∃ W2,W1.alloc (.cells #[.slice none 0 0] 28)=W2:=⟨_,rfl⟩
 have r2:Blk W2 W1.heap.size 28 #[.slice none 0 0]:=by rw [←hW2];exact Blk.new _ _ _
 have bb2:Below W1.heap.size W1 W2:=by rw [←hW2];exact (Below.refl _ _).alloc (Nat.le_refl _) _
 obtain ⟨W3,hW3⟩ : ∃ W3,W2.alloc (.cells (u8s noId) 46)=W3:=⟨_,rfl⟩
 have i3:Blk W3 W2.heap.size 46 (u8s noId):=by rw [←hW3];exact Blk.new _ _ _
 have bb3:Below W2.heap.size W2 W3:=by rw [←hW3];exact (Below.refl _ _).alloc (Nat.le_refl _) _
 have s2:=s1.below bb2 s1.lt
 have s3:=s2.below bb3 s2.lt
 have r3:=r2.below bb3 r2.lt
 have b2:=bthen b1 b1.size bb2
 have b3:=bthen b2 b2.size bb3
 have hl1:=s1.lt
 have hl2:=r2.lt
 have hvm:vm.oneCell'=true:=by
  obtain ⟨A,cap,rfl,_⟩:=h.at_
  rfl
 have hde:=zB0 t ht W3
 have hn0:(List.replicate 32 (0:UInt8))=noId:=rfl
 unfold WithR
 rw [hd]
 obtain ⟨n,hnn⟩ : ∃ n,shaOf t=n:=⟨_,rfl⟩
 rw [hnn] at hG
 have hn:n.length=32:=by rw [←hnn];exact zBb _
 have hpi:putI t=n:=by unfold putI;rw [hd];exact hnn
 have hps : ∀ s,putS s t=if hasK StL.id s n then s else insK StL.id s ⟨n,t⟩:=fun s=>by unfold putS;rw [hd];simp only [hnn]
 rw [hpi,hps,zEZ]
 rw [hd] at hde
 have hde:Hid (Calls Tryz.prog 67 #[.string (B t)] W3 fun e w'=>(∃ A1 A2 k1 k2,e = .returned (.tuple #[.agg (objC o (.slice A1 o.ents.length k1) (.slice A2 o.pars.length k2)).toArray, .bool true])∧ObjV w' (.slice A1 o.ents.length k1) (.slice A2 o.pars.length k2) o∧OwnEnts w' W3.heap.size (.slice A1 o.ents.length k1) o.ents∧OwnIds w' W3.heap.size (.slice A2 o.pars.length k2) o.pars)∧Below W3.heap.size W3 w'):=hde.mono fun e w' ⟨⟨A1,A2,k1,k2,h1,h2,h4⟩,h3⟩=>⟨⟨A1,A2,k1,k2,h1,h2,h4⟩,h3⟩
 have hsum : ∀ W,Calls Tryz.prog 68 #[.string (B t)] W fun e w'=>e = .returned (.agg (u8s n))∧Below W.heap.size W w':=fun W=>by
  have:=zEI t W (by omega)
  rwa [hnn] at this
 have hn32:(u8s n).size=32:=by rw [zAj,hn]
 have hnone:=u8s_one n
 have hst:=h
 have hatn:=fun (W:World) (hW:Below w.heap.size w W)=>zCz (h.below hW) n hn
 unfold AtR at hatn
 have hh:=zEZ (es.map (·.st)) n
 rw [hG] at hh ⊢
 have hat2:Hid (∀ W,Below w.heap.size w W→Calls Tryz.prog 33 #[.agg #[vm], .agg (u8s n)] W fun e w'=>(∃ k:Nat,e = .returned (.int .i64 k))∧Below W.heap.size W w'):=fun W hW=>(hatn W hW).mono fun e w' ⟨h1,h2⟩=>by
  rcases h1 with ⟨k,x,he,_,hx⟩ | ⟨_,hx⟩
  ·exact ⟨⟨k,he⟩,h2⟩
  ·rw [hG] at hx;cases hx
 simp only [Option.isSome_some,if_true]
 clear h hd hpi hps hn0 hatn hh hG hnn
 have hzone:zObj.all (·.oneCell')=true:=zAr zeroO none none 0 0 0 0
 generalize zObj=ZO at *
 go_enter Tryz.func41,Tryz.ntmps41
 go_wp2_with (first
  | ((with_reducible refine hde.out.mono ?_);rintro e w4 ⟨⟨A1,A2,k1,k2,rfl,hov,hoe,hop⟩,hb4⟩
     have b4:=bthen b3 b3.size hb4
     have s4:=s3.below hb4 s3.lt
     have r4:=r3.below hb4 r3.lt
     have i4:=i3.below hb4 i3.lt
     have hc72:(objC o (.slice A1 o.ents.length k1) (.slice A2 o.pars.length k2)).toArray.size=72:=by rw [List.size_toArray,zAv hov.ok]
     have hcone:=zAr o A1 A2 o.ents.length k1 o.pars.length k2)
  | ((with_reducible refine lit_new 59 (.tmp 7) (.tmp 17) (objC o (.slice A1 o.ents.length k1) (.slice A2 o.pars.length k2)).toArray 72 szObj hc72 hcone _ ?_ ?_ ?_ ?_)
     ·first | exact hz72 | rfl
     ·rfl
     ·rfl
     intro W5 hb5 hbl5
     have b5:=bthen b4 b4.size hbl5
     have s5:=s4.below hbl5 s4.lt
     have r5:=r4.below hbl5 r4.lt
     have i5:=i4.below hbl5 i4.lt)
  | ((with_reducible refine (hsum _).mono ?_);rintro e w6 ⟨rfl,hb6⟩
     have b6:=bthen b5 b5.size hb6
     have s6:=s5.below hb6 s5.lt
     have r6:=r5.below hb6 r5.lt
     have i6:=i5.below hb6 i5.lt)
  | ((with_reducible refine lit_new 46 (.tmp 9) (.tmp 24) (u8s n) 32 sz32 hn32 hnone _ ?_ ?_ ?_ ?_)
     ·rfl
     ·rfl
     ·rfl
     intro W7 n7 hbl7
     have b7:=bthen b6 b6.size hbl7
     have s7:=s6.below hbl7 s6.lt
     have r7:=r6.below hbl7 r6.lt
     have i7:=i6.below hbl7 i6.lt
     have l7:=zAP s7
     have ln7:=zAb (zAi n7) hn)
  | ((with_reducible refine (hat2.out W7 b7).mono ?_);rintro e w8 ⟨⟨k,rfl⟩,hb8⟩
     have b8:=bthen b7 b7.size hb8
     have s8:=s7.below hb8 s7.lt
     have r8:=r7.below hb8 r7.lt
     have i8:=i7.below hb8 i7.lt
     have n8:=n7.below hb8 n7.lt
     have hk0:(0:Int)≤(k:Int):=by omega))
 all_goals try (exfalso;omega)
 obtain ⟨V,hV⟩ : ∃ V,w8.drew=V:=⟨_,rfl⟩
 have bV:Below w.heap.size w V:=by rw [←hV];exact b8.drew
 have r9:Blk V W1.heap.size 28 #[.slice none 0 0]:=by rw [←hV];exact r8
 have i9:Blk V W2.heap.size 46 (u8s noId):=by rw [←hV];exact i8
 have n9:Blk V w6.heap.size 46 (u8s n):=by rw [←hV];exact n8
 have s9:Blk V w.heap.size 28 #[vm]:=by rw [←hV];exact s8
 have hW36:w.heap.size<W3.heap.size:=s3.lt
 have x4:=hb4.size
 have x5:=hbl5.size
 have x6:=hb6.size
 have hr3:=r3.lt
 have hne4:w6.heap.size≠W1.heap.size:=by omega
 obtain ⟨t1,t2,t3,t4⟩:=zE7 (n:=n) (vm:=vm) r9 i9 (by omega) hn hZ32 hvm
 have v1:=zAP s9
 have v2:=zAb (zAi n9) hn
 have v3:=zAb (zAi (zDv n9 hne4 #[vm])) hn
 have bF:=zAa (zAa bV (Nat.le_of_lt hl1) #[vm]) (Nat.le_of_lt (Nat.lt_of_lt_of_le hl1 (Nat.le_of_lt hl2))) (u8s n)
 clear s1 s2 s3 s4 s5 s6 s7 s8 r2 r3 r4 r5 r6 r7 r8 i3 i4 i5 i6 i7 i8 n7 n8 l7 ln7
 go_region
 go_wp2
 refine bodyPost_ret (zBl rfl _ _ W1.heap.size W2.heap.size _ _ _ _ _ _ _ _ rfl t3 rfl t4 Tryz.underlying28 rfl szDSt Tryz.underlying46 rfl (hszI _ hn32)) rfl ⟨⟨vm,es,rfl,hst.below bF,rfl,fun e he => .inl he, .inl rfl⟩,bF⟩
end
section
attribute [local go_sem ↓] ldvI_eq ldvO_eq ldvS_eq ldvT_eq stvI_eq stvS_eq
set_option maxRecDepth 100000 in
set_option maxHeartbeats 16000000 in
theorem docWith_new {w:World} {vm:Value} {es:List DiL} (h:DocSt w vm es) (hf:es.length<490000) (t:Txt) (ht:t.length≤5000) {o:ObjL} (hd:decO t=some o) (hG:getS (es.map (·.st)) (shaOf t)=none) :
 Calls Tryz.prog 41 #[.agg #[vm], .string (B t)] w fun e w'=>WithR w vm es t e w'∧Below w.heap.size w w':=by
 have hzI:=zeroIdV
 have hzo:=zeroObj
 have hz72:=zAB
 have hrb:=fun W=>run_build (P:=Tryz.prog) W _ _ _ zBS
 have hZ32:(u8s noId).size=32:=by rw [zAj,zAg]
 have hZone:=u8s_one noId
 have hszI : ∀ cs:Array Value,cs.size=32→(Tryz.prog.info? 46).map (·.size)=some cs.size:=fun cs h=>by rw [h];exact sz32
 obtain ⟨W1,hW1⟩ : ∃ W1,w.alloc (.cells #[vm] 28)=W1:=⟨_,rfl⟩
 have s1:Blk W1 w.heap.size 28 #[vm]:=by rw [←hW1];exact Blk.new _ _ _
 have b1:Below w.heap.size w W1:=by rw [←hW1];exact (Below.refl _ _).alloc (Nat.le_refl _) _
 obtain ⟨W2,hW2⟩ : ∃ W2,W1.alloc (.cells #[.slice none 0 0] 28)=W2:=⟨_,rfl⟩
 have r2:Blk W2 W1.heap.size 28 #[.slice none 0 0]:=by rw [←hW2];exact Blk.new _ _ _
 have bb2:Below W1.heap.size W1 W2:=by rw [←hW2];exact (Below.refl _ _).alloc (Nat.le_refl _) _
 obtain ⟨W3,hW3⟩ : ∃ W3,W2.alloc (.cells (u8s noId) 46)=W3:=⟨_,rfl⟩
 have i3:Blk W3 W2.heap.size 46 (u8s noId):=by rw [←hW3];exact Blk.new _ _ _
 have bb3:Below W2.heap.size W2 W3:=by rw [←hW3];exact (Below.refl _ _).alloc (Nat.le_refl _) _
 have s2:=s1.below bb2 s1.lt
 have s3:=s2.below bb3 s2.lt
 have r3:=r2.below bb3 r2.lt
 have b2:=bthen b1 b1.size bb2
 have b3:=bthen b2 b2.size bb3
 have hl1:=s1.lt
 have hl2:=r2.lt
 have hvm:vm.oneCell'=true:=by
  obtain ⟨A,cap,rfl,_⟩:=h.at_
  rfl
 have hde:=zB0 t ht W3
 have hn0:(List.replicate 32 (0:UInt8))=noId:=rfl
 unfold WithR
 rw [hd]
 obtain ⟨n,hnn⟩ : ∃ n,shaOf t=n:=⟨_,rfl⟩
 rw [hnn] at hG
 have hn:n.length=32:=by rw [←hnn];exact zBb _
 have hpi:putI t=n:=by unfold putI;rw [hd];exact hnn
 have hps : ∀ s,putS s t=if hasK StL.id s n then s else insK StL.id s ⟨n,t⟩:=fun s=>by unfold putS;rw [hd];simp only [hnn]
 rw [hpi,hps,zEZ]
 rw [hd] at hde
 have hde:Hid (Calls Tryz.prog 67 #[.string (B t)] W3 fun e w'=>(∃ A1 A2 k1 k2,e = .returned (.tuple #[.agg (objC o (.slice A1 o.ents.length k1) (.slice A2 o.pars.length k2)).toArray, .bool true])∧ObjV w' (.slice A1 o.ents.length k1) (.slice A2 o.pars.length k2) o∧OwnEnts w' W3.heap.size (.slice A1 o.ents.length k1) o.ents∧OwnIds w' W3.heap.size (.slice A2 o.pars.length k2) o.pars)∧Below W3.heap.size W3 w'):=hde.mono fun e w' ⟨⟨A1,A2,k1,k2,h1,h2,h4⟩,h3⟩=>⟨⟨A1,A2,k1,k2,h1,h2,h4⟩,h3⟩
 have hsum : ∀ W,Calls Tryz.prog 68 #[.string (B t)] W fun e w'=>e = .returned (.agg (u8s n))∧Below W.heap.size W w':=fun W=>by
  have:=zEI t W (by omega)
  rwa [hnn] at this
 have hn32:(u8s n).size=32:=by rw [zAj,hn]
 have hnone:=u8s_one n
 have hst:=h
 have hatn:=fun (W:World) (hW:Below w.heap.size w W)=>zCz (h.below hW) n hn
 unfold AtR at hatn
 have hh:=zEZ (es.map (·.st)) n
 rw [hG] at hh ⊢
 have hat2:Hid (∀ W,Below w.heap.size w W→Calls Tryz.prog 33 #[.agg #[vm], .agg (u8s n)] W fun e w'=>e = .returned (.int .i64 (-1))∧Below W.heap.size W w'):=fun W hW=>(hatn W hW).mono fun e w' ⟨h1,h2⟩=>by
  rcases h1 with ⟨k,x,he,_,hx⟩ | ⟨he,_⟩
  ·rw [hG] at hx;cases hx
  ·exact ⟨he,h2⟩
 have hh:hasK StL.id (es.map (·.st)) n=false:=hh
 simp only [Option.isSome_none,Option.isSome_some,Bool.false_eq_true,if_false]
 have hfew:=h.few
 have heach:=h.each
 have hok:=h.ok
 have hput:StoOk (insK StL.id (es.map (·.st)) ⟨n,t⟩):=by
  have:=hok.put t (by rw [List.length_map];omega)
  rwa [hps,hh] at this
 have hhh:=Lib.hid hh
 obtain ⟨A,cap,rfl,hcap1,hcap2,hat⟩:=h.at_
 obtain ⟨p,hp⟩ : ∃ p,posK StL.id (es.map (·.st)) n=p:=⟨_,rfl⟩
 have hpl:p≤es.length:=by rw [←hp,←List.length_map (f:=(·.st))];exact posK_le
 have hins:insK StL.id (es.map (·.st)) ⟨n,t⟩=(es.take p).map (·.st)++[⟨n,t⟩]++(es.drop p).map (·.st):=by
  unfold insK
  rw [show posK StL.id (es.map (·.st)) (StL.id ⟨n,t⟩)=p from hp,List.map_take,List.map_drop]
 have hless:Hid (∀ (k:Nat) (x:DiL),es[k]?=some x→Op.bytesLess n x.st.id=decide (p≤k)):=fun k x hx=>by
  have:=less_from (s:=es.map (·.st)) (k:=k) hok.sorted hhh.out (by rw [List.getElem?_map,hx];rfl)
  rwa [hp] at this
 replace hins:=Lib.hid hins
 replace hput:=Lib.hid hput
 replace hok:=Lib.hid hok
 have hdd:=Lib.hid hd
 clear h hd hpi hps hn0 hatn hh hG hnn hhh hp hst
 have hzone:zObj.all (·.oneCell')=true:=zAr zeroO none none 0 0 0 0
 generalize zObj=ZO at *
 go_enter Tryz.func41,Tryz.ntmps41
 go_wp2_with (first
  | ((with_reducible refine hde.out.mono ?_);rintro e w4 ⟨⟨A1,A2,k1,k2,rfl,hov,hoe,hop⟩,hb4⟩
     have b4:=bthen b3 b3.size hb4
     have s4:=s3.below hb4 s3.lt
     have r4:=r3.below hb4 r3.lt
     have i4:=i3.below hb4 i3.lt
     have hc72:(objC o (.slice A1 o.ents.length k1) (.slice A2 o.pars.length k2)).toArray.size=72:=by rw [List.size_toArray,zAv hov.ok]
     have hcone:=zAr o A1 A2 o.ents.length k1 o.pars.length k2)
  | ((with_reducible refine lit_new 59 (.tmp 7) (.tmp 17) (objC o (.slice A1 o.ents.length k1) (.slice A2 o.pars.length k2)).toArray 72 szObj hc72 hcone _ ?_ ?_ ?_ ?_)
     ·first | exact hz72 | rfl
     ·rfl
     ·rfl
     intro W5 hb5 hbl5
     have b5:=bthen b4 b4.size hbl5
     have s5:=s4.below hbl5 s4.lt
     have r5:=r4.below hbl5 r4.lt
     have i5:=i4.below hbl5 i4.lt)
  | ((with_reducible refine (hsum _).mono ?_);rintro e w6 ⟨rfl,hb6⟩
     have b6:=bthen b5 b5.size hb6
     have s6:=s5.below hb6 s5.lt
     have r6:=r5.below hb6 r5.lt
     have i6:=i5.below hb6 i5.lt)
  | ((with_reducible refine lit_new 46 (.tmp 9) (.tmp 24) (u8s n) 32 sz32 hn32 hnone _ ?_ ?_ ?_ ?_)
     ·rfl
     ·rfl
     ·rfl
     intro W7 n7 hbl7
     have b7:=bthen b6 b6.size hbl7
     have s7:=s6.below hbl7 s6.lt
     have r7:=r6.below hbl7 r6.lt
     have i7:=i6.below hbl7 i6.lt
     have l7:=zAP s7
     have ln7:=zAb (zAi n7) hn)
  | ((with_reducible refine (hat2.out W7 b7).mono ?_);rintro e w8 ⟨rfl,hb8⟩
     have b8:=bthen b7 b7.size hb8
     have s8:=s7.below hb8 s7.lt
     have r8:=r7.below hb8 r7.lt
     have i8:=i7.below hb8 i7.lt
     have n8:=n7.below hb8 n7.lt))
 all_goals try (exfalso;omega)
 have x4:=hb4.size
 have x5:=hbl5.size
 have x6:=hb6.size
 have x7:=hbl7.size
 have x8:=hb8.size
 have hr3:=r3.lt
 obtain ⟨nw,hnw⟩ : ∃ nw:DiL,nw=⟨⟨n,t⟩,o, .slice A1 o.ents.length k1, .slice A2 o.pars.length k2⟩:=⟨_,rfl⟩
 have hoe8:=zAf hoe (bthen hbl5 hbl5.size (bthen hb6 hb6.size (bthen hbl7 hbl7.size hb8)))
 have hop8:=zAf hop (bthen hbl5 hbl5.size (bthen hb6 hb6.size (bthen hbl7 hbl7.size hb8)))
 have hnwok:DitOk w8 nw:=by
  rw [hnw]
  exact ⟨hdd.out,hn,hov.ok,zAw hoe8 (Nat.zero_le _),zAw hop8 (Nat.zero_le _)⟩
 have hbd:Tryz.prog.built 70 [(0, .agg (u8s n)),(1, .string (B t)),(2, .agg (objC o (.slice A1 o.ents.length k1) (.slice A2 o.pars.length k2)).toArray)]=some (ditC nw).toArray:=by
  have:=built_dit nw hnwok
  rw [hnw] at this ⊢
  exact this
 have hnw105:(ditC nw).toArray.size=105:=by rw [List.size_toArray,zC0 hnwok]
 have hnw1:(ditC nw).toArray.size=1*105:=hnw105
 have hnwone : ∀ u∈(ditC nw).toArray.toList,u.oneCell'=true:=by rw [List.toList_toArray];exact ditC_one hnwok
 have h1000:105≤1000:=by decide
 have hi3:=i3.lt
 have hne4:w6.heap.size≠W1.heap.size:=by omega
 have hg4:W1.heap.size<w8.heap.size:=by omega
 have hg5:W2.heap.size<w8.heap.size:=by omega
 clear x4 x5 x6 x7 x8
 have hnwB:Hid ((∀ k,nw.ve.ownBlock=some k→w.heap.size≤k) ∧ ∀ k,nw.vp.ownBlock=some k→w.heap.size≤k):=Lib.hid (by
  rw [hnw]
  exact ⟨fun k hk=>Nat.le_trans b3.size (World.ownsRow.lt hoe8 k hk).1,fun k hk=>Nat.le_trans b3.size (World.ownsRow.lt hop8 k hk).1⟩)
 have hnwmk : ∀ F,OwnEnts F W3.heap.size (.slice A1 o.ents.length k1) o.ents→OwnIds F W3.heap.size (.slice A2 o.pars.length k2) o.pars→DitOk F nw:=fun F h1 h2=>by
  rw [hnw]
  exact ⟨hdd.out,hn,hov.ok,zAw h1 (Nat.zero_le _),zAw h2 (Nat.zero_le _)⟩
 have heach0:=Lib.hid heach
 have hnst:Hid (nw.st=⟨n,t⟩):=by rw [hnw];rfl
 obtain ⟨NC,hNC⟩ : ∃ NC,(ditC nw).toArray=NC:=⟨_,rfl⟩
 have o8:=hb5.below (bthen hb6 hb6.size (bthen hbl7 hbl7.size hb8)) hb5.lt
 obtain ⟨OC,hOC⟩ : ∃ OC,(objC o (.slice A1 o.ents.length k1) (.slice A2 o.pars.length k2)).toArray=OC:=⟨_,rfl⟩
 rw [hOC] at hbd o8 hc72 hcone ⊢
 rw [hNC] at hbd hnw105 hnw1 hnwone
 have hNC:=Lib.hid hNC
 have szO:(Tryz.prog.info? 59).map (·.size)=some OC.size:=by rw [hc72];exact szObj
 have fn:=fun (W:World) (hW:Below w8.heap.size w8 W)=>zAb (zAi (n8.below hW n8.lt)) hn
 have fo : ∀ (W:World),Below w8.heap.size w8 W→(ldvO ⟨w4.heap.size,0,none⟩).run Tryz.prog W = .ok (.agg OC) W:=fun W hW=>run_loadVar_row (P:=Tryz.prog) W w4.heap.size _ _ _ _ _ (o8.below hW o8.lt) Tryz.underlying59 rfl szO
 have fs : ∀ (W:World),Below w8.heap.size w8 W→W.cell? ⟨w.heap.size,0,none⟩=some (.slice A es.length cap):=fun W hW=>(s8.below hW s8.lt).cell 0
 replace heach:=fun x hx=>(heach x hx).below b8
 have hat8:0<es.length → ∃ g o,A=some ⟨g,o,none⟩∧g<w8.heap.size ∧ ∀ i x,es[i]?=some x→w8.rangeAt g (o+i*105) (ditC x):=fun h0=>by
  obtain ⟨g,o,e1,e2,e3⟩:=hat h0
  exact ⟨g,o,e1,Nat.lt_of_lt_of_le e2 b8.size,fun i x hx=>zAc (e3 i x hx) e2 b8⟩
 clear hOC hnw hat hc72 hcone hzone hde hsum s1 s2 s3 s4 s5 s6 s7 r2 r4 r5 r6 r7 i3 i4 i5 i6 i7 n7 l7 ln7 hb5 hW1 hW2 hW3
 go_loopw [10,11,12] (fun vo vd vi wr => ∃ k:Nat,vi = .int .i64 k∧k≤es.length∧vd = .bool (decide (p<k))∧OwnDits wr w8.heap.size vo (accL es nw p k)∧Below w8.heap.size w8 wr) (fun _ _ vi _=>es.length-(intOf vi).toNat)
 case atStart=>exact ⟨0,rfl,by omega,rfl,by rw [show accL es nw p 0=[] from rfl];exact World.ownsRow_nil _ _ _ _,Below.refl _ _⟩
 case round=>
  obtain ⟨k,rfl,hk,rfl,hown,hbel⟩:=hrel
  by_cases hlt:k<es.length
  ·have hki:(k:Int)<(es.length:Int):=by omega
   obtain ⟨ga,oa,rfl,hga,hca⟩:=hat8 (by omega)
   obtain ⟨x,hx⟩ : ∃ x,es[k]?=some x:=⟨_,List.getElem?_eq_getElem hlt⟩
   have hxok:=heach x (List.mem_of_getElem? hx)
   have hxid:=hxok.id
   have hle:=hless.out k x hx
   have hxr:=dit_id (hca k x hx)
   have hsI:(Tryz.prog.info? 46).map (·.size)=some (u8s x.st.id).toList.length:=by rw [zAI,hxid];exact sz32
   have hsN:(Tryz.prog.info? 46).map (·.size)=some (u8s n).toList.length:=by rw [zAI,hn];exact sz32
   have hcl:=fun W=>zD1 n x.st.id hn hxid W
   rw [hle] at hcl
   have hx105:(ditC x).toArray.size=105:=by rw [List.size_toArray,zC0 hxok]
   have hx1:(ditC x).toArray.size=1*105:=hx105
   have hxone : ∀ u∈(ditC x).toArray.toList,u.oneCell'=true:=by rw [List.toList_toArray];exact ditC_one hxok
   have ft : ∀ (W:World),Below w8.heap.size w8 W→(ldvT ⟨ga,oa+k*105,none⟩).run Tryz.prog W = .ok (.agg (ditC x).toArray) W:=fun W hW=>run_loadVar_mid (P:=Tryz.prog) W ga (oa+k*105) 70 (ditC x) _ (zAc (hca k x hx) hga hW) Tryz.underlying70 rfl (by rw [zC0 hxok];exact szDit)
   obtain ⟨XC,hXC⟩ : ∃ XC,(ditC x).toArray=XC:=⟨_,rfl⟩
   rw [hXC] at hx105 hx1 hxone
   simp only [hXC] at ft
   have hXC:=Lib.hid hXC
   have hal:=acc_len es nw p k
   obtain ⟨m1,m2,m3,m4⟩:=acc_bounds hal hf
   have szr:=hbel.size
   rcases Nat.lt_trichotomy p k with hc | hc | hc
   ·--STOP1
    have hd1:decide (p<k)=true:=decide_eq_true hc
    have hd2:decide (p≤k)=true:=decide_eq_true (by omega)
    rw [hd1]
    rw [hd2] at hcl
    have hxh:=Lib.hid hx
    clear hx hca hat8 hle hd1 hd2 hless
    go_wp2
    refine zAd (C:=fun W=>Below wr.heap.size wr W) (by kernel_rfl) (by kernel_rfl) (Below.refl _ _).drew ?_
    repeat
     first
      | ((with_reducible refine zAl ?_ ?_)
         ·(go_simp;done)
         apply Exists.intro
         refine ⟨fun W hW=>?_,?_⟩
         ·have hW8:=bthen hbel hbel.size hW
          first
           | exact zAy _ _ rfl ga (oa+k*105) rfl (u8s x.st.id).toList _ (zAc hxr hga hW8) Tryz.underlying46 rfl hsI rfl
           | exact zAy _ _ rfl w6.heap.size 0 rfl (u8s n).toList _ (zAi (n8.below hW8 n8.lt)) Tryz.underlying46 rfl hsN rfl
           | (have q0:=fs W hW8
              have hkeep:=zCb hW (hcl W)
              rw [←Array.toArray_toList (xs:=u8s x.st.id),←Array.toArray_toList (xs:=u8s n)] at hkeep
              go_simp
              first
               | rfl
               | (with_reducible exact hkeep))
         simp only [Act.put,zA,zB,zC])
      | ((with_reducible refine zAh ?_ ?_)
         ·(first | rfl | (go_simp;done))
         simp only [Act.put,zA,zB,zC])
    with_reducible refine wpQuiet_nil ?_
    intro w9 hW9
    have own9:=zAf hown hW9
    have b9:=bthen hbel hbel.size hW9
    have sz9:=b9.size
    have fn9:=fn w9 b9
    have fo9:=fo w9 b9
    have fs9:=fs w9 b9
    have ft9:=ft w9 b9
    go_wp2_with (first
     | ((with_reducible refine zAC (.tmp 63) Tryz.ditTy XC hx105 h1000 ?_ ?_);rfl)
     | (at_builtin
        (with_reducible refine zAp (.tmp 58) (.tmp 64) 1 _ Tryz.ditTy own9 XC hx1 hxone m1 m2 sz9 ?_ ?_ ?_);rfl;rfl
        intro v2 w2 hv2 hb2 hg2 hn2
        have bb2:=b9.trans hb2
        clear hg2 hn2))
    all_goals try (exfalso;omega)
    have o3:OwnDits w2 w8.heap.size v2 (accL es nw p (k+1)):=by
     rw [←hXC.out] at hv2
     rw [acc_behind hxh.out hc]
     exact OwnDits.more hv2
    go_roundw
    case rel=>exact ⟨k+1,by go_num,by omega,by rw [show decide (p<k+1)=true from decide_eq_true (by omega)],o3,bb2⟩
    case measure=>simp [intOf];omega
   ·--STOP2
    have hd1:decide (p<k)=false:=decide_eq_false (by omega)
    have hd2:decide (p≤k)=true:=decide_eq_true (by omega)
    rw [hd1]
    rw [hd2] at hcl
    have hxh:=Lib.hid hx
    clear hx hca hat8 hle hd1 hd2 hless
    go_wp2
    refine zAd (C:=fun W=>Below wr.heap.size wr W) (by kernel_rfl) (by kernel_rfl) (Below.refl _ _).drew ?_
    repeat
     first
      | ((with_reducible refine zAl ?_ ?_)
         ·(go_simp;done)
         apply Exists.intro
         refine ⟨fun W hW=>?_,?_⟩
         ·have hW8:=bthen hbel hbel.size hW
          first
           | exact zAy _ _ rfl ga (oa+k*105) rfl (u8s x.st.id).toList _ (zAc hxr hga hW8) Tryz.underlying46 rfl hsI rfl
           | exact zAy _ _ rfl w6.heap.size 0 rfl (u8s n).toList _ (zAi (n8.below hW8 n8.lt)) Tryz.underlying46 rfl hsN rfl
           | (have q0:=fs W hW8
              have hkeep:=zCb hW (hcl W)
              rw [←Array.toArray_toList (xs:=u8s x.st.id),←Array.toArray_toList (xs:=u8s n)] at hkeep
              go_simp
              first
               | rfl
               | (with_reducible exact hkeep))
         simp only [Act.put,zA,zB,zC])
      | ((with_reducible refine zAh ?_ ?_)
         ·(first | rfl | (go_simp;done))
         simp only [Act.put,zA,zB,zC])
    with_reducible refine wpQuiet_nil ?_
    intro w9 hW9
    have own9:=zAf hown hW9
    have b9:=bthen hbel hbel.size hW9
    have sz9:=b9.size
    have fn9:=fn w9 b9
    have fo9:=fo w9 b9
    have fs9:=fs w9 b9
    have ft9:=ft w9 b9
    go_wp2_with (first
     | ((with_reducible refine lit_build3 hbd ?_ ?_ ?_ ?_);rfl;rfl;rfl)
     | ((with_reducible refine zAC (.tmp 55) Tryz.ditTy NC hnw105 h1000 ?_ ?_);rfl)
     | (at_builtin
        (with_reducible refine zAp (.tmp 51) (.tmp 56) 1 _ Tryz.ditTy own9 NC hnw1 hnwone m1 m2 sz9 ?_ ?_ ?_);rfl;rfl
        intro v1 w1 hv1 hb1 hg1 hn1
        have bb1:=b9.trans hb1
        clear hg1 hn1
        have szb1:=bb1.size
        have fn1:=fn w1 bb1
        have fo1:=fo w1 bb1
        have fs1:=fs w1 bb1
        have ft1:=ft w1 bb1)
     | ((with_reducible refine zAC (.tmp 63) Tryz.ditTy XC hx105 h1000 ?_ ?_);rfl)
     | (at_builtin
        (with_reducible refine zAp (.tmp 58) (.tmp 64) 1 _ Tryz.ditTy hv1 XC hx1 hxone m3 m4 szb1 ?_ ?_ ?_);rfl;rfl
        intro v2 w2 hv2 hb2 hg2 hn2
        have bb2:=bb1.trans hb2
        clear hg2 hn2))
    all_goals try (exfalso;omega)
    have o3:OwnDits w2 w8.heap.size v2 (accL es nw p (k+1)):=by
     subst hc
     rw [←hXC.out] at hv2
     rw [←hNC.out] at hv2
     rw [acc_at hxh.out]
     have:(accL es nw p p++[nw]).length=(accL es nw p p).length+1:=by simp
     refine OwnDits.more ?_
     rw [this,zAo,zAx]
     have e:(ditC nw).toArray.toList=ditC nw:=List.toList_toArray
     rw [e] at hv2
     exact hv2
    go_roundw
    case rel=>exact ⟨k+1,by go_num,by omega,by rw [show decide (p<k+1)=true from decide_eq_true (by omega)],o3,bb2⟩
    case measure=>simp [intOf];omega
   ·--STOP3
    have hd1:decide (p<k)=false:=decide_eq_false (by omega)
    have hd2:decide (p≤k)=false:=decide_eq_false (by omega)
    rw [hd1]
    rw [hd2] at hcl
    have hxh:=Lib.hid hx
    clear hx hca hat8 hle hd1 hd2 hless
    go_wp2
    refine zAd (C:=fun W=>Below wr.heap.size wr W) (by kernel_rfl) (by kernel_rfl) (Below.refl _ _).drew ?_
    repeat
     first
      | ((with_reducible refine zAl ?_ ?_)
         ·(go_simp;done)
         apply Exists.intro
         refine ⟨fun W hW=>?_,?_⟩
         ·have hW8:=bthen hbel hbel.size hW
          first
           | exact zAy _ _ rfl ga (oa+k*105) rfl (u8s x.st.id).toList _ (zAc hxr hga hW8) Tryz.underlying46 rfl hsI rfl
           | exact zAy _ _ rfl w6.heap.size 0 rfl (u8s n).toList _ (zAi (n8.below hW8 n8.lt)) Tryz.underlying46 rfl hsN rfl
           | (have q0:=fs W hW8
              have hkeep:=zCb hW (hcl W)
              rw [←Array.toArray_toList (xs:=u8s x.st.id),←Array.toArray_toList (xs:=u8s n)] at hkeep
              go_simp
              first
               | rfl
               | (with_reducible exact hkeep))
         simp only [Act.put,zA,zB,zC])
      | ((with_reducible refine zAh ?_ ?_)
         ·(first | rfl | (go_simp;done))
         simp only [Act.put,zA,zB,zC])
    with_reducible refine wpQuiet_nil ?_
    intro w9 hW9
    have own9:=zAf hown hW9
    have b9:=bthen hbel hbel.size hW9
    have sz9:=b9.size
    have fn9:=fn w9 b9
    have fo9:=fo w9 b9
    have fs9:=fs w9 b9
    have ft9:=ft w9 b9
    go_wp2_with (first
     | ((with_reducible refine zAC (.tmp 63) Tryz.ditTy XC hx105 h1000 ?_ ?_);rfl)
     | (at_builtin
        (with_reducible refine zAp (.tmp 58) (.tmp 64) 1 _ Tryz.ditTy own9 XC hx1 hxone m1 m2 sz9 ?_ ?_ ?_);rfl;rfl
        intro v2 w2 hv2 hb2 hg2 hn2
        have bb2:=b9.trans hb2
        clear hg2 hn2))
    all_goals try (exfalso;omega)
    have o3:OwnDits w2 w8.heap.size v2 (accL es nw p (k+1)):=by
     rw [←hXC.out] at hv2
     rw [acc_before hxh.out hc]
     exact OwnDits.more hv2
    go_roundw
    case rel=>exact ⟨k+1,by go_num,by omega,by rw [show decide (p<k+1)=false from decide_eq_false (by omega)],o3,bb2⟩
    case measure=>simp [intOf];omega
  ·have hki : ¬ (k:Int)<(es.length:Int):=by omega
   obtain rfl:k=es.length:=by omega
   have hal:=acc_len es nw p es.length
   obtain ⟨m1,m2,m3,m4⟩:=acc_bounds hal hf
   clear hal
   have szr:=hbel.size
   have fn9:=fn wr hbel
   have fo9:=fo wr hbel
   have fs9:=fs wr hbel
   by_cases hc:p<es.length
   ·--STOP4
    have hd1:decide (p<es.length)=true:=decide_eq_true hc
    rw [hd1]
    have hOl:=hown
    rw [acc_end hc] at hOl
    have hOl:=Lib.hid hOl
    go_wp2
    obtain ⟨A',cap',RL,rfl⟩:=own_named hOl.out
    obtain ⟨V,hV⟩ : ∃ V,wr.drew=V:=⟨_,rfl⟩
    have bV8:Below w8.heap.size w8 V:=by rw [←hV];exact Below.drew hbel
    have bV:Below w.heap.size w V:=bthen b8 b8.size bV8
    have ownV:OwnDits V w8.heap.size (.slice A' RL cap') (es.take p++[nw]++es.drop p):=by
     rw [←hV]
     exact zAf hOl.out (Below.refl _ _).drew
    have r9:=r8.below bV8 r8.lt
    have i9:=i8.below bV8 i8.lt
    have n9:=n8.below bV8 n8.lt
    obtain ⟨t1,t2,t3,t4⟩:=zE7 (n:=n) (vm := .slice A' RL cap') r9 i9 (Nat.ne_of_lt hl2) hn hZ32 rfl
    have v2:=zAb (zAi n9) hn
    have v3:=zAb (zAi (zDv n9 hne4 #[.slice A' RL cap'])) hn
    have hbs:=fun W=>run_build (P:=Tryz.prog) W _ _ _ (built_docSt A' RL cap')
    have bF1:=zAa bV (Nat.le_of_lt hl1) #[.slice A' RL cap']
    have bF:=zAa bF1 (Nat.le_of_lt (Nat.lt_of_lt_of_le hl1 (Nat.le_of_lt hl2))) (u8s n)
    have ownF:=own_row (own_row ownV (g:=W1.heap.size) hg4 #[.slice A' RL cap']) (g:=W2.heap.size) hg5 (u8s n)
    have oeF:=own_row (own_row (zAf hoe8 bV8) (g:=W1.heap.size) hr3 #[.slice A' RL cap']) (g:=W2.heap.size) hi3 (u8s n)
    have opF:=own_row (own_row (zAf hop8 bV8) (g:=W1.heap.size) hr3 #[.slice A' RL cap']) (g:=W2.heap.size) hi3 (u8s n)
    have hnwF:DitOk ((V.setRow W1.heap.size #[.slice A' RL cap']).setRow W2.heap.size (u8s n)) nw:=hnwmk _ oeF opF
    obtain ⟨es',hd1,hd2,hd3⟩:=with_laid ownF (fun e he=>(heach0.out e he).below bF) hnwF hnst.out hnwB.out hins.out hput.out
    have hd1:=Lib.hid hd1
    have hd2:=Lib.hid hd2
    have hd3:=Lib.hid (And.intro hd3 (Or.inr (fun k hk=>Nat.le_trans b8.size (World.ownsRow.lt ownF k hk).1):(Value.slice A' RL cap' = .slice A es.length cap) ∨ ∀ k,(Value.slice A' RL cap').ownBlock=some k→w.heap.size≤k))
    clear ownV ownF oeF opF hnwF hOl hown heach0 hnwok hins hput hnst hNC hbd fn fo fs s8 r8 i8 n8 o8 r9 i9 n9 hnwmk hoe8 hop8 hoe hop hov
    go_region
    go_wp2
    refine bodyPost_ret (zBl rfl _ _ W1.heap.size W2.heap.size _ _ _ _ _ _ _ _ rfl t3 rfl t4 Tryz.underlying28 rfl szDSt Tryz.underlying46 rfl (hszI _ hn32)) rfl ⟨⟨_,es',rfl,hd1.out,hd2.out,hd3.out⟩,bF⟩
   ·--STOP5
    obtain rfl:p=es.length:=by omega
    have hd1:decide (es.length<es.length)=false:=decide_eq_false (Nat.lt_irrefl _)
    rw [hd1]
    clear hd1 hc hpl hat8 hless hlt
    go_wp2_with (first
     | ((with_reducible refine lit_build3 hbd ?_ ?_ ?_ ?_);rfl;rfl;rfl)
     | ((with_reducible refine zAC (.tmp 72) Tryz.ditTy NC hnw105 h1000 ?_ ?_);rfl)
     | (at_builtin
        (with_reducible refine zAp (.tmp 68) (.tmp 73) 1 _ Tryz.ditTy hown NC hnw1 hnwone m1 m2 szr ?_ ?_ ?_);rfl;rfl
        intro v1 w1 hv1 hb1 hg1 hn1
        have bb1:=hbel.trans hb1
        clear hg1 hn1
        have szb1:=bb1.size
        have fn1:=fn w1 bb1
        have fo1:=fo w1 bb1
        have fs1:=fs w1 bb1))
    have hOl:OwnDits w1 w8.heap.size v1 (es.take es.length++[nw]++es.drop es.length):=by
     rw [←acc_last]
     rw [←hNC.out] at hv1
     exact OwnDits.more hv1
    have hOl:=Lib.hid hOl
    obtain ⟨A',cap',RL,rfl⟩:=own_named hOl.out
    obtain ⟨V,hV⟩ : ∃ V,w1.drew=V:=⟨_,rfl⟩
    have bV8:Below w8.heap.size w8 V:=by rw [←hV];exact Below.drew bb1
    have bV:Below w.heap.size w V:=bthen b8 b8.size bV8
    have ownV:OwnDits V w8.heap.size (.slice A' RL cap') (es.take es.length++[nw]++es.drop es.length):=by
     rw [←hV]
     exact zAf hOl.out (Below.refl _ _).drew
    have r9:=r8.below bV8 r8.lt
    have i9:=i8.below bV8 i8.lt
    have n9:=n8.below bV8 n8.lt
    obtain ⟨t1,t2,t3,t4⟩:=zE7 (n:=n) (vm := .slice A' RL cap') r9 i9 (Nat.ne_of_lt hl2) hn hZ32 rfl
    have v2:=zAb (zAi n9) hn
    have v3:=zAb (zAi (zDv n9 hne4 #[.slice A' RL cap'])) hn
    have hbs:=fun W=>run_build (P:=Tryz.prog) W _ _ _ (built_docSt A' RL cap')
    have bF1:=zAa bV (Nat.le_of_lt hl1) #[.slice A' RL cap']
    have bF:=zAa bF1 (Nat.le_of_lt (Nat.lt_of_lt_of_le hl1 (Nat.le_of_lt hl2))) (u8s n)
    have ownF:=own_row (own_row ownV (g:=W1.heap.size) hg4 #[.slice A' RL cap']) (g:=W2.heap.size) hg5 (u8s n)
    have oeF:=own_row (own_row (zAf hoe8 bV8) (g:=W1.heap.size) hr3 #[.slice A' RL cap']) (g:=W2.heap.size) hi3 (u8s n)
    have opF:=own_row (own_row (zAf hop8 bV8) (g:=W1.heap.size) hr3 #[.slice A' RL cap']) (g:=W2.heap.size) hi3 (u8s n)
    have hnwF:DitOk ((V.setRow W1.heap.size #[.slice A' RL cap']).setRow W2.heap.size (u8s n)) nw:=hnwmk _ oeF opF
    obtain ⟨es',hd1,hd2,hd3⟩:=with_laid ownF (fun e he=>(heach0.out e he).below bF) hnwF hnst.out hnwB.out hins.out hput.out
    have hd1:=Lib.hid hd1
    have hd2:=Lib.hid hd2
    have hd3:=Lib.hid (And.intro hd3 (Or.inr (fun k hk=>Nat.le_trans b8.size (World.ownsRow.lt ownF k hk).1):(Value.slice A' RL cap' = .slice A es.length cap) ∨ ∀ k,(Value.slice A' RL cap').ownBlock=some k→w.heap.size≤k))
    clear ownV ownF oeF opF hnwF hOl hown heach0 hnwok hins hput hnst hNC hbd fn fo fs s8 r8 i8 n8 o8 r9 i9 n9 hnwmk hoe8 hop8 hoe hop hov
    go_region
    go_wp2
    refine bodyPost_ret (zBl rfl _ _ W1.heap.size W2.heap.size _ _ _ _ _ _ _ _ rfl t3 rfl t4 Tryz.underlying28 rfl szDSt Tryz.underlying46 rfl (hszI _ hn32)) rfl ⟨⟨_,es',rfl,hd1.out,hd2.out,hd3.out⟩,bF⟩
theorem docWith_calls {w:World} {vm:Value} {es:List DiL} (h:DocSt w vm es) (hf:es.length<490000) (t:Txt) (ht:t.length≤5000) :
 Calls Tryz.prog 41 #[.agg #[vm], .string (B t)] w fun e w'=>WithR w vm es t e w'∧Below w.heap.size w w':=by
 cases hd:decO t with
 | none=>exact docWith_none h hf t ht hd
 | some o=>
   cases hG:getS (es.map (·.st)) (shaOf t) with
   | none=>exact docWith_new h hf t ht hd hG
   | some y=>exact docWith_hit h hf t ht hd hG
end
section
def DocUse (vm:Value) (es:List DiL) (k:Nat):Prop:=vm.ownBlock=some k ∨ ∃ e∈es,e.ve.ownBlock=some k∨e.vp.ownBlock=some k
section
variable {w w':World} {vm vm':Value} {es es':List DiL} {k g B:Nat}
theorem DocSt.lt (h:DocSt w vm es) (hk:DocUse vm es k):k<w.heap.size:=by
 rcases hk with hk | ⟨e,he,hk | hk⟩
 ·exact (World.ownsRow.lt h.own k hk).2
 ·exact (World.ownsRow.lt (h.each e he).oe k hk).2
 ·exact (World.ownsRow.lt (h.each e he).op k hk).2
theorem DocSt.same (h:DocSt w vm es) (hs : ∀ k,DocUse vm es k→w'.heap[k]?=w.heap[k]?):DocSt w' vm es:=
 ⟨zBG h.own fun k hk=>hs k (.inl hk),fun e he=>⟨(h.each e he).dec,(h.each e he).id,(h.each e he).ok,zBG (h.each e he).oe fun k hk=>hs k (.inr ⟨e,he, .inl hk⟩),zBG (h.each e he).op fun k hk=>hs k (.inr ⟨e,he, .inr hk⟩)⟩,h.ok⟩
theorem DocSt.far {S:List (Option Nat)} (h:DocSt w vm es) (hf:Far S w w') (hn : ∀ k,some k∈S → ¬ DocUse vm es k):DocSt w' vm es:=h.same fun k hk=>hf.block k (h.lt hk) fun e=>hn k e hk
theorem DocSt.grown {row:Option Nat} (h:DocSt w vm es) (hf:w.grownBy w' row) (hn : ∀ k,row=some k → ¬ DocUse vm es k):DocSt w' vm es:=h.same fun k hk=>hf.block k (h.lt hk) fun e=>hn k e.symm hk
theorem DocSt.blk_ne {T:TypeId} {cs:Array Value} (h:DocSt w vm es) (hb:Blk w g T cs) (h1:70≠T) (h2:132≠T) (h3:46≠T) : ¬ DocUse vm es g:=by
 rintro (hk | ⟨e,he,hk | hk⟩)
 ·exact zAs h.own hb h1 hk.symm
 ·exact zAs (h.each e he).oe hb h2 hk.symm
 ·exact zAs (h.each e he).op hb h3 hk.symm
theorem DocSt.row (h:DocSt w vm es) (hn : ¬ DocUse vm es g) (cs:Array Value):DocSt (w.setRow g cs) vm es:=h.same fun k hk=>setRow_other _ _ _ _ fun e=>hn (e▸hk)
def Apart (v vm:Value) (es:List DiL):Prop := ∀ k,v.ownBlock=some k → ¬ DocUse vm es k
theorem Apart.with_ {v:Value} {ids:List Txt} (h:Apart v vm es) (hv:OwnIds w B v ids) (hv':OwnIds w' B v ids) (hd:DocSt w' vm' es') (ho : ∀ e∈es',OldOr w.heap.size es e):Apart v vm' es':=by
 intro k hk hu
 have hlt:=(World.ownsRow.lt hv k hk).2
 rcases hu with hu | ⟨e,he,hu⟩
 ·exact own_ne hv' hd.own (by decide) k hk hu
 ·rcases ho e he with h1 | ⟨h1,h2⟩
  ·exact h k hk (.inr ⟨e,h1,hu⟩)
  ·rcases hu with hu | hu
   ·have:=h1 k hu;omega
   ·have:=h2 k hu;omega
theorem Apart.newer {v v':Value} (h:Apart v vm es) (hd:DocSt w vm es) (hn:Newer w v v'):Apart v' vm es:=by
 intro k hk hu
 rcases hn with hn | hn
 ·exact h k (hn▸hk) hu
 ·have:=hn k hk
  have:=hd.lt hu
  omega
end
theorem putS_len (s:List StL) (t:Txt):(putS s t).length≤s.length+1:=by
 unfold putS
 split
 ·omega
 ·split
  ·omega
  ·rename_i hh
   rw [putS_eq s (by simpa using hh)]
   exact putK_len
end
section
attribute [local go_sem ↓] ldvI_eq ldvS_eq stvI_eq
def PickR (e:Ending):Prop := ∃ x b,e = .returned (.tuple #[.agg (u8s x), .bool b])∧x.length=32
def pickP (S:List StL) (kind:Int) (x:Txt):Bool:=(kindS S x==kind)||(kind==0)||((kind==9)&&decide (kindS S x<3))
def pickL (S:List StL) (ids:List Txt) (kind:Int):List Txt:=ids.filter (pickP S kind)
def pickF (S:List StL) (ids:List Txt) (n:Nat) (kind:Int):Option Txt:=if (pickL S ids kind).length=0 then none else (pickL S ids kind)[(pickL S ids kind).length-1-n%(pickL S ids kind).length]?
def pickVal (r:Option Txt):Value:=match r with
 | some x => .tuple #[.agg (u8s x), .bool true]
 | none => .tuple #[.agg (u8s noId), .bool false]
theorem pickL_more {S:List StL} {ids:List Txt} {kind:Int} {k:Nat} {x:Txt} (h:ids[k]?=some x):pickL S (ids.take (k+1)) kind=pickL S (ids.take k) kind++if pickP S kind x=true then [x] else []:=by
 unfold pickL
 rw [List.take_add_one,h,List.filter_append]
 congr 1
 show ([x]:List Txt).filter _=_
 rw [List.filter_cons,List.filter_nil]
theorem pickF_len {S:List StL} {ids:List Txt} {n:Nat} {kind:Int} {x:Txt} (hok : ∀ y∈ids,y.length=32) (h:pickF S ids n kind=some x):x.length=32:=by
 unfold pickF at h
 split at h
 ·cases h
 ·exact hok x (List.mem_filter.1 (List.mem_of_getElem? h)).1
set_option maxRecDepth 100000 in
set_option maxHeartbeats 8000000 in
theorem pickF_calls {w:World} {vm:Value} {es:List DiL} (h:DocSt w vm es) (ids:List Txt) (hok : ∀ x∈ids,x.length=32) (hil:ids.length≤1000) (vi:Value) (hi:Ids w vi ids) (n:Nat) (hn:n≤100000) (kind:Int) :
 Calls Tryz.prog 65 #[.agg #[vm],vi, .int .i64 n, .int .i64 kind] w fun e w'=>e = .returned (pickVal (pickF (es.map (·.st)) ids n kind))∧Below w.heap.size w w':=by
 have hzI:=zeroIdV
 have hrb:=fun W=>run_build (P:=Tryz.prog) W _ _ _ zBS
 have hZ32:(u8s noId).size=32:=by rw [zAj,zAg]
 have hZone:=u8s_one noId
 obtain ⟨W1,hW1⟩ : ∃ W1,w.alloc (.cells #[vm] 28)=W1:=⟨_,rfl⟩
 have s1:Blk W1 w.heap.size 28 #[vm]:=by rw [←hW1];exact Blk.new _ _ _
 have b1:Below w.heap.size w W1:=by rw [←hW1];exact (Below.refl _ _).alloc (Nat.le_refl _) _
 obtain ⟨W2,hW2⟩ : ∃ W2,W1.alloc (.cells (u8s noId) 46)=W2:=⟨_,rfl⟩
 have z2:Blk W2 W1.heap.size 46 (u8s noId):=by rw [←hW2];exact Blk.new _ _ _
 have bb2:Below W1.heap.size W1 W2:=by rw [←hW2];exact (Below.refl _ _).alloc (Nat.le_refl _) _
 have s2:=s1.below bb2 s1.lt
 have b2:=bthen b1 b1.size bb2
 have hsz:(Tryz.prog.info? 46).map (·.size)=some (u8s noId).size:=by rw [hZ32];exact sz32
 have hle:=b1.size
 have hle2:=b2.size
 have hkc:=fun (x:Txt) (hx:x.length=32) W (hW:Below W2.heap.size W2 W)=>zBM (h.below (bthen b2 b2.size hW)) x hx
 have l2:=fun W (hW:Below W2.heap.size W2 W)=>zAP (s2.below hW s2.lt)
 have hmr:=fun {k:Nat} {x:Txt} (h:ids[k]?=some x)=>pickL_more (S:=es.map (·.st)) (kind:=kind) h
 have hfe:pickL (es.map (·.st)) (ids.take ids.length) kind=pickL (es.map (·.st)) ids kind:=by rw [List.take_length]
 obtain ⟨R,hR⟩ : ∃ R,Hid (pickVal (pickF (es.map (·.st)) ids n kind)=R):=⟨_,Lib.hid rfl⟩
 rw [hR.out]
 have hRR:=hR.out
 unfold pickF at hRR
 replace hRR:=Lib.hid hRR
 clear hR
 obtain ⟨A,cap,rfl,hcap1,hcap2,hat⟩:=hi
 clear h
 obtain ⟨Z,hZ⟩ : ∃ Z,u8s noId=Z:=⟨_,rfl⟩
 rw [hZ] at z2 hW2 hsz hZ32 hZone hrb hzI
 have hZ:=Lib.hid hZ
 go_enter Tryz.func65,Tryz.ntmps65
 go_wp2
 go_loopw [10,11] (fun vo vi wr => ∃ (k:Nat) (acc:List Txt),vi = .int .i64 k∧k≤ids.length∧acc.length≤k∧Hid (∀ x∈acc,x.length=32)∧Hid (acc=pickL (es.map (·.st)) (ids.take k) kind)∧OwnIds wr W2.heap.size vo acc∧Below W2.heap.size W2 wr) (fun _ vi _=>ids.length-(intOf vi).toNat)
 case atStart=>exact ⟨0,[],rfl,by omega,by simp,Lib.hid (fun x hx=>by simp at hx),Lib.hid rfl,World.ownsRow_nil _ _ _ _,Below.refl _ _⟩
 case round=>
  obtain ⟨k,acc,rfl,hk,hal,hall,hacc,hown,hbel⟩:=hrel
  by_cases hlt:k<ids.length
  ·have hki:(k:Int)<(ids.length:Int):=by omega
   obtain ⟨ga,oa,rfl,hga,hca⟩:=hat (by omega)
   obtain ⟨x,hx⟩ : ∃ x,ids[k]?=some x:=⟨_,List.getElem?_eq_getElem hlt⟩
   have hxi:=hok x (List.mem_of_getElem? hx)
   have hlx : ∀ W,Below W2.heap.size W2 W→(ldvI ⟨ga,oa+k*32,none⟩).run Tryz.prog W = .ok (.agg (u8s x)) W:=fun W hW=>by
    have hr:=zAc (hca k x hx) hga (bthen b2 b2.size hW)
    exact zAb (show World.rangeAt W ga (oa+k*32) (u8s x).toList from hr) hxi
   have hkx:=hkc x hxi
   obtain ⟨K,hK⟩ : ∃ K,kindS (es.map (·.st)) x=K:=⟨_,rfl⟩
   have hmo:=hmr hx
   unfold pickP at hmo
   rw [hK,←hacc.out] at hmo
   replace hmo:=Lib.hid hmo
   simp only [hK] at hkx
   have hkl:acc.length+1≤9223372036854775807:=by omega
   have hm2:(acc.length+1)*32≤140737488355328:=by omega
   have hid32:(idC x).toArray.size=32:=by rw [List.size_toArray,idC_len hxi]
   have hidl:(idC x).toArray.size=1*32:=hid32
   have hid1 : ∀ u∈(idC x).toArray.toList,u.oneCell'=true:=by rw [List.toList_toArray];exact idC_one x
   have hXC:(idC x).toArray=u8s x:=by simp [idC]
   rw [hXC] at hid32 hidl hid1
   have hall2:Hid (∀ y∈acc++[x],y.length=32):=Lib.hid fun y hy=>by
    rcases List.mem_append.1 hy with hy | hy
    ·exact hall.out y hy
    ·rw [List.mem_singleton.1 hy];exact hxi
   have hXC:=Lib.hid hXC
   have hrow:Hid (rowsOf idC (acc++[x])=rowsOf idC acc++(u8s x).toList):=Lib.hid (by rw [zAo,zAx];rfl)
   generalize u8s x=XC at *
   clear hx hca hat hok hK hkc hmr hfe hRR
   go_wp2
   refine zAA 7 (by kernel_rfl) (by kernel_rfl) (by kernel_rfl) (by kernel_rfl) ?_
   simp only [exSp]
   iterate 7 apply Exists.intro
   repeat
    first
     | ((with_reducible apply lx0_ex)
        ·(go_simp;done)
        apply Exists.intro
        apply And.intro
        ·apply Eq.refl
        apply And.intro
        ·intro W hW hD
         have hW2:=hbel.trans (hW.mono hbel.size)
         have q0:=l2 W hW2
         have q1:=hlx W hW2
         have q2:=hkx W hW2
         go_simp
         first
          | rfl
          | (with_reducible exact q2)
        simp only [Act.put,zA,zB,zC])
     | ((with_reducible apply zA2)
        ·(first | rfl | (go_simp;done))
        ·apply Eq.refl
        simp only [Act.put,zA,zB,zC])
   refine lx0_nil ?_ fun w5 hW5 hD5=>?_
   ·exact List.nodup_nil
   have b5:=hbel.trans (hW5.mono hbel.size)
   have own5:=zAf hown hW5
   have sz5:=b5.size
   have lx5:=hlx _ b5
   clear hD5 hkx hlx l2
   have kk:=Lib.hid hki
   cases e1:(K==kind)<;>cases e2:(kind==(0:Int))<;>cases e3:(kind==(9:Int))<;>cases e4:decide (K<3)
   all_goals
    go_wp2_with (first
     | ((with_reducible refine zAC (.tmp 44) Tryz.idsTy XC hid32 (by omega) ?_ ?_);rfl)
     | (at_builtin
        (with_reducible refine zAp (.tmp 40) (.tmp 45) 1 _ Tryz.idsTy own5 XC hidl hid1 hkl hm2 sz5 ?_ ?_ ?_);rfl;rfl
        intro v6 w6 hv6 hb6 hg6 hn6
        have b6:=b5.trans hb6
        clear hg6 hn6))
    go_roundw
    case rel=>first
     | exact ⟨k+1,acc,by go_num,by omega,by omega,hall,Lib.hid (by rw [hmo.out,e1,e2,e3,e4];simp),own5,b5⟩
     | exact ⟨k+1,acc++[x],by go_num,by omega,by simp;omega,hall2,Lib.hid (by rw [hmo.out,e1,e2,e3,e4];simp),by unfold OwnIds;rw [List.length_append,hrow.out];exact hv6,b6⟩
    case measure=>simp [intOf];omega
  ·have hki : ¬ (k:Int)<(ids.length:Int):=by omega
   have hke:k=ids.length:=by omega
   have hae:acc=pickL (es.map (·.st)) ids kind:=by rw [hacc.out,hke,hfe]
   have hR2:=hRR.out
   rw [←hae] at hR2
   clear hae hke hacc hRR hfe hmr
   have hz3:=z2.below hbel z2.lt
   have b3:=bthen b2 b2.size hbel
   clear hat hok hkc l2
   cases acc with
   | nil=>
     obtain ⟨A3,c3,rfl⟩:=zAm hown
     have HR:Hid (R = .tuple #[.agg Z, .bool false]):=Lib.hid (by
      rw [←hR2]
      show pickVal none=_
      unfold pickVal
      rw [hZ.out])
     clear hR2
     have hl0:(([]:List Txt).length:Int)=0:=rfl
     go_wp2_with (first
      | (refine wpList_store_row rfl 46 (.tmp 8) (.tmp 50) rfl W1.heap.size Z rfl rfl _ _ hz3 hsz rfl hZone ?_))
     refine bodyPost_ret (zAe rfl _ _ W1.heap.size _ _ _ _ rfl (setRow_heap _ _ _ _ _ _ hz3) Tryz.underlying46 rfl hsz) rfl ?_
     exact ⟨by rw [HR.out];rfl,zAa b3 hle _⟩
   | cons y ys=>
     obtain ⟨m,hm⟩ : ∃ m:Nat,((y::ys).length:Int)-1-(n:Int)%((y::ys).length:Int)=(m:Int):=by
      refine Int.eq_ofNat_of_zero_le ?_
      have:=Int.emod_lt_of_pos (n:Int) (show (0:Int)<((y::ys).length:Int) by simp only [List.length_cons];omega)
      omega
     have hmn:=Int.emod_nonneg (n:Int) (show ((y::ys).length:Int)≠0 by simp only [List.length_cons];omega)
     have hml:m<(y::ys).length:=by omega
     have hL0:0<(y::ys).length:=by simp
     have hLi:(0:Int)<((y::ys).length:Int):=by omega
     have hLn : ¬ ((y::ys).length:Int)=0:=by omega
     have hLb:(((y::ys).length:Int)==0)=false:=by simpa using hLn
     obtain ⟨x,hx⟩ : ∃ x,(y::ys)[m]?=some x:=⟨_,List.getElem?_eq_getElem hml⟩
     have hmN:m=(y::ys).length-1-n%(y::ys).length:=by
      have:=Int.emod_lt_of_pos (n:Int) (show (0:Int)<((y::ys).length:Int) by omega)
      omega
     have HR:Hid (R=pickVal (some x)):=Lib.hid (by rw [←hR2,if_neg (by omega),←hmN,hx])
     have hxi:=hall.out x (List.mem_of_getElem? hx)
     clear hR2 hmN
     have hsl:=SliceAt.of_own (fun e h=>idC_len (hall.out e h)) hown
     obtain ⟨A3,c3,rfl,hc31,hc32,hat3⟩:=hsl
     obtain ⟨g3,o3,rfl,hg3,hc3⟩:=hat3 hL0
     have hlx:(ldvI ⟨g3,o3+m*32,none⟩).run Tryz.prog wr = .ok (.agg (u8s x)) wr:=zAb (show World.rangeAt wr g3 (o3+m*32) (u8s x).toList from hc3 m x hx) hxi
     have hx32:(u8s x).size=32:=by rw [zAj,hxi]
     have hxs:(Tryz.prog.info? 46).map (·.size)=some (u8s x).size:=by rw [hx32];exact sz32
     have hxo:=u8s_one x
     have hzx:Z.size=(u8s x).size:=by rw [hZ32,hx32]
     have hmi:(m:Int)<((y::ys).length:Int):=by omega
     have hLm:((y::ys).length:Int)≤1000:=by omega
     generalize (y::ys).length=LN at *
     have hw1:IntKind.i64.wrap ((LN:Int)-1)=(LN:Int)-1:=IntWalk.i64_in _ (by omega)
     have hw2:IntKind.i64.wrap ((n:Int)%(LN:Int))=(n:Int)%(LN:Int):=IntWalk.i64_in _ (by have:=Int.emod_lt_of_pos (n:Int) hLi;omega)
     have hw3:IntKind.i64.wrap ((m:Int))=(m:Int):=IntWalk.i64_in _ (by omega)
     clear hx hc3 hat3 hown hall hal
     go_wp2_with (first
      | (refine wpList_store_row rfl 46 (.tmp 8) (.tmp 61) rfl W1.heap.size (u8s x) rfl rfl _ _ hz3 hxs hzx hxo ?_))
     refine bodyPost_ret (zAe rfl _ _ W1.heap.size _ _ _ _ rfl (setRow_heap _ _ _ _ _ _ hz3) Tryz.underlying46 rfl hxs) rfl ?_
     exact ⟨by rw [HR.out];rfl,zAa b3 hle _⟩
theorem zC7 {w:World} {vm:Value} {es:List DiL} (h:DocSt w vm es) (ids:List Txt) (hok : ∀ x∈ids,x.length=32) (hil:ids.length≤1000) (vi:Value) (hi:Ids w vi ids) (n:Nat) (hn:n≤100000) (kind:Int) :
 Calls Tryz.prog 65 #[.agg #[vm],vi, .int .i64 n, .int .i64 kind] w fun e w'=>PickR e∧Below w.heap.size w w':=by
 refine (pickF_calls h ids hok hil vi hi n hn kind).mono fun e w' ⟨q1,q2⟩=>⟨?_,q2⟩
 subst q1
 cases hp:pickF (es.map (·.st)) ids n kind with
 | none=>exact ⟨noId,false,rfl,zAg⟩
 | some x=>exact ⟨x,true,rfl,pickF_len hok hp⟩
end
theorem len32 {x:List UInt8} (h:x.length=32) : ∃ f:Fin 32→UInt8,x=List.ofFn f:=
 ⟨fun i=>x[i.1]'(by omega),by
  apply List.ext_getElem
  ·rw [List.length_ofFn,h]
  ·intro i h1 h2
   rw [List.getElem_ofFn]⟩
set_option maxRecDepth 100000 in
theorem built_commit (x:Txt) (hx:x.length=32) (n:Nat) (t:Txt):Tryz.prog.built 59 [(0, .int .i64 3),(3, .agg (u8s x)),(5, .int .u32 n),(6, .string (B t))]=some (objC ⟨3,[],[],x,[],n,t,noId,0,[]⟩ (.slice none 0 0) (.slice none 0 0)).toArray:=by
 obtain ⟨f,rfl⟩:=len32 hx
 kernel_rfl
set_option maxRecDepth 100000 in
theorem built_tag (x:Txt) (hx:x.length=32) (k:Int) (t:Txt):Tryz.prog.built 59 [(0, .int .i64 4),(7, .agg (u8s x)),(8, .int .i64 k),(9, .string (B t))]=some (objC ⟨4,[],[],noId,[],0,[],x,k,t⟩ (.slice none 0 0) (.slice none 0 0)).toArray:=by
 obtain ⟨f,rfl⟩:=len32 hx
 kernel_rfl
theorem built_blob (t:Txt):Tryz.prog.built 59 [(0, .int .i64 1),(1, .string (B t))]=some (objC ⟨1,t,[],noId,[],0,[],noId,0,[]⟩ (.slice none 0 0) (.slice none 0 0)).toArray:=by kernel_rfl
end Go.Proofs.YtbhdfaadedlcfaaGreatDoor
