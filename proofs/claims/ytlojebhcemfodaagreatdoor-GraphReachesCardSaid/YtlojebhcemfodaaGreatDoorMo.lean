/- Texts of this claim, laid together: KnW, His, HisI, HisF, HisB, WlkP, Wlk, GrfR, Tab. -/
import Derived.Test.YtlojebhcemfodaaGreatDoorMn
import Derived.Test.YtlojebhcemfodaaGreatDoorCards
import Derived.WalkKit
import Derived.ProofKit
import Derived.OpenShut
import Derived.Deep.DeepHandedRow
import Derived.Lib.LaidTab
namespace Go.Proofs.YtlojebhcemfodaaGreatDoor
open Go.RowKit
attribute [local go_sem ↓] ldvI_eq ldvS_eq
theorem small_oTree : Small oTree:=⟨by decide,(fun e he=>by cases he),by decide,by decide,by decide,by decide⟩
theorem small_oOld : Small oOld:=⟨by decide,(fun e he=>by cases he),by decide,by decide,by decide,by decide⟩
theorem small_oYoung : Small oYoung:=⟨by decide,(fun e he=>by cases he),by decide,by decide,by decide,by decide⟩
theorem ids_one {W:World} {g:Nat} {x:Txt} (h:Blk W g 42 (u8s x)):Ids W (.slice (some ⟨g,0,none⟩) 1 1) [x]:=
 ⟨_,1,rfl,Nat.le_refl _,by decide,fun _=>⟨g,0,rfl,h.lt,fun i y hy=>by
  cases i with
  | zero=>
    have hy:x=y:=by simpa using hy
    subst hy
    rw [Nat.zero_mul,Nat.zero_add]
    exact range_blk h
  | succ i=>simp at hy⟩⟩
theorem slice_txs {W:World} {g:Nat} {l:List Txt} (hl:l.length≤100) (h:Blk W g 9 (l.map fun t=>Value.string (B t)).toArray):SliceAt W 1 txC (.slice (some ⟨g,0,none⟩) l.length l.length) l:=
 ⟨_,l.length,rfl,Nat.le_refl _,by omega,fun _=>⟨g,0,rfl,h.lt,fun i t ht=>fun j u hu=>by
  cases j with
  | zero=>
    have hu:Value.string (B t)=u:=by simpa [txC] using hu
    rw [h.cell,Nat.zero_add,Nat.mul_one,Nat.add_zero,List.getElem?_toArray,List.getElem?_map,ht]
    exact congrArg some hu
  | succ j=>simp [txC] at hu⟩⟩
theorem knA_len : knA.length=32:=by decide
theorem knB_len : knB.length=32:=by decide
theorem knC_len : knC.length=32:=by decide
theorem ok_oTree : ObjOk oTree:=⟨by decide,by decide,(fun e he=>by cases he),(fun p hp=>by cases hp),by decide,by decide,by decide,by decide,by decide,by decide,by decide,by decide⟩
theorem ok_oOld : ObjOk oOld:=⟨by decide,by decide,(fun e he=>by cases he),(fun p hp=>by cases hp),by decide,by decide,by decide,by decide,by decide,by decide,by decide,by decide⟩
theorem ok_oYoung : ObjOk oYoung:=⟨by decide,by decide,(fun e he=>by cases he),(fun p hp=>by rw [List.mem_singleton.1 hp];decide),by decide,by decide,by decide,by decide,by decide,by decide,by decide,by decide⟩
theorem enc_t (W:World):Calls Tryz.prog 25 #[.agg (objC oTree (.slice none 0 0) (.slice none 0 0)).toArray] W fun e w'=>e = .returned (.tuple #[.string (B knTree), .bool true])∧Below W.heap.size W w':=
 encD_some enc_oTree▸refEncode_calls oTree small_oTree none none 0 0 W ⟨ok_oTree,SliceAt.nil,SliceAt.nil⟩
theorem enc_o (W:World):Calls Tryz.prog 25 #[.agg (objC oOld (.slice none 0 0) (.slice none 0 0)).toArray] W fun e w'=>e = .returned (.tuple #[.string (B knOld), .bool true])∧Below W.heap.size W w':=
 encD_some enc_oOld▸refEncode_calls oOld small_oOld none none 0 0 W ⟨ok_oOld,SliceAt.nil,SliceAt.nil⟩
theorem enc_y (W:World) (g:Nat) (h:Blk W g 42 (u8s knB)):Calls Tryz.prog 25 #[.agg (objC oYoung (.slice none 0 0) (.slice (some ⟨g,0,none⟩) 1 1)).toArray] W fun e w'=>e = .returned (.tuple #[.string (B knYoung), .bool true])∧Below W.heap.size W w':=
 encD_some enc_oYoung▸refEncode_calls oYoung small_oYoung none (some ⟨g,0,none⟩) 0 1 W ⟨ok_oYoung,SliceAt.nil,ids_one h⟩
theorem sum_t (W:World):Calls Tryz.prog 26 #[.string (B knTree)] W fun e w'=>e = .returned (.agg (u8s knA))∧Below W.heap.size W w':=knA_is▸refSum_calls knTree W (by decide)
theorem sum_o (W:World):Calls Tryz.prog 26 #[.string (B knOld)] W fun e w'=>e = .returned (.agg (u8s knB))∧Below W.heap.size W w':=knB_is▸refSum_calls knOld W (by decide)
theorem sum_y (W:World):Calls Tryz.prog 26 #[.string (B knYoung)] W fun e w'=>e = .returned (.agg (u8s knC))∧Below W.heap.size W w':=knC_is▸refSum_calls knYoung W (by decide)
theorem built_ob1 : Tryz.prog.built 54 [(0, .int .i64 2)]=some (objC oTree (.slice none 0 0) (.slice none 0 0)).toArray:=by kernel_rfl
theorem built_ob2 : Tryz.prog.built 54 [(0, .int .i64 3),(3, .agg (u8s knA)),(5, .int .u32 9)]=some (objC oOld (.slice none 0 0) (.slice none 0 0)).toArray:=by kernel_rfl
theorem built_ob3 (g:Nat):Tryz.prog.built 54 [(0, .int .i64 3),(3, .agg (u8s knA)),(5, .int .u32 5),(4, .slice (some ⟨g,0,none⟩) 1 1)]=some (objC oYoung (.slice none 0 0) (.slice (some ⟨g,0,none⟩) 1 1)).toArray:=by kernel_rfl
set_option maxRecDepth 100000 in
set_option maxHeartbeats 8000000 in
theorem knows_calls12 (w:World) (hK:TabK w):Calls Tryz.prog 7 #[] w fun e w'=>e = .returned (.bool true)∧Below w.heap.size w w':=by
 have hbS:Tryz.prog.built 28 []=some #[.slice none 0 0]:=by kernel_rfl
 have hrb:=fun W=>run_build (P:=Tryz.prog) W _ _ _ hbS
 have hS0:(#[Value.slice none 0 0]:Array Value).size=1:=rfl
 have hS1:(#[Value.slice none 0 0]:Array Value).all (·.oneCell')=true:=by kernel_rfl
 have b1:=built_ob1
 have b2:=built_ob2
 have b3:=built_ob3
 have e1:=fun W=>Lib.hid (enc_t W)
 have e2:=fun W=>Lib.hid (enc_o W)
 have e3:=fun W g h=>Lib.hid (enc_y W g h)
 have m1:=fun W=>Lib.hid (sum_t W)
 have m2:=fun W=>Lib.hid (sum_o W)
 have m3:=fun W=>Lib.hid (sum_y W)
 have hDe : ∀ W,DocSt W (.slice none 0 0) []:=fun W=>⟨World.ownsRow_nil _ _ _ _,(fun e he=>by simp at he),StoOk.nil⟩
 have hA1 : ∀ (W:World) (g:Nat),Blk W g 9 #[.string (B knTree), .string (B knYoung)]→Calls Tryz.prog 27 #[.agg #[.slice none 0 0], .slice (some ⟨g,0,none⟩) 2 2] W fun e w'=>AllR W.heap.size (.slice none 0 0) [] knS1 e w'∧Below W.heap.size W w':=fun W g hb=>by
  have:=docAll_calls (hDe W) [knTree,knYoung] (by decide) (by simp) _ (slice_txs (by simp) hb)
  rwa [show ([]:List DiL).map (·.st)=[] from rfl,kn_put1] at this
 have hA2 : ∀ (W:World) (g:Nat),Blk W g 9 #[.string (B knTree), .string (B knOld), .string (B knYoung)]→Calls Tryz.prog 27 #[.agg #[.slice none 0 0], .slice (some ⟨g,0,none⟩) 3 3] W fun e w'=>AllR W.heap.size (.slice none 0 0) [] knS2 e w'∧Below W.heap.size W w':=fun W g hb=>by
  have:=docAll_calls (hDe W) [knTree,knOld,knYoung] (by decide) (by simp) _ (slice_txs (by simp) hb)
  rwa [show ([]:List DiL).map (·.st)=[] from rfl,kn_put2] at this
 have aA:(u8s knA).size=32:=by rw [u8s_size];exact knA_len
 have aB:(u8s knB).size=32:=by rw [u8s_size];exact knB_len
 have aC:(u8s knC).size=32:=by rw [u8s_size];exact knC_len
 have l1:knS1.length=2:=rfl
 have l2:knS2.length=3:=rfl
 have lA:=knA_len
 have lB:=knB_len
 have lC:=knC_len
 clear hDe
 obtain ⟨S1,hS1e⟩ : ∃ S,knS1=S:=⟨_,rfl⟩
 obtain ⟨S2,hS2e⟩ : ∃ S,knS2=S:=⟨_,rfl⟩
 have kw:=Lib.hid kn_walk
 have kt := @kn_there
 have kg := @kn_gone
 rw [hS1e] at hA1 l1 kt kg
 rw [hS2e] at hA2 l2 kw
 clear hS1e hS2e
 obtain ⟨C1,hC1⟩ : ∃ C,(objC oTree (.slice none 0 0) (.slice none 0 0)).toArray=C:=⟨_,rfl⟩
 obtain ⟨C2,hC2⟩ : ∃ C,(objC oOld (.slice none 0 0) (.slice none 0 0)).toArray=C:=⟨_,rfl⟩
 obtain ⟨C3,hC3⟩ : ∃ C:Nat→Array Value, ∀ g,(objC oYoung (.slice none 0 0) (.slice (some ⟨g,0,none⟩) 1 1)).toArray=C g:=⟨_,fun g=>rfl⟩
 rw [hC1] at b1
 rw [hC2] at b2
 simp only [hC1] at e1
 simp only [hC2] at e2
 simp only [hC3] at e3 b3
 clear hC1 hC2 hC3
 generalize knA=A at *
 generalize knB=B' at *
 generalize knC=C' at *
 generalize knTree=tT at *
 generalize knOld=tO at *
 generalize knYoung=tY at *
 go_enter Tryz.func7,Tryz.ntmps7
 have bb:=Below.refl w.heap.size w
 go_upto_region 4 with (first
  | ((with_reducible refine lit_build1 b1 ?_ ?_);rfl)
  | ((with_reducible refine (e1 _).out.mono ?_);rintro e w1 ⟨rfl,hb1⟩;replace bb:=bthen bb bb.size hb1;clear hb1)
  | ((with_reducible refine (m1 _).out.mono ?_);rintro e w2 ⟨rfl,hb2⟩;replace bb:=bthen bb bb.size hb2;clear hb2)
  | ((with_reducible refine lit_build3 b2 ?_ ?_ ?_ ?_);rfl;rfl;rfl)
  | ((with_reducible refine (e2 _).out.mono ?_);rintro e w3 ⟨rfl,hb3⟩;replace bb:=bthen bb bb.size hb3;clear hb3)
  | ((with_reducible refine (m2 _).out.mono ?_);rintro e w4 ⟨rfl,hb4⟩;replace bb:=bthen bb bb.size hb4;clear hb4)
  | ((with_reducible refine lit_slice1 (.tmp 30) Tryz.idsTy (u8s B') aB (by omega) ?_ ?_);rfl
     obtain ⟨w5,hw5⟩ : ∃ W,w4.alloc (.cells (u8s B') 42)=W:=⟨_,rfl⟩
     have hb5:Blk w5 w4.heap.size 42 (u8s B'):=by rw [←hw5];exact Blk.new _ _ _
     have hbl5:Below w4.heap.size w4 w5:=by rw [←hw5];exact (Below.refl _ _).alloc (Nat.le_refl _) _
     replace bb:=bthen bb bb.size hbl5
     have ey:=e3 w5 _ hb5
     have b3w:=b3 w4.heap.size
     rw [hw5])
  | ((with_reducible refine lit_build4 b3w ?_ ?_ ?_ ?_ ?_);rfl;rfl;rfl;rfl)
  | ((with_reducible refine ey.out.mono ?_);rintro e w6 ⟨rfl,hb6⟩;replace bb:=bthen bb bb.size hb6;clear hb6))
 clear ey b3w hw5 hb5 hbl5 e1 e2 e3 m1 b1 b2 b3
 go_upto_region 5 with (first
  | ((with_reducible refine lit_new 28 (.tmp 7) (.tmp 36) #[.slice none 0 0] 1 szDSt hS0 hS1 _ ?_ ?_ ?_ ?_)
     ·first | exact hS0 | rfl
     ·rfl
     ·rfl
     intro w7 hb7 hbl7))
 have lS : ∀ W,Below w7.heap.size w7 W→(ldvS ⟨w6.heap.size,0,none⟩).run Tryz.prog W = .ok (.agg #[.slice none 0 0]) W:=fun W hW=>run_ldvS (hb7.below hW hb7.lt)
 replace bb:=bthen bb bb.size hbl7
 have g7:=Below.refl w7.heap.size w7
 have lS7:=lS w7 g7
 obtain ⟨v8,hv8⟩ : ∃ W,w7.alloc (.cells #[.string (B tT), .string (B tY)] 9)=W:=⟨_,rfl⟩
 have k8:Blk v8 w7.heap.size 9 #[.string (B tT), .string (B tY)]:=by rw [←hv8];exact Blk.new _ _ _
 have g8:Below w7.heap.size w7 v8:=by rw [←hv8];exact (Below.refl _ _).alloc (Nat.le_refl _) _
 have c8:=Lib.hid (hA1 v8 _ k8)
 go_upto_region 6 with (first
  | ((with_reducible refine c8.out.mono ?_);rintro e w9 ⟨⟨vm9,es9,rfl,D9,hm9, -⟩,hb9⟩
     replace bb:=bthen bb bb.size g8
     have b9:=bthen g8 g8.size hb9
     replace bb:=bthen bb bb.size hb9
     have n9:es9.length<490000:=by have:=congrArg List.length hm9;rw [List.length_map,l1] at this;omega
     have c9:=of_calls11 D9 n9 (hK.below bb)
     rw [hm9] at c9
     clear hm9 n9 D9
     replace c9:=Lib.hid c9)
  | ((with_reducible refine c9.out.mono ?_);rintro e w10 ⟨⟨p1,vl1,rfl,hp1,St1⟩,hb10⟩
     replace bb:=bthen bb bb.size hb10
     have b10:=bthen b9 b9.size hb10))
 clear c8 c9 hA1 hv8 k8 hb9 hb10 lS7 g8 b9
 have lS10:=lS w10 b10
 obtain ⟨v11,hv11⟩ : ∃ W,w10.alloc (.cells #[.string (B tT), .string (B tO), .string (B tY)] 9)=W:=⟨_,rfl⟩
 have k11:Blk v11 w10.heap.size 9 #[.string (B tT), .string (B tO), .string (B tY)]:=by rw [←hv11];exact Blk.new _ _ _
 have g11:Below w10.heap.size w10 v11:=by rw [←hv11];exact (Below.refl _ _).alloc (Nat.le_refl _) _
 have c11:=Lib.hid (hA2 v11 _ k11)
 go_upto_region 9 with (first
  | ((with_reducible refine c11.out.mono ?_);rintro e w12 ⟨⟨vm12,es12,rfl,D12,hm12, -⟩,hb12⟩
     replace bb:=bthen bb bb.size g11
     replace bb:=bthen bb bb.size hb12
     have b12:=bthen g11 g11.size hb12
     have n12:es12.length<490000:=by have:=congrArg List.length hm12;rw [List.length_map,l2] at this;omega
     have c12:=of_calls11 D12 n12 (hK.below bb)
     rw [hm12] at c12
     clear hm12 n12 D12
     replace c12:=Lib.hid c12)
  | ((with_reducible refine c12.out.mono ?_);rintro e w13 ⟨⟨p2,vl2,rfl,hp2,St2⟩,hb13⟩
     replace bb:=bthen bb bb.size hb13
     have b13:=bthen b12 b12.size hb13))
 replace St1:=St1.below b13
 clear c11 c12 hA2 hv11 k11 hb12 hb13 lS10 g11 b12 b10 lS hb7 hbl7 g7 hrb hbS hS0 hS1 hK
 go_upto_region 10 with (first
  | ((with_reducible refine (m3 _).out.mono ?_);rintro e w14 ⟨rfl,hb14⟩
     replace bb:=bthen bb bb.size hb14)
  | ((with_reducible refine lit_slice1 (.tmp 57) Tryz.idsTy (u8s C') aC (by omega) ?_ ?_);rfl
     obtain ⟨w15,hw15⟩ : ∃ W,w14.alloc (.cells (u8s C') 42)=W:=⟨_,rfl⟩
     have hb15:Blk w15 w14.heap.size 42 (u8s C'):=by rw [←hw15];exact Blk.new _ _ _
     have g15:Below w14.heap.size w14 w15:=by rw [←hw15];exact (Below.refl _ _).alloc (Nat.le_refl _) _
     replace bb:=bthen bb bb.size g15
     have b15:=bthen hb14 hb14.size g15
     rw [hw15]))
 replace St1:=St1.below b15
 replace St2:=St2.below b15
 have hi15:=ids_one hb15
 have lC1 : ∀ x∈[C'],x.length=32:=fun x hx=>by rw [List.mem_singleton.1 hx];exact lC
 have lC0 : ∀ x∈([]:List Txt),x.length=32:=fun x hx=>absurd hx List.not_mem_nil
 have c15:=Lib.hid (graReach_calls St1 [C'] [] lC1 lC0 (by rw [l1];show 1+2*70≤800000;decide) (Nat.zero_le _) _ _ hi15 SliceAt.nil)
 go_upto_region 12 with (first
  | ((with_reducible refine c15.out.mono ?_);rintro e w16 ⟨va,vb,la,lb,rfl,ra,rb,oa,ob, -, -, -, -,hb16⟩
     obtain rfl:=kt ra
     obtain rfl:=kg rb
     replace bb:=bthen bb bb.size hb16
     replace St2:=St2.below hb16
     replace hi15:=hi15.below hb16
     have c16:=Lib.hid (graWalk_calls St2 [C'] [] lC1 lC0 (Nat.zero_le _) _ _ hi15 SliceAt.nil))
  | ((with_reducible refine c16.out.mono ?_);rintro e w17 ⟨vw,rfl,ow,hb17⟩
     rw [kw.out] at ow
     replace bb:=bthen bb bb.size hb17
     replace hi15:=hi15.below hb17
     replace oa:=own_below oa hb17
     replace ob:=own_below ob hb17))
 have hkA : ∀ x∈[C',A],(idC x).length=32:=fun x hx=>idC_len (by
  rcases List.mem_cons.1 hx with rfl | hx
  ·exact lC
  ·rw [List.mem_singleton.1 hx];exact lA)
 have hkB : ∀ x∈[B'],(idC x).length=32:=fun x hx=>idC_len (by rw [List.mem_singleton.1 hx];exact lB)
 have hkC : ∀ x∈[C',B'],(idC x).length=32:=fun x hx=>idC_len (by
  rcases List.mem_cons.1 hx with rfl | hx
  ·exact lC
  ·rw [List.mem_singleton.1 hx];exact lB)
 obtain ⟨A1,c1,rfl, -⟩:=SliceAt.of_own hkA oa
 obtain ⟨g2,o2,c2,rfl,hg2,hr2⟩:=(SliceAt.of_own hkB ob).at_ (i:=0) (by simp)
 obtain ⟨g3,o3,c3,rfl,hg3,hr3⟩:=(SliceAt.of_own hkC ow).at_ (i:=0) (by simp)
 obtain ⟨g4,o4,c4,he4,hg4,hr4⟩:=hi15.at_ (i:=0) (by simp)
 injection he4 with he4 ea eb
 clear ea eb
 injection he4 with he4
 injection he4 with he4 he5 ea
 clear ea
 subst he5
 rw [←he4] at hg4 hr4
 clear he4
 rw [Nat.zero_mul,Nat.add_zero] at hr2 hr3 hr4
 rw [show [C',A].length=2 from rfl,show [B'].length=1 from rfl,show [C',B'].length=2 from rfl]
 have q2 : ∀ W,Below w17.heap.size w17 W→(ldvI ⟨g2,o2,none⟩).run Tryz.prog W = .ok (.agg (u8s B')) W:=fun W hW=>run_ldvI_at (rangeAt_below hr2 hg2 hW) lB
 have q3 : ∀ W,Below w17.heap.size w17 W→(ldvI ⟨g3,o3,none⟩).run Tryz.prog W = .ok (.agg (u8s C')) W:=fun W hW=>run_ldvI_at (rangeAt_below hr3 hg3 hW) lC
 have q4 : ∀ W,Below w17.heap.size w17 W→(ldvI ⟨w14.heap.size,0,none⟩).run Tryz.prog W = .ok (.agg (u8s C')) W:=fun W hW=>run_ldvI_at (rangeAt_below hr4 hg4 hW) lC
 have e5:=fun W=>run_eql_id W B' B' lB lB
 have e6:=fun W=>run_eql_id W C' C' lC lC
 simp only [decide_true] at e5 e6
 clear oa ob ow hi15 hkA hkB hkC lC1 lC0 c15 hw15 hb15 g15 b15 ra rb St1 St2 kt kw kg hp1 hp2 b13 hb14 hb16 hb17 hr2 hr3 hr4 hg2 hg3 hg4
 refine wp_region_class (C:=fun W=>Below w17.heap.size w17 W) (by kernel_rfl) (by kernel_rfl) (Below.refl _ _).drew ?_
 repeat
  first
   | ((with_reducible refine wpQuiet_ex ?_ ?_)
      ·(go_simp;done)
      apply Exists.intro
      refine ⟨fun W hW=>?_,?_⟩
      ·first
        | (have r2:=q2 W hW
           have r3:=q3 W hW
           have r4:=q4 W hW
           have r5:=e5 W
           have r6:=e6 W
           have r7:=bel_keepG hW (m2 W).out
           go_simp
           first
            | rfl
            | (with_reducible exact r7)
            | (simp only [Sem.run_bind,run_eqGuard_agg _ _ _ _ _ _ _ Tryz.eqGuardType42,r5,Result.andThen_ok];rfl)
            | (simp only [Sem.run_bind,run_eqGuard_agg _ _ _ _ _ _ _ Tryz.eqGuardType42,r6,Result.andThen_ok];rfl))
      simp only [Act.put,List.setIfInBounds_toArray,List.set_cons_zero,List.set_cons_succ])
   | ((with_reducible refine wpQuiet_pass ?_ ?_)
      ·(first | rfl | (go_simp;done))
      simp only [Act.put,List.setIfInBounds_toArray,List.set_cons_zero,List.set_cons_succ])
 with_reducible refine wpQuiet_nil ?_
 intro w5 hW5
 go_wp2
 go_ret
 exact ⟨rfl,bthen bb bb.size hW5⟩
end Go.Proofs.YtlojebhcemfodaaGreatDoor
namespace Go.Proofs.YtlojebhcemfodaaGreatDoor
open Go.ChangeShapes Go.WideShapes Go.ChangeAt Go.RowKit
structure HisL where
 seeds:List SdL
 out:Txt
 frm:Txt
 cut:Txt
structure HisOk (w:World) (vs vo vf vc:Value) (h:HisL):Prop where
 seeds:Seeds w vs h.seeds
 out:SliceAt w 1 byC vo h.out
 frm:SliceAt w 1 byC vf h.frm
 cut:SliceAt w 1 byC vc h.cut
theorem HisOk.below {w w':World} {vs vo vf vc:Value} {h:HisL} (hh:HisOk w vs vo vf vc h) (hb:Below w.heap.size w w'):HisOk w' vs vo vf vc h:=⟨hh.seeds.below hb,hh.out.below hb,hh.frm.below hb,hh.cut.below hb⟩
section
variable {H:Type} {enc:TypeId×Value→H} {w:World} {base:Nat} {sp:Nat→Bool} {held:Bool}
set_option maxRecDepth 200000 in
theorem open_his {base0:Nat} {v:Value} {d:DataW H} {p:List MemPlace} (hv:Value.okWide Tryz.prog w .any base0 25 v) (h0:DataW.Trod enc Tryz.prog w base sp held 25 v d p) : ∃ (vs vo vf vc:Value) (h:HisL),v = .agg #[vs,vo,vf,vc]∧HisOk w vs vo vf vc h:=by
 simp only [Value.okWide,Tryz.underlying25] at hv
 obtain ⟨cs0,rfl,hsz,_⟩:=hv
 obtain ⟨fuel,hf0⟩:=h0
 have h4:Tryz.prog.cellsOf 25=4:=by kernel_rfl
 have hl:cs0.toList.length=4:=by rw [Array.length_toList,hsz,h4]
 have hf1:DataW.trod enc Tryz.prog w base sp held fuel 25 cs0.toList=some (d,p):=hf0
 obtain ⟨cs,hcs⟩ : ∃ cs,cs0.toList=cs:=⟨_,rfl⟩
 rw [hcs] at hl hf1
 obtain ⟨ys,n',hn',hy,hlen,hyl,hf⟩:=DataW.trod_struct Tryz.underlying25 hf1
 have hyl:ys.length=4:=hyl
 have h0:=hf 0 _ rfl
 have h1:=hf 1 _ rfl
 have h2:=hf 2 _ rfl
 have h3:=hf 3 _ rfl
 rw [List.getElem?_eq_getElem (show 0<ys.length by omega)] at h0
 rw [List.getElem?_eq_getElem (show 1<ys.length by omega)] at h1
 rw [List.getElem?_eq_getElem (show 2<ys.length by omega)] at h2
 rw [List.getElem?_eq_getElem (show 3<ys.length by omega)] at h3
 have cU:Tryz.prog.cellsOf 5=1:=by kernel_rfl
 have cB:Tryz.prog.cellsOf 23=1:=by kernel_rfl
 have cS:Tryz.prog.cellsOf 22=1:=by kernel_rfl
 obtain ⟨v0,e0,t0⟩:=trod_slice_one (by
  show ((cs.drop 0).take (Tryz.prog.cellsOf 22)).length=1
  rw [cS,List.length_take,List.length_drop];omega) h0
 obtain ⟨v1,e1,t1⟩:=trod_slice_one (by
  show ((cs.drop 1).take (Tryz.prog.cellsOf 23)).length=1
  rw [cB,List.length_take,List.length_drop];omega) h1
 obtain ⟨v2,e2,t2⟩:=trod_slice_one (by
  show ((cs.drop 2).take (Tryz.prog.cellsOf 23)).length=1
  rw [cB,List.length_take,List.length_drop];omega) h2
 obtain ⟨v3,e3,t3⟩:=trod_slice_one (by
  show ((cs.drop 3).take (Tryz.prog.cellsOf 23)).length=1
  rw [cB,List.length_take,List.length_drop];omega) h3
 obtain ⟨l0,hl0,ho0⟩:=open_elems sdC 4 (by omega) (SdOk w) Tryz.underlying22 (by kernel_rfl) (fun y _=>rfl) elem_seed t0
 obtain ⟨l1,hl1,_⟩:=open_elems byC 1 (by omega) (fun _=>True) Tryz.underlying23 cU (fun y _=>rfl) elem_byte t1
 obtain ⟨l2,hl2,_⟩:=open_elems byC 1 (by omega) (fun _=>True) Tryz.underlying23 cU (fun y _=>rfl) elem_byte t2
 obtain ⟨l3,hl3,_⟩:=open_elems byC 1 (by omega) (fun _=>True) Tryz.underlying23 cU (fun y _=>rfl) elem_byte t3
 have e0':(cs.drop 0).take 1=[v0]:=by rw [←cS];exact e0
 have e1':(cs.drop 1).take 1=[v1]:=by rw [←cB];exact e1
 have e2':(cs.drop 2).take 1=[v2]:=by rw [←cB];exact e2
 have e3':(cs.drop 3).take 1=[v3]:=by rw [←cB];exact e3
 refine ⟨v0,v1,v2,v3,⟨l0,l1,l2,l3⟩,?_,⟨⟨hl0,ho0⟩,hl1,hl2,hl3⟩⟩
 have:=chain e0' (m:=1) rfl
 rw [List.drop_zero,chain e1' (m:=2) rfl,chain e2' (m:=3) rfl,chain e3' (m:=4) rfl,List.drop_of_length_le (by omega)] at this
 congr 1
 apply Array.ext'
 rw [hcs,this]
 rfl
end
end Go.Proofs.YtlojebhcemfodaaGreatDoor
namespace Go.Proofs.YtlojebhcemfodaaGreatDoor
open Go.RowKit
attribute [local go_sem ↓] ldvI_eq ldvS_eq
theorem built_one (c:UInt8):Tryz.prog.built 42 [(0, .int .u8 c.toNat)]=some (u8s (c::List.replicate 31 0)):=by kernel_rfl
/-- What Ids tells: as many ids as there are places. -/
def IdsR (w:World) (n:Nat) (e:Ending) (w':World):Prop := ∃ v r,e = .returned v∧OwnIds w' w.heap.size v r∧(∀ x∈r,x.length=32)∧r.length=n
set_option maxRecDepth 100000 in
set_option maxHeartbeats 4000000 in
theorem ids12_calls (all:List Txt) (haok : ∀ x∈all,x.length=32) (hal:all.length≤1000) (va:Value) (w:World) (hva:Ids w va all) (l:Txt) (hl1000:l.length≤1000) (vl:Value) (hvl:SliceAt w 1 byC vl l) :
 Calls Tryz.prog 10 #[va,vl] w fun e w'=>IdsR w l.length e w'∧Below w.heap.size w w':=by
 obtain ⟨A,cap,rfl,hcap1,hcap2,hat⟩:=hvl
 obtain ⟨Aa,ca,rfl,hca1,hca2,hata⟩:=hva
 go_enter Tryz.func10,Tryz.ntmps10
 go_wp2_with (fail)
 go_loopg [5,6] l.length (fun f vo vi wr => ∃ (k:Nat) (acc:List Txt),vi = .int .i64 k∧k+f=l.length∧OwnIds wr w.heap.size vo acc∧Hid ((∀ x∈acc,x.length=32)∧acc.length=k)∧Below w.heap.size w wr)
 case atStart=>exact ⟨0,[],rfl,by omega,World.ownsRow_nil _ _ _ _,Lib.hid ⟨fun x hx=>by simp at hx,rfl⟩,Below.refl _ _⟩
 case round=>
  obtain ⟨k,acc,rfl,hkf,hown,hacc,hbel⟩:=hrel
  have hbs:=hbel.size
  obtain ⟨Ao,co,rfl⟩:=own_form' hown
  cases gk with
  | zero=>
    have hki : ¬ (k:Int)<(l.length:Int):=by omega
    have hke:Hid (k=l.length):=Lib.hid (by omega)
    clear hat hata
    go_wp2_with (fail)
    go_ret
    exact ⟨⟨_,acc,rfl,hown,hacc.out.1,hacc.out.2.trans hke.out⟩,hbel⟩
  | succ f=>
    have hki:(k:Int)<(l.length:Int):=by omega
    have hkl:k<l.length:=by omega
    obtain ⟨ga,oa,rfl,hga,hca⟩:=hat (by omega)
    obtain ⟨c,hc⟩ : ∃ c,l[k]?=some c:=⟨_,List.getElem?_eq_getElem (by omega)⟩
    have hcc:wr.cell? ⟨ga,oa+k,none⟩=some (.int .u8 c.toNat):=by
     have:=rangeAt_below (hca k c hc) hga hbel 0 _ rfl
     rwa [Nat.add_zero,Nat.mul_one] at this
    have hc256:c.toNat<256:=c.toNat_lt
    have hwc:IntKind.i64.wrap ((c.toNat:Nat):Int)=(c.toNat:Int):=IntWalk.i64_in _ (by omega)
    have hal2:acc.length≤1000:=by have:=hacc.out.2;omega
    have hAk:acc.length+1≤9223372036854775807:=by omega
    have hAb:(acc.length+1)*32≤140737488355328:=by omega
    have hrb:=built_one c
    have key : ∀ x:Txt,x.length=32→Hid ((x.length=32∧(u8s x).size=32∧(u8s x).size=1*32 ∧ ∀ u∈(u8s x).toList,u.oneCell'=true)∧(acc++[x]).length=acc.length+1∧rowsOf idC (acc++[x])=rowsOf idC acc++(u8s x).toList∧((∀ z∈acc++[x],z.length=32)∧(acc++[x]).length=k+1)):=fun x hx=>Lib.hid (by
     have h32:(u8s x).size=32:=by rw [u8s_size,hx]
     have hlen:(acc++[x]).length=acc.length+1:=by rw [List.length_append];rfl
     exact ⟨⟨hx,h32,h32,idC_one x⟩,hlen,by rw [rowsOf_append,rowsOf_one];rfl,fun z hz=>(List.mem_append.1 hz).elim (hacc.out.1 z) fun h=>by rw [List.mem_singleton.1 h];exact hx,by rw [hlen,hacc.out.2]⟩)
    clear hca hat hc
    have hx0:(c::List.replicate 31 (0:UInt8)).length=32:=by simp
    by_cases h0:0<all.length
    ·have h0i : ¬ (all.length:Int)=0:=by omega
     have h0b:((all.length:Int)==0)=false:=by simpa using h0i
     by_cases h200:200≤c.toNat
     ·have h2i:(200:Int)≤(c.toNat:Int):=by omega
      obtain ⟨x,hx⟩ : ∃ x,c::List.replicate 31 (0:UInt8)=x:=⟨_,rfl⟩
      rw [hx] at hrb hx0
      have hk0:=key x hx0
      obtain ⟨⟨_,hx32,hx132,hx1⟩,_⟩:=hk0.out
      clear key hx hata h0
      go_wp2_with (first
       | ((with_reducible refine lit_build1 hrb ?_ ?_);rfl)
       | ((with_reducible refine lit_slice1 (.tmp 29) Tryz.idsTy (u8s x) hx32 (by omega) ?_ ?_);rfl)
       | ((with_reducible refine lit_append_new (.tmp 24) (.tmp 30) 1 _ Tryz.idsTy hown (u8s x) hx132 hx1 hAk hAb hbs ?_ ?_ ?_);rfl;rfl
          intro v8 w8 ho8 hb8 hg8 hn8))
      have ho9:OwnIds w8 w.heap.size v8 (acc++[x]):=by unfold OwnIds;rw [hk0.out.2.1,hk0.out.2.2.1];exact ho8
      have hacc9:=Lib.hid hk0.out.2.2.2
      clear hown hacc hk0 ho8
      go_roundg f
      case rel=>exact ⟨k+1,acc++[x],by go_num,by omega,ho9,hacc9,hbel.trans hb8⟩
      case measure=>omega
     ·have h2i : ¬ (200:Int)≤(c.toNat:Int):=by omega
      obtain ⟨m,hm⟩ : ∃ m:Nat,(all.length:Int)-1-(c.toNat:Int)%(all.length:Int)=(m:Int):=by
       refine Int.eq_ofNat_of_zero_le ?_
       have:=Int.emod_lt_of_pos (c.toNat:Int) (show (0:Int)<(all.length:Int) by omega)
       omega
      have hmn:=Int.emod_nonneg (c.toNat:Int) h0i
      have hml:m<all.length:=by omega
      obtain ⟨g3,o3,rfl,hg3,hc3⟩:=hata h0
      obtain ⟨x,hx⟩ : ∃ x,all[m]?=some x:=⟨_,List.getElem?_eq_getElem hml⟩
      have hxi:=haok x (List.mem_of_getElem? hx)
      have hlx:(ldvI ⟨g3,o3+m*32,none⟩).run Tryz.prog wr = .ok (.agg (u8s x)) wr:=run_ldvI_at (show World.rangeAt wr g3 (o3+m*32) (u8s x).toList from rangeAt_below (hc3 m x hx) hg3 hbel) hxi
      have hmi:(m:Int)<(all.length:Int):=by omega
      have hLi:(0:Int)<(all.length:Int):=by omega
      have hk0:=key x hxi
      obtain ⟨⟨_,hx32,hx132,hx1⟩,_⟩:=hk0.out
      clear key hx hc3 hata hrb hx0
      generalize all.length=LN at *
      have hw1:IntKind.i64.wrap ((LN:Int)-1)=(LN:Int)-1:=IntWalk.i64_in _ (by omega)
      have hw2:IntKind.i64.wrap ((c.toNat:Int)%(LN:Int))=(c.toNat:Int)%(LN:Int):=IntWalk.i64_in _ (by have:=Int.emod_lt_of_pos (c.toNat:Int) hLi;omega)
      have hw3:IntKind.i64.wrap ((m:Int))=(m:Int):=IntWalk.i64_in _ (by omega)
      go_wp2_with (first
       | ((with_reducible refine lit_slice1 (.tmp 47) Tryz.idsTy (u8s x) hx32 (by omega) ?_ ?_);rfl)
       | ((with_reducible refine lit_append_new (.tmp 32) (.tmp 48) 1 _ Tryz.idsTy hown (u8s x) hx132 hx1 hAk hAb hbs ?_ ?_ ?_);rfl;rfl
          intro v8 w8 ho8 hb8 hg8 hn8))
      have ho9:OwnIds w8 w.heap.size v8 (acc++[x]):=by unfold OwnIds;rw [hk0.out.2.1,hk0.out.2.2.1];exact ho8
      have hacc9:=Lib.hid hk0.out.2.2.2
      clear hown hacc hk0 ho8 hlx hm hw1 hw2 hw3
      go_roundg f
      case rel=>exact ⟨k+1,acc++[x],by go_num,by omega,ho9,hacc9,hbel.trans hb8⟩
      case measure=>omega
    ·obtain rfl:all=[]:=List.length_eq_zero_iff.1 (by omega)
     obtain ⟨x,hx⟩ : ∃ x,c::List.replicate 31 (0:UInt8)=x:=⟨_,rfl⟩
     rw [hx] at hrb hx0
     have hk0:=key x hx0
     obtain ⟨⟨_,hx32,hx132,hx1⟩,_⟩:=hk0.out
     clear key hx hata h0
     go_wp2_with (first
      | ((with_reducible refine lit_build1 hrb ?_ ?_);rfl)
      | ((with_reducible refine lit_slice1 (.tmp 29) Tryz.idsTy (u8s x) hx32 (by omega) ?_ ?_);rfl)
      | ((with_reducible refine lit_append_new (.tmp 24) (.tmp 30) 1 _ Tryz.idsTy hown (u8s x) hx132 hx1 hAk hAb hbs ?_ ?_ ?_);rfl;rfl
         intro v8 w8 ho8 hb8 hg8 hn8))
     have ho9:OwnIds w8 w.heap.size v8 (acc++[x]):=by unfold OwnIds;rw [hk0.out.2.1,hk0.out.2.2.1];exact ho8
     have hacc9:=Lib.hid hk0.out.2.2.2
     clear hown hacc hk0 ho8
     go_roundg f
     case rel=>exact ⟨k+1,acc++[x],by go_num,by omega,ho9,hacc9,hbel.trans hb8⟩
     case measure=>omega
/-- A history such as is gone through. -/
def FewH (h:HisL):Prop:=(h.seeds.length≤24 ∧ ∀ x∈h.seeds,x.refs.length≤10∧x.text.length≤300)∧h.out.length≤10∧h.frm.length≤10∧h.cut.length≤10
set_option maxRecDepth 100000 in
set_option maxHeartbeats 4000000 in
theorem named_calls (h:HisL) (hf:FewH h) (vs vo vf vc:Value) (w:World) (hh:HisOk w vs vo vf vc h) :
 Calls Tryz.prog 9 #[.agg #[vs,vo,vf,vc]] w fun e w'=>(∃ v r,e = .returned v∧OwnIds w' w.heap.size v r∧(∀ x∈r,x.length=32)∧r.length≤24)∧Below w.heap.size w w':=by
 obtain ⟨W1,hW1⟩ : ∃ W1,w.alloc (.cells #[vs,vo,vf,vc] 25)=W1:=⟨_,rfl⟩
 have s1:Blk W1 w.heap.size 25 #[vs,vo,vf,vc]:=by rw [←hW1];exact Blk.new _ _ _
 have b1:Below w.heap.size w W1:=by rw [←hW1];exact (Below.refl _ _).alloc (Nat.le_refl _) _
 have c0:W1.cell? ⟨w.heap.size,0,none⟩=some vs:=s1.cell 0
 have hgr:=Lib.hid (grow_calls h.seeds (Nat.le_trans hf.1.1 (by omega)) hf.1.2 vs W1 (hh.seeds.below b1))
 have hsl:=hf.1.1
 clear hh hf s1
 go_enter Tryz.func9,Tryz.ntmps9
 go_wp2_with (first
  | ((with_reducible refine hgr.out.mono ?_);rintro e w2 ⟨⟨vm,es,vi,ids,rfl,hD,hel,hoi,hil,hok,hap⟩,hb2⟩
     have hm1:(#[vm]:Array Value).size=1:=rfl
     have hm2:(#[vm]:Array Value).all (·.oneCell')=true:=by simp [hD.one]
     obtain ⟨Ai,ci,rfl⟩:=own_form' hoi)
  | ((with_reducible refine lit_new 28 (.tmp 3) (.tmp 9) #[vm] 1 szDSt hm1 hm2 _ ?_ ?_ ?_ ?_)
     ·first | exact hm1 | rfl
     ·rfl
     ·rfl
     intro W3 hb3 hbl3))
 go_ret
 exact ⟨⟨_,ids,rfl,own_low' (own_below hoi hbl3) b1.size,hok,Nat.le_trans hil hsl⟩,bthen b1 b1.size (bthen hb2 hb2.size hbl3)⟩
end Go.Proofs.YtlojebhcemfodaaGreatDoor
namespace Go.Proofs.YtlojebhcemfodaaGreatDoor
open Go.RowKit
attribute [local go_sem ↓] ldvI_eq ldvS_eq ldvT_eq
theorem StoOk.sub {s s':List StL} (h:StoOk s) (hs:s'.Sublist s):StoOk s':=⟨fun x hx=>h.each x (hs.subset hx),h.sorted.sublist hs,Nat.le_trans hs.length_le h.few⟩
theorem DocSt.sub {w w':World} {vm v':Value} {es:List DiL} (h:DocSt w vm es) (p:DiL→Bool) (ho:OwnDits w' 0 v' (es.filter p)) (hs : ∀ k,DocUse vm es k→w'.heap[k]?=w.heap[k]?):DocSt w' v' (es.filter p):=
 ⟨ho,fun e he=>(h.same hs).each e (List.mem_filter.1 he).1,h.ok.sub ((List.filter_sublist).map _)⟩
/-- What Few tells. -/
def Few12R (h:HisL) (w:World) (e:Ending) (w':World):Prop:=(e = .returned (.tuple #[.agg #[.slice none 0 0], .bool false]))∨(∃ vm es,e = .returned (.tuple #[.agg #[vm], .bool true])∧FewH h∧DocSt w' vm es∧es.length≤24)
theorem len_filter_take {α:Type} (p:α→Bool) (l:List α) (k:Nat):((l.take k).filter p).length≤k:=Nat.le_trans (List.length_filter_le _ _) (by rw [List.length_take];exact Nat.min_le_left _ _)
set_option maxRecDepth 100000 in
set_option maxHeartbeats 8000000 in
theorem few12_calls (h:HisL) (vs vo vf vc:Value) (w:World) (hh:HisOk w vs vo vf vc h) :
 Calls Tryz.prog 6 #[.agg #[vs,vo,vf,vc]] w fun e w'=>Few12R h w e w'∧Below w.heap.size w w':=by
 obtain ⟨W1,hW1⟩ : ∃ W1,w.alloc (.cells #[vs,vo,vf,vc] 25)=W1:=⟨_,rfl⟩
 have s1:Blk W1 w.heap.size 25 #[vs,vo,vf,vc]:=by rw [←hW1];exact Blk.new _ _ _
 have b1:Below w.heap.size w W1:=by rw [←hW1];exact (Below.refl _ _).alloc (Nat.le_refl _) _
 obtain ⟨W2,hW2⟩ : ∃ W2,W1.alloc (.cells #[.slice none 0 0] 28)=W2:=⟨_,rfl⟩
 have r2:Blk W2 W1.heap.size 28 #[.slice none 0 0]:=by rw [←hW2];exact Blk.new _ _ _
 have bb2:Below W1.heap.size W1 W2:=by rw [←hW2];exact (Below.refl _ _).alloc (Nat.le_refl _) _
 have b2:=bthen b1 b1.size bb2
 have s2:=s1.below bb2 s1.lt
 have hle1:w.heap.size≤W1.heap.size:=b1.size
 have hlt1:W1.heap.size<W2.heap.size:=r2.lt
 have c0 : ∀ W,Below W2.heap.size W2 W→W.cell? ⟨w.heap.size,0,none⟩=some vs:=fun W hW=>(s2.below hW s2.lt).cell 0
 have c1 : ∀ W,Below W2.heap.size W2 W→W.cell? ⟨w.heap.size,1,none⟩=some vo:=fun W hW=>(s2.below hW s2.lt).cell 1
 have c2 : ∀ W,Below W2.heap.size W2 W→W.cell? ⟨w.heap.size,2,none⟩=some vf:=fun W hW=>(s2.below hW s2.lt).cell 2
 have c3 : ∀ W,Below W2.heap.size W2 W→W.cell? ⟨w.heap.size,3,none⟩=some vc:=fun W hW=>(s2.below hW s2.lt).cell 3
 have c02:=c0 W2 (Below.refl _ _)
 have hfw:Hid (Calls Tryz.prog 23 #[vs, .int .i64 24] W2 fun e w'=>FewB h.seeds 24 e∧Below W2.heap.size W2 w'):=Lib.hid (few_calls11 h.seeds 24 (by omega) vs W2 (hh.seeds.below b2))
 have hgr:=fun (h1:h.seeds.length≤24 ∧ ∀ x∈h.seeds,x.refs.length≤10∧x.text.length≤300) W (hW:Below w.heap.size w W)=>Lib.hid (grow_calls h.seeds (Nat.le_trans h1.1 (by omega)) h1.2 vs W (hh.seeds.below hW))
 have hid:=fun (ids:List Txt) (hok : ∀ x∈ids,x.length=32) (hil:ids.length≤1000) (v:Value) W (hW:Below w.heap.size w W) (hv:Ids W v ids) (ho10:h.out.length≤10)=>Lib.hid (ids12_calls ids hok hil v W hv h.out (by omega) vo (hh.out.below hW))
 have hbS:Tryz.prog.built 28 []=some #[.slice none 0 0]:=by kernel_rfl
 have hrb:=fun W=>run_build (P:=Tryz.prog) W _ _ _ hbS
 have hS0:(#[Value.slice none 0 0]:Array Value).size=1:=rfl
 have hS1:(#[Value.slice none 0 0]:Array Value).all (·.oneCell')=true:=by kernel_rfl
 have hszS : ∀ vm:Value,(Tryz.prog.info? 28).map (·.size)=some (#[vm]:Array Value).size:=fun vm=>szDSt
 obtain ⟨Ao,co,rfl,ho1,ho2,hato⟩:=hh.out
 obtain ⟨Af,cf,rfl,hf1,hf2,hatf⟩:=hh.frm
 obtain ⟨Ac,cc,rfl,hc1,hc2,hatc⟩:=hh.cut
 clear hh hato hatf hatc s1 s2
 obtain ⟨LO,hLO⟩ : ∃ LO,h.out.length=LO:=⟨_,rfl⟩
 obtain ⟨LF,hLF⟩ : ∃ LF,h.frm.length=LF:=⟨_,rfl⟩
 obtain ⟨LC,hLC⟩ : ∃ LC,h.cut.length=LC:=⟨_,rfl⟩
 rw [hLO] at ho1 hid
 rw [hLF] at hf1
 rw [hLC] at hc1
 simp only [hLO] at c1 hW1 ⊢
 simp only [hLF] at c2 hW1 ⊢
 simp only [hLC] at c3 hW1 ⊢
 go_enter Tryz.func6,Tryz.ntmps6
 go_upto_region 2 with (first
  | ((with_reducible refine hfw.out.mono ?_);rintro e w3 ⟨⟨b,rfl,hb⟩,hb3⟩))
 have b3:=bthen b2 b2.size hb3
 have r3:=r2.below hb3 r2.lt
 have d1:=c1 w3 hb3
 have d2:=c2 w3 hb3
 have d3:=c3 w3 hb3
 have d0:=c0 w3 hb3
 clear hfw c02 hW1 hW2
 cases b with
 | false=>
   clear hgr hid c0 c1 c2 c3 hb
   go_wp2_with (first
    | (refine wpList_store_row rfl 28 (.tmp 2) (.tmp 34) rfl W1.heap.size #[.slice none 0 0] rfl rfl _ _ r3 (hszS _) rfl hS1 ?_))
   refine bodyPost_ret (results_row_tmp rfl _ _ W1.heap.size _ _ _ _ rfl (setRow_heap _ _ _ _ _ _ r3) Tryz.underlying28 rfl (hszS _)) rfl ⟨.inl rfl,below_setRow b3 hle1 _⟩
 | true=>
   have hb:=hb rfl
   replace hgr:=hgr hb w3 b3
   by_cases hO:10<LO
   ·have hOi:(10:Int)<(LO:Int):=by omega
    clear hgr hid c0 c1 c2 c3 hb hLO hLF hLC
    go_wp2_with (first
     | (refine wpList_store_row rfl 28 (.tmp 2) (.tmp 34) rfl W1.heap.size #[.slice none 0 0] rfl rfl _ _ r3 (hszS _) rfl hS1 ?_))
    refine bodyPost_ret (results_row_tmp rfl _ _ W1.heap.size _ _ _ _ rfl (setRow_heap _ _ _ _ _ _ r3) Tryz.underlying28 rfl (hszS _)) rfl ⟨.inl rfl,below_setRow b3 hle1 _⟩
   ·have hOi : ¬ (10:Int)<(LO:Int):=by omega
    by_cases hF:10<LF
    ·have hFi:(10:Int)<(LF:Int):=by omega
     clear hgr hid c0 c1 c2 c3 hb hLO hLF hLC
     go_wp2_with (first
      | (refine wpList_store_row rfl 28 (.tmp 2) (.tmp 34) rfl W1.heap.size #[.slice none 0 0] rfl rfl _ _ r3 (hszS _) rfl hS1 ?_))
     refine bodyPost_ret (results_row_tmp rfl _ _ W1.heap.size _ _ _ _ rfl (setRow_heap _ _ _ _ _ _ r3) Tryz.underlying28 rfl (hszS _)) rfl ⟨.inl rfl,below_setRow b3 hle1 _⟩
    ·have hFi : ¬ (10:Int)<(LF:Int):=by omega
     by_cases hC:10<LC
     ·have hCi:(10:Int)<(LC:Int):=by omega
      clear hgr hid c0 c1 c2 c3 hb hLO hLF hLC
      go_wp2_with (first
       | (refine wpList_store_row rfl 28 (.tmp 2) (.tmp 34) rfl W1.heap.size #[.slice none 0 0] rfl rfl _ _ r3 (hszS _) rfl hS1 ?_))
      refine bodyPost_ret (results_row_tmp rfl _ _ W1.heap.size _ _ _ _ rfl (setRow_heap _ _ _ _ _ _ r3) Tryz.underlying28 rfl (hszS _)) rfl ⟨.inl rfl,below_setRow b3 hle1 _⟩
     ·have hCi : ¬ (10:Int)<(LC:Int):=by omega
      have hfin:Hid (∀ (vm:Value) (es:List DiL) (w':World) (e:Ending),e = .returned (.tuple #[.agg #[vm], .bool true])→DocSt w' vm es→es.length≤24→Few12R h w e w'):=Lib.hid fun vm es w' e he h1 h2 => .inr ⟨vm,es,he,⟨hb,by omega,by omega,by omega⟩,h1,h2⟩
      have hsl:=hb.1
      clear hb hLO hLF hLC c0 c2 c3
      go_upto_region 5 with (first
       | ((with_reducible refine hgr.out.mono ?_);rintro e w4 ⟨⟨vm,es,vi,ids,rfl,hD,hel,hoi,hil,hok,hap⟩,hb4⟩
          obtain ⟨Ai,ci,rfl⟩:=own_form' hoi
          obtain ⟨Am,cm,rfl⟩:=own_form' hD.own
          have hm2:(#[Value.slice Am es.length cm]:Array Value).all (·.oneCell')=true:=by simp [Value.oneCell']
          have hm1:(#[Value.slice Am es.length cm]:Array Value).size=1:=rfl)
       | ((with_reducible refine lit_new 28 (.tmp 5) (.tmp 39) #[.slice Am es.length cm] 1 szDSt hm1 hm2 _ ?_ ?_ ?_ ?_)
          ·first | exact hm1 | rfl
          ·rfl
          ·rfl
          intro W5 hb5 hbl5))
      have b4:=bthen b3 b3.size hb4
      have b5:=bthen b4 b4.size hbl5
      have r4:=r3.below hb4 r3.lt
      have r5:=r4.below hbl5 r4.lt
      have hoi5:=own_below hoi hbl5
      have hD5:=hD.below hbl5
      have c15:=c1 W5 (bthen hb3 hb3.size (bthen hb4 hb4.size hbl5))
      have hidc:=fun ho10=>hid ids hok (by omega) _ W5 b5 (SliceAt.of_own (fun e h=>idC_len (hok e h)) hoi5) ho10
      have hids0:Hid (ids.length=ids.length):=Lib.hid rfl
      clear hgr hid c1 d0 d1 d2 d3 r3 r4
      by_cases h0:0<ids.length
      ·have h0b:((ids.length:Int)==0)=false:=by rw [beq_eq_false_iff_ne];omega
       replace hidc:=Lib.hid (hidc (by omega)).out
       go_upto_region 9 with (first
        | ((with_reducible refine hidc.out.mono ?_);rintro e w6 ⟨⟨vg,gone,rfl,hog,hgk, -⟩,hb6⟩
           obtain ⟨Ag,cg,rfl⟩:=own_form' hog)
        | ((with_reducible refine lit_new 28 (.tmp 8) (.tmp 49) #[.slice none 0 0] 1 szDSt hS0 hS1 _ ?_ ?_ ?_ ?_)
           ·first | exact hS0 | rfl
           ·rfl
           ·rfl
           intro W7 hb7 hbl7))
       have hDD:=hD5.below hb6
       have hs6:=hb5.below hb6 hb5.lt
       have r6:=r5.below hb6 r5.lt
       have b6:=bthen b5 b5.size hb6
       have hN1:W1.heap.size<w6.heap.size:=r6.lt
       obtain ⟨N,hN⟩ : ∃ N,w6.heap.size=N:=⟨_,rfl⟩
       rw [hN] at hb7 hbl7 hN1
       have hgone:=SliceAt.of_own (fun e h=>idC_len (hgk e h)) hog
       have hin:=fun W (hW:Below N w6 W) (x:Txt) (hx:x.length=32)=>Lib.hid (in02_calls gone hgk _ x hx W (hgone.below (hN▸hW)))
       obtain ⟨B5,hB5⟩ : ∃ B5,w4.heap.size=B5:=⟨_,rfl⟩
       have hB5N:B5<N:=by rw [←hB5,←hN];exact hs6.lt
       rw [hB5] at hb5 hs6
       obtain ⟨A2,c2',hfe,hm3,hm4,hatm⟩:=hDD.at_
       injection hfe with e1 e2 e3
       subst e1 e3
       have heach:=hDD.each
       have hlen24:es.length≤24:=by omega
       have hL0:OwnDits W7 N (.slice none 0 0) ((es.take 0).filter fun e => !inL gone e.st.id):=by rw [List.take_zero];exact World.ownsRow_nil _ _ _ _
       rw [hN] at hatm
       go_wp2_with (fail)
       clear hog hidc hoi5 hD5 hoi hD r5 c15 hb5 hap b5 b4 hbl5
       go_loopg [9] es.length (fun f vi wr => ∃ (k:Nat) (vL:Value),vi = .int .i64 k∧k+f=es.length∧Blk wr N 28 #[vL]∧OwnDits wr N vL ((es.take k).filter fun e => !inL gone e.st.id)∧Below N w6 wr)
       case atStart=>exact ⟨0,_,rfl,by omega,hb7,hL0,hbl7⟩
       case round=>
        clear hL0 hb7 hbl7
        obtain ⟨k,vL,rfl,hkf,hL,hoL,hbel⟩:=hrel
        have hbel6:Below w6.heap.size w6 wr:=hN▸hbel
        have hsr:=hs6.below hbel6 hs6.lt
        have csr:=hsr.cell 0
        have hNr:N<wr.heap.size:=hL.lt
        cases gk with
        | zero=>
          have hki : ¬ (k:Int)<(es.length:Int):=by omega
          have hke:es.take k=es:=List.take_of_length_le (by omega)
          rw [hke] at hoL
          have hDr:=hDD.below hbel6
          have r7:=r6.below hbel6 r6.lt
          have lL:=run_ldvS hL
          have br:=bthen b6 b6.size hbel6
          have hnoR:=hDr.blk_ne r7 (by decide) (by decide) (by decide)
          have hne7:=own_blk_ne hoL r7 (by decide)
          obtain ⟨AL,cL,rfl⟩:=own_form' hoL
          have hLone:(#[Value.slice AL (es.filter fun e => !inL gone e.st.id).length cL]:Array Value).all (·.oneCell')=true:=by simp [Value.oneCell']
          clear hatm hin heach hke hL
          obtain ⟨fl,hfl⟩ : ∃ fl,(es.filter fun e => !inL gone e.st.id).length=fl:=⟨_,rfl⟩
          have hfl2:=Lib.hid hfl
          rw [hfl] at lL hLone hoL
          clear hfl
          go_wp2_with (first
           | (refine wpList_store_row rfl 28 (.tmp 2) (.tmp 77) rfl W1.heap.size #[.slice AL fl cL] rfl rfl _ _ r7 (hszS _) rfl hLone ?_))
          refine bodyPost_ret (results_row_tmp rfl _ _ W1.heap.size _ _ _ _ rfl (setRow_heap _ _ _ _ _ _ r7) Tryz.underlying28 rfl (hszS _)) rfl ⟨hfin.out _ (es.filter fun e => !inL gone e.st.id) _ _ rfl ((hDr.row hnoR _).sub _ (own_down (own_row hoL hN1 _) (Nat.zero_le _)) fun _ _=>rfl) (Nat.le_trans (List.length_filter_le _ _) hlen24),below_setRow br hle1 _⟩
        | succ f=>
          have hki:(k:Int)<(es.length:Int):=by omega
          have hkl:k<es.length:=by omega
          obtain ⟨ga,oa,rfl,hga,hca⟩:=hatm (by omega)
          obtain ⟨x,hx⟩ : ∃ x,es[k]?=some x:=⟨_,List.getElem?_eq_getElem hkl⟩
          have hxok:=heach x (List.mem_of_getElem? hx)
          have hxi:=hxok.id
          have hxr : ∀ W,Below N w6 W→W.rangeAt ga (oa+k*105) (ditC x):=fun W hW=>by
           rw [←hN] at hW hga
           exact rangeAt_below (hca k x hx) hga hW
          have hl1:=run_ldvI_at (dit_id (hxr wr hbel)) hxi
          have hin1:=hin wr hbel x.st.id hxi
          have hmore:(es.take (k+1)).filter (fun e => !inL gone e.st.id)=(es.take k).filter (fun e => !inL gone e.st.id)++(if inL gone x.st.id=false then [x] else []):=by
           rw [List.take_add_one,hx,List.filter_append]
           congr 1
           simp [List.filter_cons]
          have hacl:=len_filter_take (fun e => !inL gone e.st.id) es k
          obtain ⟨acc,hacc⟩ : ∃ acc,(es.take k).filter (fun e => !inL gone e.st.id)=acc:=⟨_,rfl⟩
          rw [hacc] at hoL hmore hacl
          generalize inL gone x.st.id=bi at *
          have hx105:(ditC x).toArray.size=105:=by rw [List.size_toArray,ditC_len hxok]
          have hx1:(ditC x).toArray.size=1*105:=hx105
          have hxone : ∀ u∈(ditC x).toArray.toList,u.oneCell'=true:=by rw [List.toList_toArray];exact ditC_one hxok
          have ft : ∀ (W:World),Below N w6 W→(ldvT ⟨ga,oa+k*105,none⟩).run Tryz.prog W = .ok (.agg (ditC x).toArray) W:=fun W hW=>run_loadVar_mid (P:=Tryz.prog) W ga (oa+k*105) 62 (ditC x) _ (hxr W hW) Tryz.underlying62 rfl (by rw [ditC_len hxok];exact szDit)
          clear hin heach hx hca hatm hxr hacc hDD
          obtain ⟨XC,hXC⟩ : ∃ XC,(ditC x).toArray=XC:=⟨_,rfl⟩
          rw [hXC] at hx105 hx1 hxone
          simp only [hXC] at ft
          replace hXC:=Lib.hid hXC
          cases bi with
          | true=>
            replace hmore:=Lib.hid (hmore.trans (List.append_nil _))
            clear ft
            go_wp2_with (first
             | ((with_reducible refine hin1.out.mono ?_);rintro e w8 ⟨rfl,hb8⟩))
            have hL8:=hL.below hb8 hL.lt
            have hoL8:=own_below hoL hb8
            have hb68:=hbel.trans (hb8.mono (Nat.le_of_lt hNr))
            clear hl1 hin1 hL hoL csr
            go_roundg f
            case rel=>exact ⟨k+1,vL,by go_num,by omega,hL8,by rw [hmore.out];exact hoL8,hb68⟩
            case measure=>omega
          | false=>
            replace hmore:=Lib.hid hmore
            go_upto_region 14 with (first
             | ((with_reducible refine hin1.out.mono ?_);rintro e w8 ⟨rfl,hb8⟩))
            have hL8:=hL.below hb8 hL.lt
            have hoL8:=own_below hoL hb8
            have hb68:=hbel.trans (hb8.mono (Nat.le_of_lt hNr))
            have hN8:N<w8.heap.size:=hL8.lt
            have hszN:=Nat.le_of_lt hN8
            have hs8:=hsr.below hb8 hsr.lt
            obtain ⟨AL,cL,rfl⟩:=own_form' hoL8
            have hpre:=preOk2 (i:=8) (j:=10) hoL8 hL8 (by decide)
            have hrB:=rows2 (i:=8) (j:=10) (p:=fun w=>World.ownsRow w N 62 105 (.slice AL acc.length cL) acc.length (rowsOf ditC acc)) (q:=fun w=>Blk w N 28 #[.slice AL acc.length cL]) (v := .slice AL acc.length cL) (fun k hk=>(World.ownsRow.lt hoL8 k hk).1) (Nat.le_refl N)
            have hAk:acc.length+1≤9223372036854775807:=by omega
            have hAb:(acc.length+1)*232≤140737488355328:=by omega
            have hwas : ∀ W,Blk W N 28 #[.slice AL acc.length cL]→W.cell? ⟨N,0,none⟩=some (.slice AL acc.length cL):=fun W h=>h.cell 0
            have hscell : ∀ W,Below N w8 W→W.cell? ⟨B5,0,none⟩=some (.slice (some ⟨ga,oa,none⟩) es.length cm):=fun W hW=>(Blk.below hs8 hW hB5N).cell 0
            clear hl1 hin1 hL hoL csr hsr hs8
            refine wp_region_goP 11 [(8,(Value.slice AL acc.length cL).ownBlock,fun w=>World.ownsRow w N 62 105 (.slice AL acc.length cL) acc.length (rowsOf ditC acc)),(10,some N,fun w=>Blk w N 28 #[.slice AL acc.length cL])] hpre (by kernel_rfl) (by kernel_rfl) (by kernel_rfl) (by kernel_rfl) ?_
            simp only [exSp]
            iterate 11 apply Exists.intro
            repeat
             first
              | ((with_reducible apply lx_ex)
                 ·(go_simp;done)
                 apply Exists.intro
                 apply And.intro
                 ·apply Eq.refl
                 apply And.intro
                 ·intro W hF hD
                  first
                   | (have hf:=(far_drew hF).below hszN hrB
                      have q0:=hscell W hf
                      have q1:=ft W (hb68.trans hf)
                      have q2:=hwas W (hD.was 1 rfl (by kernel_rfl))
                      go_simp
                      rfl)
                   | (have hf:=(far_drew hF).below hszN hrB
                      have q0:=hscell W hf
                      have q1:=ft W (hb68.trans hf)
                      go_simp
                      rfl)
                 simp only [Act.put,List.setIfInBounds_toArray,List.set_cons_zero,List.set_cons_succ])
              | ((with_reducible apply lx_pass)
                 ·(first | rfl | (go_simp;done))
                 ·apply Eq.refl
                 simp only [Act.put,List.setIfInBounds_toArray,List.set_cons_zero,List.set_cons_succ])
              | (first | (with_reducible apply lx_move') | (with_reducible apply lx_assign')
                 ·apply Eq.refl
                 apply Exists.intro
                 apply And.intro
                 ·(go_simp;rfl)
                 simp only [Act.put,List.setIfInBounds_toArray,List.set_cons_zero,List.set_cons_succ])
              | ((with_reducible apply lx_slice1 Tryz.ditTy (fun cs=>cs=XC) (by omega))
                 ·apply Eq.refl
                 apply Exists.intro
                 apply And.intro
                 ·(go_simp;rfl)
                 refine ⟨fun W hF hD=>?_,?_⟩
                 ·exact ⟨XC,rfl,hx105,rfl⟩
                 intro v
                 simp only [Act.put,List.setIfInBounds_toArray,List.set_cons_zero,List.set_cons_succ])
              | ((with_reducible apply lx_append1 Tryz.ditTy N (.slice AL acc.length cL) acc.length (rowsOf ditC acc) (fun xs=>xs=rowsOf ditC acc++XC.toList) hAk hAb)
                 ·exact hszN
                 ·first | exact List.Mem.head _ | exact List.Mem.tail _ (List.Mem.head _) | exact List.Mem.tail _ (List.Mem.tail _ (List.Mem.head _)) | exact List.Mem.tail _ (List.Mem.tail _ (List.Mem.tail _ (List.Mem.head _)))
                 ·apply Eq.refl
                 apply Exists.intro
                 apply Exists.intro
                 apply And.intro
                 ·(go_simp;rfl)
                 apply And.intro
                 ·(go_simp;rfl)
                 refine ⟨rfl,fun W hF hD=>?_,?_⟩
                 ·obtain ⟨F,g5,cs,rfl,_,hk5,rfl⟩:=hD.at 0 rfl (by kernel_rfl)
                  exact ⟨g5,_,rfl,hk5,hx105,hxone,rfl⟩
                 intro v
                 simp only [Act.put,List.setIfInBounds_toArray,List.set_cons_zero,List.set_cons_succ])
              | ((with_reducible apply lx_put N 0 #[.slice AL acc.length cL] 28)
                 ·exact (fun _=>by kernel_rfl)
                 ·exact (Nat.zero_lt_one)
                 ·first | exact List.Mem.head _ | exact List.Mem.tail _ (List.Mem.head _) | exact List.Mem.tail _ (List.Mem.tail _ (List.Mem.head _)) | exact List.Mem.tail _ (List.Mem.tail _ (List.Mem.tail _ (List.Mem.head _)))
                 ·apply Eq.refl
                 apply Exists.intro
                 apply Exists.intro
                 apply And.intro
                 ·(go_simp;rfl)
                 apply And.intro
                 ·(go_simp;rfl)
                 refine ⟨rfl,fun W hF hD=>?_,?_⟩
                 ·obtain ⟨F,xs,_,hv,_⟩:=hD.at 0 rfl (by kernel_rfl)
                  obtain ⟨A6,c6,rfl⟩:=own_form' hv
                  exact ⟨_,_,_,rfl⟩)
            refine lxP_nil ?_ fun w9 hF9 hD9=>?_
            ·exact List.nodup_nil
            obtain ⟨_,hg9,hb9⟩:=hD9 _ (.head _)
            obtain ⟨_,xs,rfl,hv9,_⟩:=hD9 _ (.tail _ (.head _))
            have hb69:=hb68.trans (hF9.below hszN hrB)
            clear hD9 hpre hrB hF9 ft hwas hscell hL8 hoL8
            have hkey : ∀ v,World.ownsRow w9 N 62 105 v (acc.length+1) (rowsOf ditC acc++XC.toList)→OwnDits w9 N v (acc++[x]):=fun v h=>by
             unfold OwnDits
             rw [List.length_append,rowsOf_append,rowsOf_one]
             rw [←hXC.out,List.toList_toArray] at h
             exact h
            have hoL9:=hkey _ hv9
            go_wp2_with (fail)
            go_roundg f
            case rel=>exact ⟨k+1,_,by go_num,by omega,hb9,by rw [hmore.out];exact hoL9,hb69⟩
            case measure=>omega
      ·obtain rfl:ids=[]:=List.length_eq_zero_iff.1 (by omega)
       have lS:=run_ldvS hb5
       have hnoR:=hD5.blk_ne r5 (by decide) (by decide) (by decide)
       clear hidc h0 hoi5 c15
       go_wp2_with (first
        | (refine wpList_store_row rfl 28 (.tmp 2) (.tmp 44) rfl W1.heap.size #[.slice Am es.length cm] rfl rfl _ _ r5 (hszS _) rfl hm2 ?_))
       refine bodyPost_ret (results_row_tmp rfl _ _ W1.heap.size _ _ _ _ rfl (setRow_heap _ _ _ _ _ _ r5) Tryz.underlying28 rfl (hszS _)) rfl ⟨hfin.out _ es _ _ rfl (hD5.row hnoR _) (by omega),below_setRow b5 hle1 _⟩
end Go.Proofs.YtlojebhcemfodaaGreatDoor
namespace Go.Proofs.YtlojebhcemfodaaGreatDoor
open Go.RowKit
def ldvH (p:Addr):Sem Value:=loadVar 25 p
theorem ldvH_eq (p:Addr):loadVar 25 p=ldvH p:=rfl
theorem run_ldvH {w:World} {g:Nat} {a b c d:Value} (h:Blk w g 25 #[a,b,c,d]):(ldvH ⟨g,0,none⟩).run Tryz.prog w = .ok (.agg #[a,b,c,d]) w:=run_loadVar_row w g _ _ _ _ _ h Tryz.underlying25 rfl (by kernel_rfl)
/-- What Few tells, with one letter for whether it is gone through. -/
def Few12B (h:HisL) (e:Ending) (w':World):Prop := ∃ A n c b,e = .returned (.tuple #[.agg #[.slice A n c], .bool b])∧(b=true → ∃ es,FewH h∧DocSt w' (.slice A n c) es∧es.length≤24)
theorem Few12R.b {h:HisL} {w w':World} {e:Ending} (hr:Few12R h w e w'):Few12B h e w':=by
 rcases hr with rfl | ⟨vm,es,rfl,h1,h2,h3⟩
 ·exact ⟨none,0,0,false,rfl,fun h=>by cases h⟩
 ·obtain ⟨A,c,rfl⟩:=own_form' h2.own
  exact ⟨A,_,c,true,rfl,fun _=>⟨es,h1,h2,h3⟩⟩
end Go.Proofs.YtlojebhcemfodaaGreatDoor
namespace Go.Proofs.YtlojebhcemfodaaGreatDoor
open Go.RowKit
section
variable {S:List StL} {cut cut' ini ini':List Txt}
theorem kind3_obj {x:Txt} (h:kindS S x=3) : ∃ o,objS S x=some o∧o.kind=3:=by
 unfold kindS at h
 unfold objS
 cases hg:getS S x with
 | none=>rw [hg] at h;simp at h
 | some s=>
   rw [hg] at h
   simp only at h ⊢
   cases hd:decO s.text with
   | none=>rw [hd] at h;simp at h
   | some o=>rw [hd] at h;exact ⟨o,rfl,h⟩
theorem link_next {o:ObjL} {x y:Txt} {l:LinkL} (ho:objS S x=some o) (hl:l∈linksL (cutO cut x o)) (he:l.id=y):y∈nextS S cut x:=by
 unfold nextS
 rw [ho]
 exact List.mem_map.2 ⟨l,hl,he⟩
theorem end_rch : ∀ (f:Nat) {x e:Txt},Rch S cut ini x→endS S f x=some e→Rch S cut ini e
 | 0,x,e,_,h=>by cases h
 | f+1,x,e,hx,h=>by
   unfold endS at h
   cases ho:objS S x with
   | none=>rw [ho] at h;cases h
   | some o=>
     rw [ho] at h
     simp only at h
     by_cases hk:o.kind=4
     ·rw [if_pos hk] at h
      refine end_rch f (hx.step (link_next ho (l:=⟨o.target,o.of_⟩) ?_ rfl)) h
      unfold cutO
      rw [if_neg (fun q=>by rw [hk] at q;exact absurd q.1 (by decide))]
      unfold linksL
      rw [if_neg (by rw [hk];decide),if_neg (by rw [hk];decide),if_pos hk]
      exact List.mem_singleton.2 rfl
     ·rw [if_neg hk] at h
      cases h
      exact hx
theorem par_next {x y:Txt} (hk:kindS S x=3) (hc:inL cut x=false) (hy:y∈parS S x):y∈nextS S cut x:=by
 obtain ⟨o,ho,h3⟩:=kind3_obj hk
 unfold parS at hy
 rw [ho] at hy
 refine link_next ho (l:=⟨y,3⟩) ?_ rfl
 unfold cutO
 rw [if_neg (fun q=>by rw [hc] at q;exact absurd q.2 (by decide))]
 unfold linksL
 rw [if_neg (by rw [h3];decide),if_pos h3]
 exact List.mem_cons_of_mem _ (List.mem_map.2 ⟨y,hy,rfl⟩)
theorem offerS_mem {seen:List Txt} {p x:Txt} (h:x∈offerS S seen p):x∈seen∨x=p:=by
 unfold offerS at h
 split at h
 ·rcases List.mem_append.1 h with h | h
  ·exact .inl h
  ·exact .inr (List.mem_singleton.1 h)
 ·exact .inl h
theorem ends_rch : ∀ (l:List Txt) {seen:List Txt},(∀ x∈l,Rch S cut ini x)→(∀ x∈seen,Rch S cut ini x) → ∀ x∈l.foldl (offerE S) seen,Rch S cut ini x
 | [],seen,_,hs=>hs
 | p::l,seen,hl,hs=>by
   refine ends_rch l (fun x hx=>hl x (List.mem_cons_of_mem _ hx)) fun x hx=>?_
   unfold offerE at hx
   cases he:endS S (S.length+1) p with
   | none=>rw [he] at hx;exact hs x hx
   | some e=>
     rw [he] at hx
     rcases offerS_mem hx with h | h
     ·exact hs x h
     ·rw [h]
      exact end_rch _ (hl p List.mem_cons_self) he
/-- What holds of what is seen, and told: reached; a child was told ahead. -/
structure WalkJ (S:List StL) (cut ini E seen out:List Txt):Prop where
 i:WalkI S seen out
 r : ∀ x∈seen,Rch S cut ini x
 s : ∀ x∈seen,x∈E ∨ ∃ y∈out,x∈parS S y
 o : ∀ (i:Nat) (x:Txt),out[i]?=some x→x∈E ∨ ∃ (k:Nat) (y:Txt),k<i∧out[k]?=some y∧x∈parS S y
theorem WalkJ.start : WalkJ S cut ini (endsL S ini) (endsL S ini) []:=⟨WalkI.start ini,ends_rch ini (fun x hx => .base hx) (fun x hx=>by simp at hx),fun x hx => .inl hx,fun i x hx=>by simp at hx⟩
theorem WalkJ.step {E seen out:List Txt} (h:WalkJ S cut ini E seen out) {n:Txt} (hn:n∈leftW seen out):WalkJ S cut ini E (if inL cut n=true then seen else offerL S seen (parS S n)) (out++[n]):=by
 have hns:=(mem_left.1 hn).1
 have hnew : ∀ x∈(if inL cut n=true then seen else offerL S seen (parS S n)),x∈seen∨(inL cut n=false∧x∈parS S n):=by
  intro x hx
  split at hx
  ·exact .inl hx
  ·rename_i hc
   rcases (offerL_law (S:=S) (parS S n) h.i.nd h.i.k3).2.2.2 x hx with h1 | h1
   ·exact .inl h1
   ·exact .inr ⟨by simpa using hc,h1⟩
 refine ⟨h.i.step hn,fun x hx=>?_,fun x hx=>?_,fun i x hx=>?_⟩
 ·rcases hnew x hx with h1 | ⟨hc,h1⟩
  ·exact h.r x h1
  ·exact (h.r n hns).step (par_next (h.i.k3 n hns) hc h1)
 ·rcases hnew x hx with h1 | ⟨_,h1⟩
  ·rcases h.s x h1 with h2 | ⟨y,hy,h2⟩
   ·exact .inl h2
   ·exact .inr ⟨y,List.mem_append_left _ hy,h2⟩
  ·exact .inr ⟨n,List.mem_append_right _ (List.mem_singleton.2 rfl),h1⟩
 ·by_cases hi:i<out.length
  ·rw [List.getElem?_append_left hi] at hx
   rcases h.o i x hx with h1 | ⟨k,y,hk,hy,h1⟩
   ·exact .inl h1
   ·exact .inr ⟨k,y,hk,by rw [List.getElem?_append_left (by omega)];exact hy,h1⟩
  ·have hil:i<(out++[n]).length:=(List.getElem?_eq_some_iff.1 hx).1
   have hie:i=out.length:=by rw [List.length_append,List.length_singleton] at hil;omega
   subst hie
   have hxn:x=n:=by simpa using hx.symm
   subst hxn
   rcases h.s x hns with h1 | ⟨y,hy,h1⟩
   ·exact .inl h1
   ·obtain ⟨k,hk,he⟩:=List.mem_iff_getElem.1 hy
    exact .inr ⟨k,y,hk,by rw [List.getElem?_append_left hk,List.getElem?_eq_getElem hk,he],h1⟩
end
end Go.Proofs.YtlojebhcemfodaaGreatDoor
namespace Go.Proofs.YtlojebhcemfodaaGreatDoor
open Go.RowKit
attribute [local go_sem ↓] ldvI_eq ldvS_eq
section
variable {w:World} {vm:Value} {es:List DiL}
end
end Go.Proofs.YtlojebhcemfodaaGreatDoor
namespace Go.Proofs.YtlojebhcemfodaaGreatDoor
open Go.RowKit
attribute [local go_sem ↓] ldvI_eq ldvS_eq ldvH_eq
theorem lit_neq_id {ops:Array Oper} {rest:List Oper} {a:Act} {w:World} {Q:Exit→Act→World→Prop} {d:Option Tmp} {rt t':TypeId} {pos:String} {af:Array Edge} (x y:Operand) (p:List UInt8) (hp:p.length=32) (hx:a.eval x = .agg (u8s p)) (hy:a.eval y = .agg (u8s p))
 (h:wpList Tryz.prog ops Q rest (a.put d (.bool false)) w):wpList Tryz.prog ops Q ({ dst:=d,op := .binOp .neq 42 x y t',type:=rt,pos:=pos,after:=af,guard:=none }::rest) a w:=
 wpList_plain rfl fun _ hK=>by
  unfold Oper.wp execOp
  simp only [hx,hy,Sem.run_bind,run_eqGuard_agg _ _ _ _ _ _ _ Tryz.eqGuardType42,run_neq_id w p p hp hp,Result.andThen_ok,decide_true,Bool.not_true]
  exact hK _ _ h
theorem end_is (S:List StL) (f:Nat) (n:Txt) (hn:n.length=32) : ∃ m bo,m.length=32∧endV (endS S f n) = .tuple #[.agg (u8s m), .bool bo]:=by
 cases h:endS S f n with
 | none=>exact ⟨noId,false,noId_len,rfl⟩
 | some m=>exact ⟨m,true,endS_ok f n m hn h,rfl⟩
set_option maxRecDepth 100000 in
set_option maxHeartbeats 8000000 in
theorem graphReaches_calls (h:HisL) (vs vo vf vc:Value) (w:World) (hK:TabK w) (hh:HisOk w vs vo vf vc h) :
 Calls Tryz.prog 3 #[.agg #[vs,vo,vf,vc]] w fun e w'=>e = .returned (.bool true)∧Below w.heap.size w w':=by
 obtain ⟨W1,hW1⟩ : ∃ W1,w.alloc (.cells #[vs,vo,vf,vc] 25)=W1:=⟨_,rfl⟩
 have s1:Blk W1 w.heap.size 25 #[vs,vo,vf,vc]:=by rw [←hW1];exact Blk.new _ _ _
 have b1:Below w.heap.size w W1:=by rw [←hW1];exact (Below.refl _ _).alloc (Nat.le_refl _) _
 have hld:=fun W (hW:Below W1.heap.size W1 W)=>run_ldvH (s1.below hW s1.lt)
 have hld1:=hld W1 (Below.refl _ _)
 have c2 : ∀ W,Below W1.heap.size W1 W→W.cell? ⟨w.heap.size,2,none⟩=some vf:=fun W hW=>(s1.below hW s1.lt).cell 2
 have c3 : ∀ W,Below W1.heap.size W1 W→W.cell? ⟨w.heap.size,3,none⟩=some vc:=fun W hW=>(s1.below hW s1.lt).cell 3
 have hfew:=Lib.hid ((few12_calls h vs vo vf vc W1 (hh.below b1)).mono fun e w' (q:Few12R h W1 e w'∧Below W1.heap.size W1 w')=>(⟨q.1.b,q.2⟩:Few12B h e w'∧Below W1.heap.size W1 w'))
 have hkn:=fun W (hW:Below w.heap.size w W)=>Lib.hid (knows_calls12 W (hK.below hW))
 have hnm:=fun (hf:FewH h) W (hW:Below w.heap.size w W)=>Lib.hid (named_calls h hf vs vo vf vc W (hh.below hW))
 have hid:=fun (ids:List Txt) (hok : ∀ x∈ids,x.length=32) (hil:ids.length≤24) (v:Value) W (hW:Below w.heap.size w W) (hv:Ids W v ids) (l:Txt) (hl10:l.length≤10) (vl:Value) (hvl:SliceAt w 1 byC vl l)=>Lib.hid (ids12_calls ids hok (Nat.le_trans hil (by omega)) v W hv l (Nat.le_trans hl10 (by omega)) vl (hvl.below hW))
 have hcut:=hh.cut
 have hfrm:=hh.frm
 clear hh s1
 go_enter Tryz.func3,Tryz.ntmps3
 go_upto_region 2 with (first
  | ((with_reducible refine hfew.out.mono ?_);rintro e w2 ⟨⟨Am,nm,cm,b,rfl,hb⟩,hb2⟩
     have hm2:(#[Value.slice Am nm cm]:Array Value).all (·.oneCell')=true:=by simp [Value.oneCell']
     have hm1:(#[Value.slice Am nm cm]:Array Value).size=1:=rfl)
  | ((with_reducible refine lit_new 28 (.tmp 3) (.tmp 23) #[.slice Am nm cm] 1 szDSt hm1 hm2 _ ?_ ?_ ?_ ?_)
     ·first | exact hm1 | rfl
     ·rfl
     ·rfl
     intro W3 hb3 hbl3))
 have b13:=bthen hb2 hb2.size hbl3
 have b3:=bthen b1 b1.size b13
 have hkn3:=hkn W3 b3
 clear hfew hld1 hW1
 cases b with
 | false=>
   clear hb hkn hnm hid hld c2 c3
   go_wp2_with (first
    | ((with_reducible refine hkn3.out.mono ?_);rintro e w5 ⟨rfl,hb5⟩))
   go_ret
   exact ⟨rfl,bthen b3 b3.size hb5⟩
 | true=>
   obtain ⟨es,hFH,hD2,hel⟩:=hb rfl
   clear hb
   have hD3:=hD2.below hbl3
   have hs3:=fun W (hW:Below W3.heap.size W3 W)=>run_ldvS (hb3.below hW hb3.lt)
   have hs33:=hs3 W3 (Below.refl _ _)
   have h10f:=hFH.2.2.1
   have h10c:=hFH.2.2.2
   have hof3:=Lib.hid (of_calls11 hD3 (by omega) (hK.below b3))
   obtain ⟨Af,cf,rfl,_⟩:=id hfrm
   obtain ⟨Ac,cc,rfl,_⟩:=id hcut
   clear hkn3
   go_upto_region 10 with (first
    | ((with_reducible refine hof3.out.mono ?_);rintro e w4 ⟨⟨p,vl,rfl,hp4,hS4⟩,hb4⟩
       have b4:=bthen b3 b3.size hb4
       have b14:=bthen b13 b13.size hb4
       have hld4:=hld w4 b14
       have hnm4:=hnm hFH w4 b4)
    | ((with_reducible refine hnm4.out.mono ?_);rintro e w5 ⟨⟨vi,ids,rfl,hoi,hiok,hil⟩,hb5⟩
       have b5:=bthen b4 b4.size hb5
       have b15:=bthen b14 b14.size hb5
       have d2:=c2 w5 b15
       have hi5:=fun W (hW:Below w5.heap.size w5 W)=>(SliceAt.of_own (fun e h=>idC_len (hiok e h)) hoi).below hW
       have hid5:=hid ids hiok hil _ w5 b5 (hi5 w5 (Below.refl _ _)) h.frm h10f _ hfrm
       obtain ⟨Ai,ci,rfl⟩:=own_form' hoi)
    | ((with_reducible refine hid5.out.mono ?_);rintro e w6 ⟨⟨vfr,from_,rfl,hofr,hfok,hfl0⟩,hb6⟩
       have hfl10:from_.length≤10:=by omega
       clear hfl0
       have b6:=bthen b5 b5.size hb6
       have d3:=c3 w6 (bthen b15 b15.size hb6)
       have hid6:=hid ids hiok hil _ w6 b6 (hi5 w6 hb6) h.cut h10c _ hcut
       obtain ⟨Afr,cfr,rfl⟩:=own_form' hofr)
    | ((with_reducible refine hid6.out.mono ?_);rintro e w7 ⟨⟨vcu,cut,rfl,hocu,hcok,hcl0⟩,hb7⟩
       have hcl10:cut.length≤10:=by omega
       clear hcl0
       obtain ⟨Acu,ccu,rfl⟩:=own_form' hocu))
   have b7:=bthen b6 b6.size hb7
   have bw7:=bthen (bthen hb5 hb5.size hb6) (bthen hb5 hb5.size hb6).size hb7
   have b37:=bthen hb4 hb4.size bw7
   have lS:=fun W (hW:Below w7.heap.size w7 W)=>hs3 W (bthen b37 b37.size hW)
   have lS7:=lS w7 (Below.refl _ _)
   have hD7:=hD3.below b37
   have hS7:=hS4.below bw7
   have hfrI:=SliceAt.of_own (fun e h=>idC_len (hfok e h)) (own_below hofr hb7)
   have hcuI:=SliceAt.of_own (fun e h=>idC_len (hcok e h)) hocu
   have hK7:=hK.below b7
   have hll:(es.map (·.st)).length=es.length:=List.length_map _
   clear hs3 hs33 hof3 hD3 hD2 hS4 hp4 hid hid5 hid6 hnm4 hld4 hi5 hoi hofr hocu hb4 hb5 hb6 hb7 b13 hbl3 hb2 b4 b14 b5 b15 b6 b37 bw7 c2 c3 d2 d3 hkn hcut hfrm hFH hK hiok hb3 hnm hld h10f h10c
   have hokI : ∀ x∈from_,x.length=32:=hfok
   have k1:=Lib.hid (graReach_calls hS7 from_ cut hfok hcok (by rw [hll];omega) (by omega) _ _ hfrI hcuI)
   have k2:=fun W (hW:Below w7.heap.size w7 W)=>Lib.hid (docReach_calls (hD7.below hW) from_ cut hfok hcok (by omega) _ _ (hfrI.below hW) (hcuI.below hW))
   go_upto_region 12 with (first
    | ((with_reducible refine k1.out.mono ?_);rintro e w8 ⟨va,vb,la,lb,rfl,ra,rb,oa,ob,aok,bok, -, -,hb8⟩
       have lS8:=lS w8 hb8
       have k28:=k2 w8 hb8)
    | ((with_reducible refine k28.out.mono ?_);rintro e w9 ⟨vc2,vd2,lc,ld,rfl,rc,rd,oc,od,hb9⟩))
   obtain rfl:=rc.one ra
   obtain rfl:=rd.one rb
   have b79:=bthen hb8 hb8.size hb9
   have q1:=Lib.hid (refSame02_calls lc aok _ _ w9 (SliceAt.of_own (fun e h=>idC_len (aok e h)) (own_below oa hb9)) (SliceAt.of_own (fun e h=>idC_len (aok e h)) oc))
   have q2:=fun W (hW:Below w9.heap.size w9 W)=>Lib.hid (refSame02_calls ld bok _ _ W ((SliceAt.of_own (fun e h=>idC_len (bok e h)) (own_below ob hb9)).below hW) ((SliceAt.of_own (fun e h=>idC_len (bok e h)) od).below hW))
   clear k1 k28 k2 ra rb rc rd oa ob oc od lS8
   go_upto_region 14 with (first
    | ((with_reducible refine q1.out.mono ?_);rintro e w10 ⟨rfl,hb10⟩
       have q20:=q2 w10 hb10)
    | ((with_reducible refine q20.out.mono ?_);rintro e w11 ⟨rfl,hb11⟩))
   clear q1 q2 q20 aok bok
   have b711:=bthen b79 b79.size (bthen hb10 hb10.size hb11)
   have b011:=bthen b7 b7.size b711
   have hS11:=hS7.below b711
   have hD11:=hD7.below b711
   have hfr11:=hfrI.below b711
   have lS11:=fun W (hW:Below w11.heap.size w11 W)=>lS W (bthen b711 b711.size hW)
   have hKn:=fun W (hW:Below w11.heap.size w11 W)=>Lib.hid (knows_calls12 W ((hK7.below b711).below hW))
   have hzi:=zeroIdV
   obtain ⟨Az,cz,hze,hz1,hz2,hat⟩:=hfr11
   have hat2:0<from_.length → ∃ g o,Afr=some ⟨g,o,none⟩∧g<w11.heap.size ∧ ∀ (i:Nat) (x:Txt),from_[i]?=some x→w11.rangeAt g (o+i*32) (idC x):=by
    injection hze with e1 e2 e3
    subst e1
    subst e3
    intro h0
    obtain ⟨g,o,h1,h2,h3⟩:=hat h0
    exact ⟨g,o,h1,h2,h3⟩
   clear hat hze hz1 hz2 lS7 hS7 hD7 hK7 hfrI hcuI lS hb8 hb9 hb10 hb11 b79 b711 b7
   go_wp2_with (fail)
   go_loopg [15] from_.length (fun f vi wr => ∃ k:Nat,vi = .int .i64 k∧k+f=from_.length∧Below w11.heap.size w11 wr)
   case atStart=>exact ⟨0,rfl,by omega,Below.refl _ _⟩
   case round=>
    obtain ⟨k,rfl,hkf,hbel⟩:=hrel
    have hbs:=hbel.size
    cases gk with
    | zero=>
      have hki : ¬ (k:Int)<(from_.length:Int):=by omega
      have hknr:=hKn wr hbel
      clear hat2 hS11 hD11 lS11 hKn
      go_wp2_with (first
       | ((with_reducible refine hknr.out.mono ?_);rintro e w12 ⟨rfl,hb12⟩))
      go_ret
      exact ⟨rfl,bthen b011 b011.size (bthen hbel hbs hb12)⟩
    | succ f=>
      have hki:(k:Int)<(from_.length:Int):=by omega
      obtain ⟨ga,oa,rfl,hga,hca⟩:=hat2 (by omega)
      obtain ⟨x,hx⟩ : ∃ x,from_[k]?=some x:=⟨_,List.getElem?_eq_getElem (by omega)⟩
      have hxi:=hokI x (List.mem_of_getElem? hx)
      have hlx : ∀ W,Below w11.heap.size w11 W→(ldvI ⟨ga,oa+k*32,none⟩).run Tryz.prog W = .ok (.agg (u8s x)) W:=fun W hW=>by
       have hr:=rangeAt_below (hca k x hx) hga hW
       exact run_ldvI_at (show World.rangeAt W ga (oa+k*32) (u8s x).toList from hr) hxi
      have hlx0:=hlx wr hbel
      have he1:=Lib.hid (graEnd_calls (hS11.below hbel) x hxi)
      have he2:=fun W (hW:Below w11.heap.size w11 W)=>docEnd_calls (hD11.below hW) x hxi
      rw [hll] at he1
      obtain ⟨M,bo,hmi,hE⟩:=end_is (es.map (·.st)) (es.length+1) x hxi
      rw [hE] at he1
      simp only [hE] at he2
      have hm32:(u8s M).size=32:=by rw [u8s_size,hmi]
      have hm1:=u8s_one M
      have hlm : ∀ W g,Blk W g 42 (u8s M)→(ldvI ⟨g,0,none⟩).run Tryz.prog W = .ok (.agg (u8s M)) W:=fun W g h=>run_ldvI_at (range_blk h) hmi
      clear hx hca hat2 hE hS11 hD11 hKn
      go_upto_region 18 with (first
       | ((with_reducible refine he1.out.mono ?_);rintro e w12 ⟨rfl,hb12⟩)
       | ((with_reducible refine lit_new_id (.tmp 16) (.tmp 75) M hmi _ ?_ ?_ ?_ ?_)
          ·first | rfl | kernel_rfl
          ·rfl
          ·rfl
          intro w13 hb13 hbl13))
      have b13:=bthen hbel hbs (bthen hb12 hb12.size hbl13)
      have hl13:=fun W (hW:Below w13.heap.size w13 W)=>hlm W _ (hb13.below hW hb13.lt)
      clear he1 hlx0 hb13
      refine wp_region_go0 12 (by kernel_rfl) (by kernel_rfl) (by kernel_rfl) (by kernel_rfl) ?_
      simp only [exSp]
      iterate 12 apply Exists.intro
      repeat
       first
        | ((with_reducible apply lx0_ex)
           ·(go_simp;done)
           apply Exists.intro
           apply And.intro
           ·apply Eq.refl
           apply And.intro
           ·intro W hW hD
            have q0:=lS11 W (bthen b13 b13.size hW)
            have q1:=hlx W (bthen b13 b13.size hW)
            have q2:=he2 W (bthen b13 b13.size hW)
            go_simp
            first
             | rfl
             | (with_reducible exact q2)
           simp only [Act.put,List.setIfInBounds_toArray,List.set_cons_zero,List.set_cons_succ])
        | ((with_reducible apply lx0_pass)
           ·(first | rfl | (go_simp;done))
           ·apply Eq.refl
           simp only [Act.put,List.setIfInBounds_toArray,List.set_cons_zero,List.set_cons_succ])
        | ((with_reducible apply lx_al 42 (u8s noId) hzi)
           ·apply Eq.refl
           intro v
           simp only [Act.put,List.setIfInBounds_toArray,List.set_cons_zero,List.set_cons_succ])
        | ((with_reducible apply lx_st' 9 42 (u8s noId) sz32 (by kernel_rfl))
           ·exact rfl
           ·apply Eq.refl
           apply Exists.intro
           apply Exists.intro
           apply And.intro
           ·(go_simp;rfl)
           apply And.intro
           ·(go_simp;rfl)
           refine ⟨?_,fun W hW hD=>?_,?_⟩
           ·first | exact List.Mem.head _ | exact List.Mem.tail _ (List.Mem.head _) | exact List.Mem.tail _ (List.Mem.tail _ (List.Mem.head _)) | exact List.Mem.tail _ (List.Mem.tail _ (List.Mem.tail _ (List.Mem.head _)))
           ·exact ⟨u8s M,rfl,hm32,hm1⟩)
      refine lx0_nil ?_ fun w14 hW14 hD14=>?_
      ·exact (by simp [stsOf])
      obtain ⟨_,g14,cs14,rfl,hcs14,hg14,_,hQ14⟩:=hD14 _ (.head _)
      injection hcs14 with hcs14
      subst hcs14
      have l16:=hl13 w14 hW14
      have l18:=hlm w14 _ hQ14
      have hbo:(bo != bo)=false:=by cases bo<;>rfl
      have b14:=bthen b13 b13.size hW14
      clear hD14 hQ14 hl13 hlm he2 hlx lS11 hbel hbs b13 hbl13 hb12 hm32 hm1 hzi
      go_wp2_with (first
       | ((with_reducible refine lit_neq_id (.tmp 86) (.tmp 87) M hmi ?_ ?_ ?_);rfl;rfl))
      go_roundg f
      case rel=>exact ⟨k+1,by go_num,by omega,b14⟩
      case measure=>omega
end Go.Proofs.YtlojebhcemfodaaGreatDoor
namespace Go.Proofs.YtlojebhcemfodaaGreatDoor
open Go.ChangeShapes Go.WideShapes Go.ChangeAt Go.RowKit
theorem gTab : Tryz.prog.globalNamed "knapsack/sha256.constants" = some 0:=by kernel_rfl
theorem gTabType : (Tryz.prog.globals[0]?).map (·.type)=some 109:=by kernel_rfl
theorem cellsTab : Tryz.prog.cellsOf 109=64:=by kernel_rfl
theorem cellsU32 : Tryz.prog.cellsOf 52=1:=by kernel_rfl
theorem laid_is : (Rows.laid_knapsack_sha256_constants:DataW Unit)=Lib.tabData .u32 (K256.map fun n=>((n:Nat):Int)):=by kernel_rfl
theorem tabK_of {W:World} (h:laidMetH Tryz.prog [("knapsack/sha256.constants",Rows.laid_knapsack_sha256_constants)] W):TabK W:=by
 rw [laid_is] at h
 have ht:=Lib.tabIs_of_head (rest:=[]) gTab gTabType Tryz.underlying109 Tryz.underlying52 cellsU32 cellsTab h
 have hc (t:Nat) (h64:t<64):W.cell? ⟨0,t,none⟩=some (.int .u32 (K256.getD t 0:Nat)):=by
  rw [ht.cell gTab t (by rw [List.length_map,K256_length];exact h64)]
  have:t<K256.length:=by rw [K256_length];exact h64
  simp [List.getD,List.getElem?_map,List.getElem?_eq_getElem this]
 exact ⟨World.block_lt_of_cell? W _ (hc 0 (by omega)),hc⟩
/-- A world for the witness: the settled one, the table as its initialiser lays it. -/
noncomputable def laidWorld (os:Os):World:=
 { World.holding Tryz.prog os ⟨#[], #[],[]⟩ with heap:=(World.holding Tryz.prog os ⟨#[], #[],[]⟩).heap.modify 0 fun
  | .cells _ t frozen => .cells (u32s K256) t frozen
  | o=>o }
end Go.Proofs.YtlojebhcemfodaaGreatDoor
