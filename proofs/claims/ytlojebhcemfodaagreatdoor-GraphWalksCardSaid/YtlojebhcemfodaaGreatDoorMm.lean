/- Texts of this claim, laid together: KnW, His, HisI, HisF, HisB, WlkP, Wlk, GrfW, Tab. -/
import Derived.Test.YtlojebhcemfodaaGreatDoorMl
import Derived.Test.YtlojebhcemfodaaGreatDoorCards
import Derived.WalkKit
import Derived.ProofKit
import Derived.OpenShut
import Derived.Deep.DeepHandedRow
import Derived.Lib.LaidTab
namespace Go.Proofs.YtlojebhcemfodaaGreatDoor
open Go.RowKit
attribute [local go_sem ↓] ldvI_eq ldvS_eq
theorem small_oTree : Small oTree:=⟨by decide,(fun e he=>by cases he),by decide,by decide,by decide,by decide⟩
theorem small_oOld : Small oOld:=⟨by decide,(fun e he=>by cases he),by decide,by decide,by decide,by decide⟩
theorem small_oYoung : Small oYoung:=⟨by decide,(fun e he=>by cases he),by decide,by decide,by decide,by decide⟩
theorem ids_one {W:World} {g:Nat} {x:Txt} (h:Blk W g 42 (u8s x)):Ids W (.slice (some ⟨g,0,none⟩) 1 1) [x]:=
 ⟨_,1,rfl,Nat.le_refl _,by decide,fun _=>⟨g,0,rfl,h.lt,fun i y hy=>by
  cases i with
  | zero=>
    have hy:x=y:=by simpa using hy
    subst hy
    rw [Nat.zero_mul,Nat.zero_add]
    exact range_blk h
  | succ i=>simp at hy⟩⟩
theorem slice_txs {W:World} {g:Nat} {l:List Txt} (hl:l.length≤100) (h:Blk W g 9 (l.map fun t=>Value.string (B t)).toArray):SliceAt W 1 txC (.slice (some ⟨g,0,none⟩) l.length l.length) l:=
 ⟨_,l.length,rfl,Nat.le_refl _,by omega,fun _=>⟨g,0,rfl,h.lt,fun i t ht=>fun j u hu=>by
  cases j with
  | zero=>
    have hu:Value.string (B t)=u:=by simpa [txC] using hu
    rw [h.cell,Nat.zero_add,Nat.mul_one,Nat.add_zero,List.getElem?_toArray,List.getElem?_map,ht]
    exact congrArg some hu
  | succ j=>simp [txC] at hu⟩⟩
theorem knA_len : knA.length=32:=by decide
theorem knB_len : knB.length=32:=by decide
theorem knC_len : knC.length=32:=by decide
theorem ok_oTree : ObjOk oTree:=⟨by decide,by decide,(fun e he=>by cases he),(fun p hp=>by cases hp),by decide,by decide,by decide,by decide,by decide,by decide,by decide,by decide⟩
theorem ok_oOld : ObjOk oOld:=⟨by decide,by decide,(fun e he=>by cases he),(fun p hp=>by cases hp),by decide,by decide,by decide,by decide,by decide,by decide,by decide,by decide⟩
theorem ok_oYoung : ObjOk oYoung:=⟨by decide,by decide,(fun e he=>by cases he),(fun p hp=>by rw [List.mem_singleton.1 hp];decide),by decide,by decide,by decide,by decide,by decide,by decide,by decide,by decide⟩
theorem enc_t (W:World):Calls Tryz.prog 25 #[.agg (objC oTree (.slice none 0 0) (.slice none 0 0)).toArray] W fun e w'=>e = .returned (.tuple #[.string (B knTree), .bool true])∧Below W.heap.size W w':=
 encD_some enc_oTree▸refEncode_calls oTree small_oTree none none 0 0 W ⟨ok_oTree,SliceAt.nil,SliceAt.nil⟩
theorem enc_o (W:World):Calls Tryz.prog 25 #[.agg (objC oOld (.slice none 0 0) (.slice none 0 0)).toArray] W fun e w'=>e = .returned (.tuple #[.string (B knOld), .bool true])∧Below W.heap.size W w':=
 encD_some enc_oOld▸refEncode_calls oOld small_oOld none none 0 0 W ⟨ok_oOld,SliceAt.nil,SliceAt.nil⟩
theorem enc_y (W:World) (g:Nat) (h:Blk W g 42 (u8s knB)):Calls Tryz.prog 25 #[.agg (objC oYoung (.slice none 0 0) (.slice (some ⟨g,0,none⟩) 1 1)).toArray] W fun e w'=>e = .returned (.tuple #[.string (B knYoung), .bool true])∧Below W.heap.size W w':=
 encD_some enc_oYoung▸refEncode_calls oYoung small_oYoung none (some ⟨g,0,none⟩) 0 1 W ⟨ok_oYoung,SliceAt.nil,ids_one h⟩
theorem sum_t (W:World):Calls Tryz.prog 26 #[.string (B knTree)] W fun e w'=>e = .returned (.agg (u8s knA))∧Below W.heap.size W w':=knA_is▸refSum_calls knTree W (by decide)
theorem sum_o (W:World):Calls Tryz.prog 26 #[.string (B knOld)] W fun e w'=>e = .returned (.agg (u8s knB))∧Below W.heap.size W w':=knB_is▸refSum_calls knOld W (by decide)
theorem sum_y (W:World):Calls Tryz.prog 26 #[.string (B knYoung)] W fun e w'=>e = .returned (.agg (u8s knC))∧Below W.heap.size W w':=knC_is▸refSum_calls knYoung W (by decide)
theorem built_ob1 : Tryz.prog.built 54 [(0, .int .i64 2)]=some (objC oTree (.slice none 0 0) (.slice none 0 0)).toArray:=by kernel_rfl
theorem built_ob2 : Tryz.prog.built 54 [(0, .int .i64 3),(3, .agg (u8s knA)),(5, .int .u32 9)]=some (objC oOld (.slice none 0 0) (.slice none 0 0)).toArray:=by kernel_rfl
theorem built_ob3 (g:Nat):Tryz.prog.built 54 [(0, .int .i64 3),(3, .agg (u8s knA)),(5, .int .u32 5),(4, .slice (some ⟨g,0,none⟩) 1 1)]=some (objC oYoung (.slice none 0 0) (.slice (some ⟨g,0,none⟩) 1 1)).toArray:=by kernel_rfl
set_option maxRecDepth 100000 in
set_option maxHeartbeats 8000000 in
theorem knows_calls12 (w:World) (hK:TabK w):Calls Tryz.prog 7 #[] w fun e w'=>e = .returned (.bool true)∧Below w.heap.size w w':=by
 have hbS:Tryz.prog.built 28 []=some #[.slice none 0 0]:=by kernel_rfl
 have hrb:=fun W=>run_build (P:=Tryz.prog) W _ _ _ hbS
 have hS0:(#[Value.slice none 0 0]:Array Value).size=1:=rfl
 have hS1:(#[Value.slice none 0 0]:Array Value).all (·.oneCell')=true:=by kernel_rfl
 have b1:=built_ob1
 have b2:=built_ob2
 have b3:=built_ob3
 have e1:=fun W=>Lib.hid (enc_t W)
 have e2:=fun W=>Lib.hid (enc_o W)
 have e3:=fun W g h=>Lib.hid (enc_y W g h)
 have m1:=fun W=>Lib.hid (sum_t W)
 have m2:=fun W=>Lib.hid (sum_o W)
 have m3:=fun W=>Lib.hid (sum_y W)
 have hDe : ∀ W,DocSt W (.slice none 0 0) []:=fun W=>⟨World.ownsRow_nil _ _ _ _,(fun e he=>by simp at he),StoOk.nil⟩
 have hA1 : ∀ (W:World) (g:Nat),Blk W g 9 #[.string (B knTree), .string (B knYoung)]→Calls Tryz.prog 27 #[.agg #[.slice none 0 0], .slice (some ⟨g,0,none⟩) 2 2] W fun e w'=>AllR W.heap.size (.slice none 0 0) [] knS1 e w'∧Below W.heap.size W w':=fun W g hb=>by
  have:=docAll_calls (hDe W) [knTree,knYoung] (by decide) (by simp) _ (slice_txs (by simp) hb)
  rwa [show ([]:List DiL).map (·.st)=[] from rfl,kn_put1] at this
 have hA2 : ∀ (W:World) (g:Nat),Blk W g 9 #[.string (B knTree), .string (B knOld), .string (B knYoung)]→Calls Tryz.prog 27 #[.agg #[.slice none 0 0], .slice (some ⟨g,0,none⟩) 3 3] W fun e w'=>AllR W.heap.size (.slice none 0 0) [] knS2 e w'∧Below W.heap.size W w':=fun W g hb=>by
  have:=docAll_calls (hDe W) [knTree,knOld,knYoung] (by decide) (by simp) _ (slice_txs (by simp) hb)
  rwa [show ([]:List DiL).map (·.st)=[] from rfl,kn_put2] at this
 have aA:(u8s knA).size=32:=by rw [u8s_size];exact knA_len
 have aB:(u8s knB).size=32:=by rw [u8s_size];exact knB_len
 have aC:(u8s knC).size=32:=by rw [u8s_size];exact knC_len
 have l1:knS1.length=2:=rfl
 have l2:knS2.length=3:=rfl
 have lA:=knA_len
 have lB:=knB_len
 have lC:=knC_len
 clear hDe
 obtain ⟨S1,hS1e⟩ : ∃ S,knS1=S:=⟨_,rfl⟩
 obtain ⟨S2,hS2e⟩ : ∃ S,knS2=S:=⟨_,rfl⟩
 have kw:=Lib.hid kn_walk
 have kt := @kn_there
 have kg := @kn_gone
 rw [hS1e] at hA1 l1 kt kg
 rw [hS2e] at hA2 l2 kw
 clear hS1e hS2e
 obtain ⟨C1,hC1⟩ : ∃ C,(objC oTree (.slice none 0 0) (.slice none 0 0)).toArray=C:=⟨_,rfl⟩
 obtain ⟨C2,hC2⟩ : ∃ C,(objC oOld (.slice none 0 0) (.slice none 0 0)).toArray=C:=⟨_,rfl⟩
 obtain ⟨C3,hC3⟩ : ∃ C:Nat→Array Value, ∀ g,(objC oYoung (.slice none 0 0) (.slice (some ⟨g,0,none⟩) 1 1)).toArray=C g:=⟨_,fun g=>rfl⟩
 rw [hC1] at b1
 rw [hC2] at b2
 simp only [hC1] at e1
 simp only [hC2] at e2
 simp only [hC3] at e3 b3
 clear hC1 hC2 hC3
 generalize knA=A at *
 generalize knB=B' at *
 generalize knC=C' at *
 generalize knTree=tT at *
 generalize knOld=tO at *
 generalize knYoung=tY at *
 go_enter Tryz.func7,Tryz.ntmps7
 have bb:=Below.refl w.heap.size w
 go_upto_region 4 with (first
  | ((with_reducible refine lit_build1 b1 ?_ ?_);rfl)
  | ((with_reducible refine (e1 _).out.mono ?_);rintro e w1 ⟨rfl,hb1⟩;replace bb:=bthen bb bb.size hb1;clear hb1)
  | ((with_reducible refine (m1 _).out.mono ?_);rintro e w2 ⟨rfl,hb2⟩;replace bb:=bthen bb bb.size hb2;clear hb2)
  | ((with_reducible refine lit_build3 b2 ?_ ?_ ?_ ?_);rfl;rfl;rfl)
  | ((with_reducible refine (e2 _).out.mono ?_);rintro e w3 ⟨rfl,hb3⟩;replace bb:=bthen bb bb.size hb3;clear hb3)
  | ((with_reducible refine (m2 _).out.mono ?_);rintro e w4 ⟨rfl,hb4⟩;replace bb:=bthen bb bb.size hb4;clear hb4)
  | ((with_reducible refine lit_slice1 (.tmp 30) Tryz.idsTy (u8s B') aB (by omega) ?_ ?_);rfl
     obtain ⟨w5,hw5⟩ : ∃ W,w4.alloc (.cells (u8s B') 42)=W:=⟨_,rfl⟩
     have hb5:Blk w5 w4.heap.size 42 (u8s B'):=by rw [←hw5];exact Blk.new _ _ _
     have hbl5:Below w4.heap.size w4 w5:=by rw [←hw5];exact (Below.refl _ _).alloc (Nat.le_refl _) _
     replace bb:=bthen bb bb.size hbl5
     have ey:=e3 w5 _ hb5
     have b3w:=b3 w4.heap.size
     rw [hw5])
  | ((with_reducible refine lit_build4 b3w ?_ ?_ ?_ ?_ ?_);rfl;rfl;rfl;rfl)
  | ((with_reducible refine ey.out.mono ?_);rintro e w6 ⟨rfl,hb6⟩;replace bb:=bthen bb bb.size hb6;clear hb6))
 clear ey b3w hw5 hb5 hbl5 e1 e2 e3 m1 b1 b2 b3
 go_upto_region 5 with (first
  | ((with_reducible refine lit_new 28 (.tmp 7) (.tmp 36) #[.slice none 0 0] 1 szDSt hS0 hS1 _ ?_ ?_ ?_ ?_)
     ·first | exact hS0 | rfl
     ·rfl
     ·rfl
     intro w7 hb7 hbl7))
 have lS : ∀ W,Below w7.heap.size w7 W→(ldvS ⟨w6.heap.size,0,none⟩).run Tryz.prog W = .ok (.agg #[.slice none 0 0]) W:=fun W hW=>run_ldvS (hb7.below hW hb7.lt)
 replace bb:=bthen bb bb.size hbl7
 have g7:=Below.refl w7.heap.size w7
 have lS7:=lS w7 g7
 obtain ⟨v8,hv8⟩ : ∃ W,w7.alloc (.cells #[.string (B tT), .string (B tY)] 9)=W:=⟨_,rfl⟩
 have k8:Blk v8 w7.heap.size 9 #[.string (B tT), .string (B tY)]:=by rw [←hv8];exact Blk.new _ _ _
 have g8:Below w7.heap.size w7 v8:=by rw [←hv8];exact (Below.refl _ _).alloc (Nat.le_refl _) _
 have c8:=Lib.hid (hA1 v8 _ k8)
 go_upto_region 6 with (first
  | ((with_reducible refine c8.out.mono ?_);rintro e w9 ⟨⟨vm9,es9,rfl,D9,hm9, -⟩,hb9⟩
     replace bb:=bthen bb bb.size g8
     have b9:=bthen g8 g8.size hb9
     replace bb:=bthen bb bb.size hb9
     have n9:es9.length<490000:=by have:=congrArg List.length hm9;rw [List.length_map,l1] at this;omega
     have c9:=of_calls11 D9 n9 (hK.below bb)
     rw [hm9] at c9
     clear hm9 n9 D9
     replace c9:=Lib.hid c9)
  | ((with_reducible refine c9.out.mono ?_);rintro e w10 ⟨⟨p1,vl1,rfl,hp1,St1⟩,hb10⟩
     replace bb:=bthen bb bb.size hb10
     have b10:=bthen b9 b9.size hb10))
 clear c8 c9 hA1 hv8 k8 hb9 hb10 lS7 g8 b9
 have lS10:=lS w10 b10
 obtain ⟨v11,hv11⟩ : ∃ W,w10.alloc (.cells #[.string (B tT), .string (B tO), .string (B tY)] 9)=W:=⟨_,rfl⟩
 have k11:Blk v11 w10.heap.size 9 #[.string (B tT), .string (B tO), .string (B tY)]:=by rw [←hv11];exact Blk.new _ _ _
 have g11:Below w10.heap.size w10 v11:=by rw [←hv11];exact (Below.refl _ _).alloc (Nat.le_refl _) _
 have c11:=Lib.hid (hA2 v11 _ k11)
 go_upto_region 9 with (first
  | ((with_reducible refine c11.out.mono ?_);rintro e w12 ⟨⟨vm12,es12,rfl,D12,hm12, -⟩,hb12⟩
     replace bb:=bthen bb bb.size g11
     replace bb:=bthen bb bb.size hb12
     have b12:=bthen g11 g11.size hb12
     have n12:es12.length<490000:=by have:=congrArg List.length hm12;rw [List.length_map,l2] at this;omega
     have c12:=of_calls11 D12 n12 (hK.below bb)
     rw [hm12] at c12
     clear hm12 n12 D12
     replace c12:=Lib.hid c12)
  | ((with_reducible refine c12.out.mono ?_);rintro e w13 ⟨⟨p2,vl2,rfl,hp2,St2⟩,hb13⟩
     replace bb:=bthen bb bb.size hb13
     have b13:=bthen b12 b12.size hb13))
 replace St1:=St1.below b13
 clear c11 c12 hA2 hv11 k11 hb12 hb13 lS10 g11 b12 b10 lS hb7 hbl7 g7 hrb hbS hS0 hS1 hK
 go_upto_region 10 with (first
  | ((with_reducible refine (m3 _).out.mono ?_);rintro e w14 ⟨rfl,hb14⟩
     replace bb:=bthen bb bb.size hb14)
  | ((with_reducible refine lit_slice1 (.tmp 57) Tryz.idsTy (u8s C') aC (by omega) ?_ ?_);rfl
     obtain ⟨w15,hw15⟩ : ∃ W,w14.alloc (.cells (u8s C') 42)=W:=⟨_,rfl⟩
     have hb15:Blk w15 w14.heap.size 42 (u8s C'):=by rw [←hw15];exact Blk.new _ _ _
     have g15:Below w14.heap.size w14 w15:=by rw [←hw15];exact (Below.refl _ _).alloc (Nat.le_refl _) _
     replace bb:=bthen bb bb.size g15
     have b15:=bthen hb14 hb14.size g15
     rw [hw15]))
 replace St1:=St1.below b15
 replace St2:=St2.below b15
 have hi15:=ids_one hb15
 have lC1 : ∀ x∈[C'],x.length=32:=fun x hx=>by rw [List.mem_singleton.1 hx];exact lC
 have lC0 : ∀ x∈([]:List Txt),x.length=32:=fun x hx=>absurd hx List.not_mem_nil
 have c15:=Lib.hid (graReach_calls St1 [C'] [] lC1 lC0 (by rw [l1];show 1+2*70≤800000;decide) (Nat.zero_le _) _ _ hi15 SliceAt.nil)
 go_upto_region 12 with (first
  | ((with_reducible refine c15.out.mono ?_);rintro e w16 ⟨va,vb,la,lb,rfl,ra,rb,oa,ob, -, -, -, -,hb16⟩
     obtain rfl:=kt ra
     obtain rfl:=kg rb
     replace bb:=bthen bb bb.size hb16
     replace St2:=St2.below hb16
     replace hi15:=hi15.below hb16
     have c16:=Lib.hid (graWalk_calls St2 [C'] [] lC1 lC0 (Nat.zero_le _) _ _ hi15 SliceAt.nil))
  | ((with_reducible refine c16.out.mono ?_);rintro e w17 ⟨vw,rfl,ow,hb17⟩
     rw [kw.out] at ow
     replace bb:=bthen bb bb.size hb17
     replace hi15:=hi15.below hb17
     replace oa:=own_below oa hb17
     replace ob:=own_below ob hb17))
 have hkA : ∀ x∈[C',A],(idC x).length=32:=fun x hx=>idC_len (by
  rcases List.mem_cons.1 hx with rfl | hx
  ·exact lC
  ·rw [List.mem_singleton.1 hx];exact lA)
 have hkB : ∀ x∈[B'],(idC x).length=32:=fun x hx=>idC_len (by rw [List.mem_singleton.1 hx];exact lB)
 have hkC : ∀ x∈[C',B'],(idC x).length=32:=fun x hx=>idC_len (by
  rcases List.mem_cons.1 hx with rfl | hx
  ·exact lC
  ·rw [List.mem_singleton.1 hx];exact lB)
 obtain ⟨A1,c1,rfl, -⟩:=SliceAt.of_own hkA oa
 obtain ⟨g2,o2,c2,rfl,hg2,hr2⟩:=(SliceAt.of_own hkB ob).at_ (i:=0) (by simp)
 obtain ⟨g3,o3,c3,rfl,hg3,hr3⟩:=(SliceAt.of_own hkC ow).at_ (i:=0) (by simp)
 obtain ⟨g4,o4,c4,he4,hg4,hr4⟩:=hi15.at_ (i:=0) (by simp)
 injection he4 with he4 ea eb
 clear ea eb
 injection he4 with he4
 injection he4 with he4 he5 ea
 clear ea
 subst he5
 rw [←he4] at hg4 hr4
 clear he4
 rw [Nat.zero_mul,Nat.add_zero] at hr2 hr3 hr4
 rw [show [C',A].length=2 from rfl,show [B'].length=1 from rfl,show [C',B'].length=2 from rfl]
 have q2 : ∀ W,Below w17.heap.size w17 W→(ldvI ⟨g2,o2,none⟩).run Tryz.prog W = .ok (.agg (u8s B')) W:=fun W hW=>run_ldvI_at (rangeAt_below hr2 hg2 hW) lB
 have q3 : ∀ W,Below w17.heap.size w17 W→(ldvI ⟨g3,o3,none⟩).run Tryz.prog W = .ok (.agg (u8s C')) W:=fun W hW=>run_ldvI_at (rangeAt_below hr3 hg3 hW) lC
 have q4 : ∀ W,Below w17.heap.size w17 W→(ldvI ⟨w14.heap.size,0,none⟩).run Tryz.prog W = .ok (.agg (u8s C')) W:=fun W hW=>run_ldvI_at (rangeAt_below hr4 hg4 hW) lC
 have e5:=fun W=>run_eql_id W B' B' lB lB
 have e6:=fun W=>run_eql_id W C' C' lC lC
 simp only [decide_true] at e5 e6
 clear oa ob ow hi15 hkA hkB hkC lC1 lC0 c15 hw15 hb15 g15 b15 ra rb St1 St2 kt kw kg hp1 hp2 b13 hb14 hb16 hb17 hr2 hr3 hr4 hg2 hg3 hg4
 refine wp_region_class (C:=fun W=>Below w17.heap.size w17 W) (by kernel_rfl) (by kernel_rfl) (Below.refl _ _).drew ?_
 repeat
  first
   | ((with_reducible refine wpQuiet_ex ?_ ?_)
      ·(go_simp;done)
      apply Exists.intro
      refine ⟨fun W hW=>?_,?_⟩
      ·first
        | (have r2:=q2 W hW
           have r3:=q3 W hW
           have r4:=q4 W hW
           have r5:=e5 W
           have r6:=e6 W
           have r7:=bel_keepG hW (m2 W).out
           go_simp
           first
            | rfl
            | (with_reducible exact r7)
            | (simp only [Sem.run_bind,run_eqGuard_agg _ _ _ _ _ _ _ Tryz.eqGuardType42,r5,Result.andThen_ok];rfl)
            | (simp only [Sem.run_bind,run_eqGuard_agg _ _ _ _ _ _ _ Tryz.eqGuardType42,r6,Result.andThen_ok];rfl))
      simp only [Act.put,List.setIfInBounds_toArray,List.set_cons_zero,List.set_cons_succ])
   | ((with_reducible refine wpQuiet_pass ?_ ?_)
      ·(first | rfl | (go_simp;done))
      simp only [Act.put,List.setIfInBounds_toArray,List.set_cons_zero,List.set_cons_succ])
 with_reducible refine wpQuiet_nil ?_
 intro w5 hW5
 go_wp2
 go_ret
 exact ⟨rfl,bthen bb bb.size hW5⟩
end Go.Proofs.YtlojebhcemfodaaGreatDoor
namespace Go.Proofs.YtlojebhcemfodaaGreatDoor
open Go.ChangeShapes Go.WideShapes Go.ChangeAt Go.RowKit
structure HisL where
 seeds:List SdL
 out:Txt
 frm:Txt
 cut:Txt
structure HisOk (w:World) (vs vo vf vc:Value) (h:HisL):Prop where
 seeds:Seeds w vs h.seeds
 out:SliceAt w 1 byC vo h.out
 frm:SliceAt w 1 byC vf h.frm
 cut:SliceAt w 1 byC vc h.cut
theorem HisOk.below {w w':World} {vs vo vf vc:Value} {h:HisL} (hh:HisOk w vs vo vf vc h) (hb:Below w.heap.size w w'):HisOk w' vs vo vf vc h:=⟨hh.seeds.below hb,hh.out.below hb,hh.frm.below hb,hh.cut.below hb⟩
section
variable {H:Type} {enc:TypeId×Value→H} {w:World} {base:Nat} {sp:Nat→Bool} {held:Bool}
set_option maxRecDepth 200000 in
theorem open_his {base0:Nat} {v:Value} {d:DataW H} {p:List MemPlace} (hv:Value.okWide Tryz.prog w .any base0 25 v) (h0:DataW.Trod enc Tryz.prog w base sp held 25 v d p) : ∃ (vs vo vf vc:Value) (h:HisL),v = .agg #[vs,vo,vf,vc]∧HisOk w vs vo vf vc h:=by
 simp only [Value.okWide,Tryz.underlying25] at hv
 obtain ⟨cs0,rfl,hsz,_⟩:=hv
 obtain ⟨fuel,hf0⟩:=h0
 have h4:Tryz.prog.cellsOf 25=4:=by kernel_rfl
 have hl:cs0.toList.length=4:=by rw [Array.length_toList,hsz,h4]
 have hf1:DataW.trod enc Tryz.prog w base sp held fuel 25 cs0.toList=some (d,p):=hf0
 obtain ⟨cs,hcs⟩ : ∃ cs,cs0.toList=cs:=⟨_,rfl⟩
 rw [hcs] at hl hf1
 obtain ⟨ys,n',hn',hy,hlen,hyl,hf⟩:=DataW.trod_struct Tryz.underlying25 hf1
 have hyl:ys.length=4:=hyl
 have h0:=hf 0 _ rfl
 have h1:=hf 1 _ rfl
 have h2:=hf 2 _ rfl
 have h3:=hf 3 _ rfl
 rw [List.getElem?_eq_getElem (show 0<ys.length by omega)] at h0
 rw [List.getElem?_eq_getElem (show 1<ys.length by omega)] at h1
 rw [List.getElem?_eq_getElem (show 2<ys.length by omega)] at h2
 rw [List.getElem?_eq_getElem (show 3<ys.length by omega)] at h3
 have cU:Tryz.prog.cellsOf 5=1:=by kernel_rfl
 have cB:Tryz.prog.cellsOf 23=1:=by kernel_rfl
 have cS:Tryz.prog.cellsOf 22=1:=by kernel_rfl
 obtain ⟨v0,e0,t0⟩:=trod_slice_one (by
  show ((cs.drop 0).take (Tryz.prog.cellsOf 22)).length=1
  rw [cS,List.length_take,List.length_drop];omega) h0
 obtain ⟨v1,e1,t1⟩:=trod_slice_one (by
  show ((cs.drop 1).take (Tryz.prog.cellsOf 23)).length=1
  rw [cB,List.length_take,List.length_drop];omega) h1
 obtain ⟨v2,e2,t2⟩:=trod_slice_one (by
  show ((cs.drop 2).take (Tryz.prog.cellsOf 23)).length=1
  rw [cB,List.length_take,List.length_drop];omega) h2
 obtain ⟨v3,e3,t3⟩:=trod_slice_one (by
  show ((cs.drop 3).take (Tryz.prog.cellsOf 23)).length=1
  rw [cB,List.length_take,List.length_drop];omega) h3
 obtain ⟨l0,hl0,ho0⟩:=open_elems sdC 4 (by omega) (SdOk w) Tryz.underlying22 (by kernel_rfl) (fun y _=>rfl) elem_seed t0
 obtain ⟨l1,hl1,_⟩:=open_elems byC 1 (by omega) (fun _=>True) Tryz.underlying23 cU (fun y _=>rfl) elem_byte t1
 obtain ⟨l2,hl2,_⟩:=open_elems byC 1 (by omega) (fun _=>True) Tryz.underlying23 cU (fun y _=>rfl) elem_byte t2
 obtain ⟨l3,hl3,_⟩:=open_elems byC 1 (by omega) (fun _=>True) Tryz.underlying23 cU (fun y _=>rfl) elem_byte t3
 have e0':(cs.drop 0).take 1=[v0]:=by rw [←cS];exact e0
 have e1':(cs.drop 1).take 1=[v1]:=by rw [←cB];exact e1
 have e2':(cs.drop 2).take 1=[v2]:=by rw [←cB];exact e2
 have e3':(cs.drop 3).take 1=[v3]:=by rw [←cB];exact e3
 refine ⟨v0,v1,v2,v3,⟨l0,l1,l2,l3⟩,?_,⟨⟨hl0,ho0⟩,hl1,hl2,hl3⟩⟩
 have:=chain e0' (m:=1) rfl
 rw [List.drop_zero,chain e1' (m:=2) rfl,chain e2' (m:=3) rfl,chain e3' (m:=4) rfl,List.drop_of_length_le (by omega)] at this
 congr 1
 apply Array.ext'
 rw [hcs,this]
 rfl
end
end Go.Proofs.YtlojebhcemfodaaGreatDoor
namespace Go.Proofs.YtlojebhcemfodaaGreatDoor
open Go.RowKit
attribute [local go_sem ↓] ldvI_eq ldvS_eq
theorem built_one (c:UInt8):Tryz.prog.built 42 [(0, .int .u8 c.toNat)]=some (u8s (c::List.replicate 31 0)):=by kernel_rfl
/-- What Ids tells: as many ids as there are places. -/
def IdsR (w:World) (n:Nat) (e:Ending) (w':World):Prop := ∃ v r,e = .returned v∧OwnIds w' w.heap.size v r∧(∀ x∈r,x.length=32)∧r.length=n
set_option maxRecDepth 100000 in
set_option maxHeartbeats 4000000 in
theorem ids12_calls (all:List Txt) (haok : ∀ x∈all,x.length=32) (hal:all.length≤1000) (va:Value) (w:World) (hva:Ids w va all) (l:Txt) (hl1000:l.length≤1000) (vl:Value) (hvl:SliceAt w 1 byC vl l) :
 Calls Tryz.prog 10 #[va,vl] w fun e w'=>IdsR w l.length e w'∧Below w.heap.size w w':=by
 obtain ⟨A,cap,rfl,hcap1,hcap2,hat⟩:=hvl
 obtain ⟨Aa,ca,rfl,hca1,hca2,hata⟩:=hva
 go_enter Tryz.func10,Tryz.ntmps10
 go_wp2_with (fail)
 go_loopg [5,6] l.length (fun f vo vi wr => ∃ (k:Nat) (acc:List Txt),vi = .int .i64 k∧k+f=l.length∧OwnIds wr w.heap.size vo acc∧Hid ((∀ x∈acc,x.length=32)∧acc.length=k)∧Below w.heap.size w wr)
 case atStart=>exact ⟨0,[],rfl,by omega,World.ownsRow_nil _ _ _ _,Lib.hid ⟨fun x hx=>by simp at hx,rfl⟩,Below.refl _ _⟩
 case round=>
  obtain ⟨k,acc,rfl,hkf,hown,hacc,hbel⟩:=hrel
  have hbs:=hbel.size
  obtain ⟨Ao,co,rfl⟩:=own_form' hown
  cases gk with
  | zero=>
    have hki : ¬ (k:Int)<(l.length:Int):=by omega
    have hke:Hid (k=l.length):=Lib.hid (by omega)
    clear hat hata
    go_wp2_with (fail)
    go_ret
    exact ⟨⟨_,acc,rfl,hown,hacc.out.1,hacc.out.2.trans hke.out⟩,hbel⟩
  | succ f=>
    have hki:(k:Int)<(l.length:Int):=by omega
    have hkl:k<l.length:=by omega
    obtain ⟨ga,oa,rfl,hga,hca⟩:=hat (by omega)
    obtain ⟨c,hc⟩ : ∃ c,l[k]?=some c:=⟨_,List.getElem?_eq_getElem (by omega)⟩
    have hcc:wr.cell? ⟨ga,oa+k,none⟩=some (.int .u8 c.toNat):=by
     have:=rangeAt_below (hca k c hc) hga hbel 0 _ rfl
     rwa [Nat.add_zero,Nat.mul_one] at this
    have hc256:c.toNat<256:=c.toNat_lt
    have hwc:IntKind.i64.wrap ((c.toNat:Nat):Int)=(c.toNat:Int):=IntWalk.i64_in _ (by omega)
    have hal2:acc.length≤1000:=by have:=hacc.out.2;omega
    have hAk:acc.length+1≤9223372036854775807:=by omega
    have hAb:(acc.length+1)*32≤140737488355328:=by omega
    have hrb:=built_one c
    have key : ∀ x:Txt,x.length=32→Hid ((x.length=32∧(u8s x).size=32∧(u8s x).size=1*32 ∧ ∀ u∈(u8s x).toList,u.oneCell'=true)∧(acc++[x]).length=acc.length+1∧rowsOf idC (acc++[x])=rowsOf idC acc++(u8s x).toList∧((∀ z∈acc++[x],z.length=32)∧(acc++[x]).length=k+1)):=fun x hx=>Lib.hid (by
     have h32:(u8s x).size=32:=by rw [u8s_size,hx]
     have hlen:(acc++[x]).length=acc.length+1:=by rw [List.length_append];rfl
     exact ⟨⟨hx,h32,h32,idC_one x⟩,hlen,by rw [rowsOf_append,rowsOf_one];rfl,fun z hz=>(List.mem_append.1 hz).elim (hacc.out.1 z) fun h=>by rw [List.mem_singleton.1 h];exact hx,by rw [hlen,hacc.out.2]⟩)
    clear hca hat hc
    have hx0:(c::List.replicate 31 (0:UInt8)).length=32:=by simp
    by_cases h0:0<all.length
    ·have h0i : ¬ (all.length:Int)=0:=by omega
     have h0b:((all.length:Int)==0)=false:=by simpa using h0i
     by_cases h200:200≤c.toNat
     ·have h2i:(200:Int)≤(c.toNat:Int):=by omega
      obtain ⟨x,hx⟩ : ∃ x,c::List.replicate 31 (0:UInt8)=x:=⟨_,rfl⟩
      rw [hx] at hrb hx0
      have hk0:=key x hx0
      obtain ⟨⟨_,hx32,hx132,hx1⟩,_⟩:=hk0.out
      clear key hx hata h0
      go_wp2_with (first
       | ((with_reducible refine lit_build1 hrb ?_ ?_);rfl)
       | ((with_reducible refine lit_slice1 (.tmp 29) Tryz.idsTy (u8s x) hx32 (by omega) ?_ ?_);rfl)
       | ((with_reducible refine lit_append_new (.tmp 24) (.tmp 30) 1 _ Tryz.idsTy hown (u8s x) hx132 hx1 hAk hAb hbs ?_ ?_ ?_);rfl;rfl
          intro v8 w8 ho8 hb8 hg8 hn8))
      have ho9:OwnIds w8 w.heap.size v8 (acc++[x]):=by unfold OwnIds;rw [hk0.out.2.1,hk0.out.2.2.1];exact ho8
      have hacc9:=Lib.hid hk0.out.2.2.2
      clear hown hacc hk0 ho8
      go_roundg f
      case rel=>exact ⟨k+1,acc++[x],by go_num,by omega,ho9,hacc9,hbel.trans hb8⟩
      case measure=>omega
     ·have h2i : ¬ (200:Int)≤(c.toNat:Int):=by omega
      obtain ⟨m,hm⟩ : ∃ m:Nat,(all.length:Int)-1-(c.toNat:Int)%(all.length:Int)=(m:Int):=by
       refine Int.eq_ofNat_of_zero_le ?_
       have:=Int.emod_lt_of_pos (c.toNat:Int) (show (0:Int)<(all.length:Int) by omega)
       omega
      have hmn:=Int.emod_nonneg (c.toNat:Int) h0i
      have hml:m<all.length:=by omega
      obtain ⟨g3,o3,rfl,hg3,hc3⟩:=hata h0
      obtain ⟨x,hx⟩ : ∃ x,all[m]?=some x:=⟨_,List.getElem?_eq_getElem hml⟩
      have hxi:=haok x (List.mem_of_getElem? hx)
      have hlx:(ldvI ⟨g3,o3+m*32,none⟩).run Tryz.prog wr = .ok (.agg (u8s x)) wr:=run_ldvI_at (show World.rangeAt wr g3 (o3+m*32) (u8s x).toList from rangeAt_below (hc3 m x hx) hg3 hbel) hxi
      have hmi:(m:Int)<(all.length:Int):=by omega
      have hLi:(0:Int)<(all.length:Int):=by omega
      have hk0:=key x hxi
      obtain ⟨⟨_,hx32,hx132,hx1⟩,_⟩:=hk0.out
      clear key hx hc3 hata hrb hx0
      generalize all.length=LN at *
      have hw1:IntKind.i64.wrap ((LN:Int)-1)=(LN:Int)-1:=IntWalk.i64_in _ (by omega)
      have hw2:IntKind.i64.wrap ((c.toNat:Int)%(LN:Int))=(c.toNat:Int)%(LN:Int):=IntWalk.i64_in _ (by have:=Int.emod_lt_of_pos (c.toNat:Int) hLi;omega)
      have hw3:IntKind.i64.wrap ((m:Int))=(m:Int):=IntWalk.i64_in _ (by omega)
      go_wp2_with (first
       | ((with_reducible refine lit_slice1 (.tmp 47) Tryz.idsTy (u8s x) hx32 (by omega) ?_ ?_);rfl)
       | ((with_reducible refine lit_append_new (.tmp 32) (.tmp 48) 1 _ Tryz.idsTy hown (u8s x) hx132 hx1 hAk hAb hbs ?_ ?_ ?_);rfl;rfl
          intro v8 w8 ho8 hb8 hg8 hn8))
      have ho9:OwnIds w8 w.heap.size v8 (acc++[x]):=by unfold OwnIds;rw [hk0.out.2.1,hk0.out.2.2.1];exact ho8
      have hacc9:=Lib.hid hk0.out.2.2.2
      clear hown hacc hk0 ho8 hlx hm hw1 hw2 hw3
      go_roundg f
      case rel=>exact ⟨k+1,acc++[x],by go_num,by omega,ho9,hacc9,hbel.trans hb8⟩
      case measure=>omega
    ·obtain rfl:all=[]:=List.length_eq_zero_iff.1 (by omega)
     obtain ⟨x,hx⟩ : ∃ x,c::List.replicate 31 (0:UInt8)=x:=⟨_,rfl⟩
     rw [hx] at hrb hx0
     have hk0:=key x hx0
     obtain ⟨⟨_,hx32,hx132,hx1⟩,_⟩:=hk0.out
     clear key hx hata h0
     go_wp2_with (first
      | ((with_reducible refine lit_build1 hrb ?_ ?_);rfl)
      | ((with_reducible refine lit_slice1 (.tmp 29) Tryz.idsTy (u8s x) hx32 (by omega) ?_ ?_);rfl)
      | ((with_reducible refine lit_append_new (.tmp 24) (.tmp 30) 1 _ Tryz.idsTy hown (u8s x) hx132 hx1 hAk hAb hbs ?_ ?_ ?_);rfl;rfl
         intro v8 w8 ho8 hb8 hg8 hn8))
     have ho9:OwnIds w8 w.heap.size v8 (acc++[x]):=by unfold OwnIds;rw [hk0.out.2.1,hk0.out.2.2.1];exact ho8
     have hacc9:=Lib.hid hk0.out.2.2.2
     clear hown hacc hk0 ho8
     go_roundg f
     case rel=>exact ⟨k+1,acc++[x],by go_num,by omega,ho9,hacc9,hbel.trans hb8⟩
     case measure=>omega
/-- A history such as is gone through. -/
def FewH (h:HisL):Prop:=(h.seeds.length≤24 ∧ ∀ x∈h.seeds,x.refs.length≤10∧x.text.length≤300)∧h.out.length≤10∧h.frm.length≤10∧h.cut.length≤10
set_option maxRecDepth 100000 in
set_option maxHeartbeats 4000000 in
theorem named_calls (h:HisL) (hf:FewH h) (vs vo vf vc:Value) (w:World) (hh:HisOk w vs vo vf vc h) :
 Calls Tryz.prog 9 #[.agg #[vs,vo,vf,vc]] w fun e w'=>(∃ v r,e = .returned v∧OwnIds w' w.heap.size v r∧(∀ x∈r,x.length=32)∧r.length≤24)∧Below w.heap.size w w':=by
 obtain ⟨W1,hW1⟩ : ∃ W1,w.alloc (.cells #[vs,vo,vf,vc] 25)=W1:=⟨_,rfl⟩
 have s1:Blk W1 w.heap.size 25 #[vs,vo,vf,vc]:=by rw [←hW1];exact Blk.new _ _ _
 have b1:Below w.heap.size w W1:=by rw [←hW1];exact (Below.refl _ _).alloc (Nat.le_refl _) _
 have c0:W1.cell? ⟨w.heap.size,0,none⟩=some vs:=s1.cell 0
 have hgr:=Lib.hid (grow_calls h.seeds (Nat.le_trans hf.1.1 (by omega)) hf.1.2 vs W1 (hh.seeds.below b1))
 have hsl:=hf.1.1
 clear hh hf s1
 go_enter Tryz.func9,Tryz.ntmps9
 go_wp2_with (first
  | ((with_reducible refine hgr.out.mono ?_);rintro e w2 ⟨⟨vm,es,vi,ids,rfl,hD,hel,hoi,hil,hok,hap⟩,hb2⟩
     have hm1:(#[vm]:Array Value).size=1:=rfl
     have hm2:(#[vm]:Array Value).all (·.oneCell')=true:=by simp [hD.one]
     obtain ⟨Ai,ci,rfl⟩:=own_form' hoi)
  | ((with_reducible refine lit_new 28 (.tmp 3) (.tmp 9) #[vm] 1 szDSt hm1 hm2 _ ?_ ?_ ?_ ?_)
     ·first | exact hm1 | rfl
     ·rfl
     ·rfl
     intro W3 hb3 hbl3))
 go_ret
 exact ⟨⟨_,ids,rfl,own_low' (own_below hoi hbl3) b1.size,hok,Nat.le_trans hil hsl⟩,bthen b1 b1.size (bthen hb2 hb2.size hbl3)⟩
end Go.Proofs.YtlojebhcemfodaaGreatDoor
namespace Go.Proofs.YtlojebhcemfodaaGreatDoor
open Go.RowKit
attribute [local go_sem ↓] ldvI_eq ldvS_eq ldvT_eq
theorem StoOk.sub {s s':List StL} (h:StoOk s) (hs:s'.Sublist s):StoOk s':=⟨fun x hx=>h.each x (hs.subset hx),h.sorted.sublist hs,Nat.le_trans hs.length_le h.few⟩
theorem DocSt.sub {w w':World} {vm v':Value} {es:List DiL} (h:DocSt w vm es) (p:DiL→Bool) (ho:OwnDits w' 0 v' (es.filter p)) (hs : ∀ k,DocUse vm es k→w'.heap[k]?=w.heap[k]?):DocSt w' v' (es.filter p):=
 ⟨ho,fun e he=>(h.same hs).each e (List.mem_filter.1 he).1,h.ok.sub ((List.filter_sublist).map _)⟩
/-- What Few tells. -/
def Few12R (h:HisL) (w:World) (e:Ending) (w':World):Prop:=(e = .returned (.tuple #[.agg #[.slice none 0 0], .bool false]))∨(∃ vm es,e = .returned (.tuple #[.agg #[vm], .bool true])∧FewH h∧DocSt w' vm es∧es.length≤24)
theorem len_filter_take {α:Type} (p:α→Bool) (l:List α) (k:Nat):((l.take k).filter p).length≤k:=Nat.le_trans (List.length_filter_le _ _) (by rw [List.length_take];exact Nat.min_le_left _ _)
set_option maxRecDepth 100000 in
set_option maxHeartbeats 8000000 in
theorem few12_calls (h:HisL) (vs vo vf vc:Value) (w:World) (hh:HisOk w vs vo vf vc h) :
 Calls Tryz.prog 6 #[.agg #[vs,vo,vf,vc]] w fun e w'=>Few12R h w e w'∧Below w.heap.size w w':=by
 obtain ⟨W1,hW1⟩ : ∃ W1,w.alloc (.cells #[vs,vo,vf,vc] 25)=W1:=⟨_,rfl⟩
 have s1:Blk W1 w.heap.size 25 #[vs,vo,vf,vc]:=by rw [←hW1];exact Blk.new _ _ _
 have b1:Below w.heap.size w W1:=by rw [←hW1];exact (Below.refl _ _).alloc (Nat.le_refl _) _
 obtain ⟨W2,hW2⟩ : ∃ W2,W1.alloc (.cells #[.slice none 0 0] 28)=W2:=⟨_,rfl⟩
 have r2:Blk W2 W1.heap.size 28 #[.slice none 0 0]:=by rw [←hW2];exact Blk.new _ _ _
 have bb2:Below W1.heap.size W1 W2:=by rw [←hW2];exact (Below.refl _ _).alloc (Nat.le_refl _) _
 have b2:=bthen b1 b1.size bb2
 have s2:=s1.below bb2 s1.lt
 have hle1:w.heap.size≤W1.heap.size:=b1.size
 have hlt1:W1.heap.size<W2.heap.size:=r2.lt
 have c0 : ∀ W,Below W2.heap.size W2 W→W.cell? ⟨w.heap.size,0,none⟩=some vs:=fun W hW=>(s2.below hW s2.lt).cell 0
 have c1 : ∀ W,Below W2.heap.size W2 W→W.cell? ⟨w.heap.size,1,none⟩=some vo:=fun W hW=>(s2.below hW s2.lt).cell 1
 have c2 : ∀ W,Below W2.heap.size W2 W→W.cell? ⟨w.heap.size,2,none⟩=some vf:=fun W hW=>(s2.below hW s2.lt).cell 2
 have c3 : ∀ W,Below W2.heap.size W2 W→W.cell? ⟨w.heap.size,3,none⟩=some vc:=fun W hW=>(s2.below hW s2.lt).cell 3
 have c02:=c0 W2 (Below.refl _ _)
 have hfw:Hid (Calls Tryz.prog 23 #[vs, .int .i64 24] W2 fun e w'=>FewB h.seeds 24 e∧Below W2.heap.size W2 w'):=Lib.hid (few_calls11 h.seeds 24 (by omega) vs W2 (hh.seeds.below b2))
 have hgr:=fun (h1:h.seeds.length≤24 ∧ ∀ x∈h.seeds,x.refs.length≤10∧x.text.length≤300) W (hW:Below w.heap.size w W)=>Lib.hid (grow_calls h.seeds (Nat.le_trans h1.1 (by omega)) h1.2 vs W (hh.seeds.below hW))
 have hid:=fun (ids:List Txt) (hok : ∀ x∈ids,x.length=32) (hil:ids.length≤1000) (v:Value) W (hW:Below w.heap.size w W) (hv:Ids W v ids) (ho10:h.out.length≤10)=>Lib.hid (ids12_calls ids hok hil v W hv h.out (by omega) vo (hh.out.below hW))
 have hbS:Tryz.prog.built 28 []=some #[.slice none 0 0]:=by kernel_rfl
 have hrb:=fun W=>run_build (P:=Tryz.prog) W _ _ _ hbS
 have hS0:(#[Value.slice none 0 0]:Array Value).size=1:=rfl
 have hS1:(#[Value.slice none 0 0]:Array Value).all (·.oneCell')=true:=by kernel_rfl
 have hszS : ∀ vm:Value,(Tryz.prog.info? 28).map (·.size)=some (#[vm]:Array Value).size:=fun vm=>szDSt
 obtain ⟨Ao,co,rfl,ho1,ho2,hato⟩:=hh.out
 obtain ⟨Af,cf,rfl,hf1,hf2,hatf⟩:=hh.frm
 obtain ⟨Ac,cc,rfl,hc1,hc2,hatc⟩:=hh.cut
 clear hh hato hatf hatc s1 s2
 obtain ⟨LO,hLO⟩ : ∃ LO,h.out.length=LO:=⟨_,rfl⟩
 obtain ⟨LF,hLF⟩ : ∃ LF,h.frm.length=LF:=⟨_,rfl⟩
 obtain ⟨LC,hLC⟩ : ∃ LC,h.cut.length=LC:=⟨_,rfl⟩
 rw [hLO] at ho1 hid
 rw [hLF] at hf1
 rw [hLC] at hc1
 simp only [hLO] at c1 hW1 ⊢
 simp only [hLF] at c2 hW1 ⊢
 simp only [hLC] at c3 hW1 ⊢
 go_enter Tryz.func6,Tryz.ntmps6
 go_upto_region 2 with (first
  | ((with_reducible refine hfw.out.mono ?_);rintro e w3 ⟨⟨b,rfl,hb⟩,hb3⟩))
 have b3:=bthen b2 b2.size hb3
 have r3:=r2.below hb3 r2.lt
 have d1:=c1 w3 hb3
 have d2:=c2 w3 hb3
 have d3:=c3 w3 hb3
 have d0:=c0 w3 hb3
 clear hfw c02 hW1 hW2
 cases b with
 | false=>
   clear hgr hid c0 c1 c2 c3 hb
   go_wp2_with (first
    | (refine wpList_store_row rfl 28 (.tmp 2) (.tmp 34) rfl W1.heap.size #[.slice none 0 0] rfl rfl _ _ r3 (hszS _) rfl hS1 ?_))
   refine bodyPost_ret (results_row_tmp rfl _ _ W1.heap.size _ _ _ _ rfl (setRow_heap _ _ _ _ _ _ r3) Tryz.underlying28 rfl (hszS _)) rfl ⟨.inl rfl,below_setRow b3 hle1 _⟩
 | true=>
   have hb:=hb rfl
   replace hgr:=hgr hb w3 b3
   by_cases hO:10<LO
   ·have hOi:(10:Int)<(LO:Int):=by omega
    clear hgr hid c0 c1 c2 c3 hb hLO hLF hLC
    go_wp2_with (first
     | (refine wpList_store_row rfl 28 (.tmp 2) (.tmp 34) rfl W1.heap.size #[.slice none 0 0] rfl rfl _ _ r3 (hszS _) rfl hS1 ?_))
    refine bodyPost_ret (results_row_tmp rfl _ _ W1.heap.size _ _ _ _ rfl (setRow_heap _ _ _ _ _ _ r3) Tryz.underlying28 rfl (hszS _)) rfl ⟨.inl rfl,below_setRow b3 hle1 _⟩
   ·have hOi : ¬ (10:Int)<(LO:Int):=by omega
    by_cases hF:10<LF
    ·have hFi:(10:Int)<(LF:Int):=by omega
     clear hgr hid c0 c1 c2 c3 hb hLO hLF hLC
     go_wp2_with (first
      | (refine wpList_store_row rfl 28 (.tmp 2) (.tmp 34) rfl W1.heap.size #[.slice none 0 0] rfl rfl _ _ r3 (hszS _) rfl hS1 ?_))
     refine bodyPost_ret (results_row_tmp rfl _ _ W1.heap.size _ _ _ _ rfl (setRow_heap _ _ _ _ _ _ r3) Tryz.underlying28 rfl (hszS _)) rfl ⟨.inl rfl,below_setRow b3 hle1 _⟩
    ·have hFi : ¬ (10:Int)<(LF:Int):=by omega
     by_cases hC:10<LC
     ·have hCi:(10:Int)<(LC:Int):=by omega
      clear hgr hid c0 c1 c2 c3 hb hLO hLF hLC
      go_wp2_with (first
       | (refine wpList_store_row rfl 28 (.tmp 2) (.tmp 34) rfl W1.heap.size #[.slice none 0 0] rfl rfl _ _ r3 (hszS _) rfl hS1 ?_))
      refine bodyPost_ret (results_row_tmp rfl _ _ W1.heap.size _ _ _ _ rfl (setRow_heap _ _ _ _ _ _ r3) Tryz.underlying28 rfl (hszS _)) rfl ⟨.inl rfl,below_setRow b3 hle1 _⟩
     ·have hCi : ¬ (10:Int)<(LC:Int):=by omega
      have hfin:Hid (∀ (vm:Value) (es:List DiL) (w':World) (e:Ending),e = .returned (.tuple #[.agg #[vm], .bool true])→DocSt w' vm es→es.length≤24→Few12R h w e w'):=Lib.hid fun vm es w' e he h1 h2 => .inr ⟨vm,es,he,⟨hb,by omega,by omega,by omega⟩,h1,h2⟩
      have hsl:=hb.1
      clear hb hLO hLF hLC c0 c2 c3
      go_upto_region 5 with (first
       | ((with_reducible refine hgr.out.mono ?_);rintro e w4 ⟨⟨vm,es,vi,ids,rfl,hD,hel,hoi,hil,hok,hap⟩,hb4⟩
          obtain ⟨Ai,ci,rfl⟩:=own_form' hoi
          obtain ⟨Am,cm,rfl⟩:=own_form' hD.own
          have hm2:(#[Value.slice Am es.length cm]:Array Value).all (·.oneCell')=true:=by simp [Value.oneCell']
          have hm1:(#[Value.slice Am es.length cm]:Array Value).size=1:=rfl)
       | ((with_reducible refine lit_new 28 (.tmp 5) (.tmp 39) #[.slice Am es.length cm] 1 szDSt hm1 hm2 _ ?_ ?_ ?_ ?_)
          ·first | exact hm1 | rfl
          ·rfl
          ·rfl
          intro W5 hb5 hbl5))
      have b4:=bthen b3 b3.size hb4
      have b5:=bthen b4 b4.size hbl5
      have r4:=r3.below hb4 r3.lt
      have r5:=r4.below hbl5 r4.lt
      have hoi5:=own_below hoi hbl5
      have hD5:=hD.below hbl5
      have c15:=c1 W5 (bthen hb3 hb3.size (bthen hb4 hb4.size hbl5))
      have hidc:=fun ho10=>hid ids hok (by omega) _ W5 b5 (SliceAt.of_own (fun e h=>idC_len (hok e h)) hoi5) ho10
      have hids0:Hid (ids.length=ids.length):=Lib.hid rfl
      clear hgr hid c1 d0 d1 d2 d3 r3 r4
      by_cases h0:0<ids.length
      ·have h0b:((ids.length:Int)==0)=false:=by rw [beq_eq_false_iff_ne];omega
       replace hidc:=Lib.hid (hidc (by omega)).out
       go_upto_region 9 with (first
        | ((with_reducible refine hidc.out.mono ?_);rintro e w6 ⟨⟨vg,gone,rfl,hog,hgk, -⟩,hb6⟩
           obtain ⟨Ag,cg,rfl⟩:=own_form' hog)
        | ((with_reducible refine lit_new 28 (.tmp 8) (.tmp 49) #[.slice none 0 0] 1 szDSt hS0 hS1 _ ?_ ?_ ?_ ?_)
           ·first | exact hS0 | rfl
           ·rfl
           ·rfl
           intro W7 hb7 hbl7))
       have hDD:=hD5.below hb6
       have hs6:=hb5.below hb6 hb5.lt
       have r6:=r5.below hb6 r5.lt
       have b6:=bthen b5 b5.size hb6
       have hN1:W1.heap.size<w6.heap.size:=r6.lt
       obtain ⟨N,hN⟩ : ∃ N,w6.heap.size=N:=⟨_,rfl⟩
       rw [hN] at hb7 hbl7 hN1
       have hgone:=SliceAt.of_own (fun e h=>idC_len (hgk e h)) hog
       have hin:=fun W (hW:Below N w6 W) (x:Txt) (hx:x.length=32)=>Lib.hid (in02_calls gone hgk _ x hx W (hgone.below (hN▸hW)))
       obtain ⟨B5,hB5⟩ : ∃ B5,w4.heap.size=B5:=⟨_,rfl⟩
       have hB5N:B5<N:=by rw [←hB5,←hN];exact hs6.lt
       rw [hB5] at hb5 hs6
       obtain ⟨A2,c2',hfe,hm3,hm4,hatm⟩:=hDD.at_
       injection hfe with e1 e2 e3
       subst e1 e3
       have heach:=hDD.each
       have hlen24:es.length≤24:=by omega
       have hL0:OwnDits W7 N (.slice none 0 0) ((es.take 0).filter fun e => !inL gone e.st.id):=by rw [List.take_zero];exact World.ownsRow_nil _ _ _ _
       rw [hN] at hatm
       go_wp2_with (fail)
       clear hog hidc hoi5 hD5 hoi hD r5 c15 hb5 hap b5 b4 hbl5
       go_loopg [9] es.length (fun f vi wr => ∃ (k:Nat) (vL:Value),vi = .int .i64 k∧k+f=es.length∧Blk wr N 28 #[vL]∧OwnDits wr N vL ((es.take k).filter fun e => !inL gone e.st.id)∧Below N w6 wr)
       case atStart=>exact ⟨0,_,rfl,by omega,hb7,hL0,hbl7⟩
       case round=>
        clear hL0 hb7 hbl7
        obtain ⟨k,vL,rfl,hkf,hL,hoL,hbel⟩:=hrel
        have hbel6:Below w6.heap.size w6 wr:=hN▸hbel
        have hsr:=hs6.below hbel6 hs6.lt
        have csr:=hsr.cell 0
        have hNr:N<wr.heap.size:=hL.lt
        cases gk with
        | zero=>
          have hki : ¬ (k:Int)<(es.length:Int):=by omega
          have hke:es.take k=es:=List.take_of_length_le (by omega)
          rw [hke] at hoL
          have hDr:=hDD.below hbel6
          have r7:=r6.below hbel6 r6.lt
          have lL:=run_ldvS hL
          have br:=bthen b6 b6.size hbel6
          have hnoR:=hDr.blk_ne r7 (by decide) (by decide) (by decide)
          have hne7:=own_blk_ne hoL r7 (by decide)
          obtain ⟨AL,cL,rfl⟩:=own_form' hoL
          have hLone:(#[Value.slice AL (es.filter fun e => !inL gone e.st.id).length cL]:Array Value).all (·.oneCell')=true:=by simp [Value.oneCell']
          clear hatm hin heach hke hL
          obtain ⟨fl,hfl⟩ : ∃ fl,(es.filter fun e => !inL gone e.st.id).length=fl:=⟨_,rfl⟩
          have hfl2:=Lib.hid hfl
          rw [hfl] at lL hLone hoL
          clear hfl
          go_wp2_with (first
           | (refine wpList_store_row rfl 28 (.tmp 2) (.tmp 77) rfl W1.heap.size #[.slice AL fl cL] rfl rfl _ _ r7 (hszS _) rfl hLone ?_))
          refine bodyPost_ret (results_row_tmp rfl _ _ W1.heap.size _ _ _ _ rfl (setRow_heap _ _ _ _ _ _ r7) Tryz.underlying28 rfl (hszS _)) rfl ⟨hfin.out _ (es.filter fun e => !inL gone e.st.id) _ _ rfl ((hDr.row hnoR _).sub _ (own_down (own_row hoL hN1 _) (Nat.zero_le _)) fun _ _=>rfl) (Nat.le_trans (List.length_filter_le _ _) hlen24),below_setRow br hle1 _⟩
        | succ f=>
          have hki:(k:Int)<(es.length:Int):=by omega
          have hkl:k<es.length:=by omega
          obtain ⟨ga,oa,rfl,hga,hca⟩:=hatm (by omega)
          obtain ⟨x,hx⟩ : ∃ x,es[k]?=some x:=⟨_,List.getElem?_eq_getElem hkl⟩
          have hxok:=heach x (List.mem_of_getElem? hx)
          have hxi:=hxok.id
          have hxr : ∀ W,Below N w6 W→W.rangeAt ga (oa+k*105) (ditC x):=fun W hW=>by
           rw [←hN] at hW hga
           exact rangeAt_below (hca k x hx) hga hW
          have hl1:=run_ldvI_at (dit_id (hxr wr hbel)) hxi
          have hin1:=hin wr hbel x.st.id hxi
          have hmore:(es.take (k+1)).filter (fun e => !inL gone e.st.id)=(es.take k).filter (fun e => !inL gone e.st.id)++(if inL gone x.st.id=false then [x] else []):=by
           rw [List.take_add_one,hx,List.filter_append]
           congr 1
           simp [List.filter_cons]
          have hacl:=len_filter_take (fun e => !inL gone e.st.id) es k
          obtain ⟨acc,hacc⟩ : ∃ acc,(es.take k).filter (fun e => !inL gone e.st.id)=acc:=⟨_,rfl⟩
          rw [hacc] at hoL hmore hacl
          generalize inL gone x.st.id=bi at *
          have hx105:(ditC x).toArray.size=105:=by rw [List.size_toArray,ditC_len hxok]
          have hx1:(ditC x).toArray.size=1*105:=hx105
          have hxone : ∀ u∈(ditC x).toArray.toList,u.oneCell'=true:=by rw [List.toList_toArray];exact ditC_one hxok
          have ft : ∀ (W:World),Below N w6 W→(ldvT ⟨ga,oa+k*105,none⟩).run Tryz.prog W = .ok (.agg (ditC x).toArray) W:=fun W hW=>run_loadVar_mid (P:=Tryz.prog) W ga (oa+k*105) 62 (ditC x) _ (hxr W hW) Tryz.underlying62 rfl (by rw [ditC_len hxok];exact szDit)
          clear hin heach hx hca hatm hxr hacc hDD
          obtain ⟨XC,hXC⟩ : ∃ XC,(ditC x).toArray=XC:=⟨_,rfl⟩
          rw [hXC] at hx105 hx1 hxone
          simp only [hXC] at ft
          replace hXC:=Lib.hid hXC
          cases bi with
          | true=>
            replace hmore:=Lib.hid (hmore.trans (List.append_nil _))
            clear ft
            go_wp2_with (first
             | ((with_reducible refine hin1.out.mono ?_);rintro e w8 ⟨rfl,hb8⟩))
            have hL8:=hL.below hb8 hL.lt
            have hoL8:=own_below hoL hb8
            have hb68:=hbel.trans (hb8.mono (Nat.le_of_lt hNr))
            clear hl1 hin1 hL hoL csr
            go_roundg f
            case rel=>exact ⟨k+1,vL,by go_num,by omega,hL8,by rw [hmore.out];exact hoL8,hb68⟩
            case measure=>omega
          | false=>
            replace hmore:=Lib.hid hmore
            go_upto_region 14 with (first
             | ((with_reducible refine hin1.out.mono ?_);rintro e w8 ⟨rfl,hb8⟩))
            have hL8:=hL.below hb8 hL.lt
            have hoL8:=own_below hoL hb8
            have hb68:=hbel.trans (hb8.mono (Nat.le_of_lt hNr))
            have hN8:N<w8.heap.size:=hL8.lt
            have hszN:=Nat.le_of_lt hN8
            have hs8:=hsr.below hb8 hsr.lt
            obtain ⟨AL,cL,rfl⟩:=own_form' hoL8
            have hpre:=preOk2 (i:=8) (j:=10) hoL8 hL8 (by decide)
            have hrB:=rows2 (i:=8) (j:=10) (p:=fun w=>World.ownsRow w N 62 105 (.slice AL acc.length cL) acc.length (rowsOf ditC acc)) (q:=fun w=>Blk w N 28 #[.slice AL acc.length cL]) (v := .slice AL acc.length cL) (fun k hk=>(World.ownsRow.lt hoL8 k hk).1) (Nat.le_refl N)
            have hAk:acc.length+1≤9223372036854775807:=by omega
            have hAb:(acc.length+1)*232≤140737488355328:=by omega
            have hwas : ∀ W,Blk W N 28 #[.slice AL acc.length cL]→W.cell? ⟨N,0,none⟩=some (.slice AL acc.length cL):=fun W h=>h.cell 0
            have hscell : ∀ W,Below N w8 W→W.cell? ⟨B5,0,none⟩=some (.slice (some ⟨ga,oa,none⟩) es.length cm):=fun W hW=>(Blk.below hs8 hW hB5N).cell 0
            clear hl1 hin1 hL hoL csr hsr hs8
            refine wp_region_goP 11 [(8,(Value.slice AL acc.length cL).ownBlock,fun w=>World.ownsRow w N 62 105 (.slice AL acc.length cL) acc.length (rowsOf ditC acc)),(10,some N,fun w=>Blk w N 28 #[.slice AL acc.length cL])] hpre (by kernel_rfl) (by kernel_rfl) (by kernel_rfl) (by kernel_rfl) ?_
            simp only [exSp]
            iterate 11 apply Exists.intro
            repeat
             first
              | ((with_reducible apply lx_ex)
                 ·(go_simp;done)
                 apply Exists.intro
                 apply And.intro
                 ·apply Eq.refl
                 apply And.intro
                 ·intro W hF hD
                  first
                   | (have hf:=(far_drew hF).below hszN hrB
                      have q0:=hscell W hf
                      have q1:=ft W (hb68.trans hf)
                      have q2:=hwas W (hD.was 1 rfl (by kernel_rfl))
                      go_simp
                      rfl)
                   | (have hf:=(far_drew hF).below hszN hrB
                      have q0:=hscell W hf
                      have q1:=ft W (hb68.trans hf)
                      go_simp
                      rfl)
                 simp only [Act.put,List.setIfInBounds_toArray,List.set_cons_zero,List.set_cons_succ])
              | ((with_reducible apply lx_pass)
                 ·(first | rfl | (go_simp;done))
                 ·apply Eq.refl
                 simp only [Act.put,List.setIfInBounds_toArray,List.set_cons_zero,List.set_cons_succ])
              | (first | (with_reducible apply lx_move') | (with_reducible apply lx_assign')
                 ·apply Eq.refl
                 apply Exists.intro
                 apply And.intro
                 ·(go_simp;rfl)
                 simp only [Act.put,List.setIfInBounds_toArray,List.set_cons_zero,List.set_cons_succ])
              | ((with_reducible apply lx_slice1 Tryz.ditTy (fun cs=>cs=XC) (by omega))
                 ·apply Eq.refl
                 apply Exists.intro
                 apply And.intro
                 ·(go_simp;rfl)
                 refine ⟨fun W hF hD=>?_,?_⟩
                 ·exact ⟨XC,rfl,hx105,rfl⟩
                 intro v
                 simp only [Act.put,List.setIfInBounds_toArray,List.set_cons_zero,List.set_cons_succ])
              | ((with_reducible apply lx_append1 Tryz.ditTy N (.slice AL acc.length cL) acc.length (rowsOf ditC acc) (fun xs=>xs=rowsOf ditC acc++XC.toList) hAk hAb)
                 ·exact hszN
                 ·first | exact List.Mem.head _ | exact List.Mem.tail _ (List.Mem.head _) | exact List.Mem.tail _ (List.Mem.tail _ (List.Mem.head _)) | exact List.Mem.tail _ (List.Mem.tail _ (List.Mem.tail _ (List.Mem.head _)))
                 ·apply Eq.refl
                 apply Exists.intro
                 apply Exists.intro
                 apply And.intro
                 ·(go_simp;rfl)
                 apply And.intro
                 ·(go_simp;rfl)
                 refine ⟨rfl,fun W hF hD=>?_,?_⟩
                 ·obtain ⟨F,g5,cs,rfl,_,hk5,rfl⟩:=hD.at 0 rfl (by kernel_rfl)
                  exact ⟨g5,_,rfl,hk5,hx105,hxone,rfl⟩
                 intro v
                 simp only [Act.put,List.setIfInBounds_toArray,List.set_cons_zero,List.set_cons_succ])
              | ((with_reducible apply lx_put N 0 #[.slice AL acc.length cL] 28)
                 ·exact (fun _=>by kernel_rfl)
                 ·exact (Nat.zero_lt_one)
                 ·first | exact List.Mem.head _ | exact List.Mem.tail _ (List.Mem.head _) | exact List.Mem.tail _ (List.Mem.tail _ (List.Mem.head _)) | exact List.Mem.tail _ (List.Mem.tail _ (List.Mem.tail _ (List.Mem.head _)))
                 ·apply Eq.refl
                 apply Exists.intro
                 apply Exists.intro
                 apply And.intro
                 ·(go_simp;rfl)
                 apply And.intro
                 ·(go_simp;rfl)
                 refine ⟨rfl,fun W hF hD=>?_,?_⟩
                 ·obtain ⟨F,xs,_,hv,_⟩:=hD.at 0 rfl (by kernel_rfl)
                  obtain ⟨A6,c6,rfl⟩:=own_form' hv
                  exact ⟨_,_,_,rfl⟩)
            refine lxP_nil ?_ fun w9 hF9 hD9=>?_
            ·exact List.nodup_nil
            obtain ⟨_,hg9,hb9⟩:=hD9 _ (.head _)
            obtain ⟨_,xs,rfl,hv9,_⟩:=hD9 _ (.tail _ (.head _))
            have hb69:=hb68.trans (hF9.below hszN hrB)
            clear hD9 hpre hrB hF9 ft hwas hscell hL8 hoL8
            have hkey : ∀ v,World.ownsRow w9 N 62 105 v (acc.length+1) (rowsOf ditC acc++XC.toList)→OwnDits w9 N v (acc++[x]):=fun v h=>by
             unfold OwnDits
             rw [List.length_append,rowsOf_append,rowsOf_one]
             rw [←hXC.out,List.toList_toArray] at h
             exact h
            have hoL9:=hkey _ hv9
            go_wp2_with (fail)
            go_roundg f
            case rel=>exact ⟨k+1,_,by go_num,by omega,hb9,by rw [hmore.out];exact hoL9,hb69⟩
            case measure=>omega
      ·obtain rfl:ids=[]:=List.length_eq_zero_iff.1 (by omega)
       have lS:=run_ldvS hb5
       have hnoR:=hD5.blk_ne r5 (by decide) (by decide) (by decide)
       clear hidc h0 hoi5 c15
       go_wp2_with (first
        | (refine wpList_store_row rfl 28 (.tmp 2) (.tmp 44) rfl W1.heap.size #[.slice Am es.length cm] rfl rfl _ _ r5 (hszS _) rfl hm2 ?_))
       refine bodyPost_ret (results_row_tmp rfl _ _ W1.heap.size _ _ _ _ rfl (setRow_heap _ _ _ _ _ _ r5) Tryz.underlying28 rfl (hszS _)) rfl ⟨hfin.out _ es _ _ rfl (hD5.row hnoR _) (by omega),below_setRow b5 hle1 _⟩
end Go.Proofs.YtlojebhcemfodaaGreatDoor
namespace Go.Proofs.YtlojebhcemfodaaGreatDoor
open Go.RowKit
def ldvH (p:Addr):Sem Value:=loadVar 25 p
theorem ldvH_eq (p:Addr):loadVar 25 p=ldvH p:=rfl
theorem run_ldvH {w:World} {g:Nat} {a b c d:Value} (h:Blk w g 25 #[a,b,c,d]):(ldvH ⟨g,0,none⟩).run Tryz.prog w = .ok (.agg #[a,b,c,d]) w:=run_loadVar_row w g _ _ _ _ _ h Tryz.underlying25 rfl (by kernel_rfl)
/-- What Few tells, with one letter for whether it is gone through. -/
def Few12B (h:HisL) (e:Ending) (w':World):Prop := ∃ A n c b,e = .returned (.tuple #[.agg #[.slice A n c], .bool b])∧(b=true → ∃ es,FewH h∧DocSt w' (.slice A n c) es∧es.length≤24)
theorem Few12R.b {h:HisL} {w w':World} {e:Ending} (hr:Few12R h w e w'):Few12B h e w':=by
 rcases hr with rfl | ⟨vm,es,rfl,h1,h2,h3⟩
 ·exact ⟨none,0,0,false,rfl,fun h=>by cases h⟩
 ·obtain ⟨A,c,rfl⟩:=own_form' h2.own
  exact ⟨A,_,c,true,rfl,fun _=>⟨es,h1,h2,h3⟩⟩
end Go.Proofs.YtlojebhcemfodaaGreatDoor
namespace Go.Proofs.YtlojebhcemfodaaGreatDoor
open Go.RowKit
section
variable {S:List StL} {cut cut' ini ini':List Txt}
theorem kind3_obj {x:Txt} (h:kindS S x=3) : ∃ o,objS S x=some o∧o.kind=3:=by
 unfold kindS at h
 unfold objS
 cases hg:getS S x with
 | none=>rw [hg] at h;simp at h
 | some s=>
   rw [hg] at h
   simp only at h ⊢
   cases hd:decO s.text with
   | none=>rw [hd] at h;simp at h
   | some o=>rw [hd] at h;exact ⟨o,rfl,h⟩
theorem link_next {o:ObjL} {x y:Txt} {l:LinkL} (ho:objS S x=some o) (hl:l∈linksL (cutO cut x o)) (he:l.id=y):y∈nextS S cut x:=by
 unfold nextS
 rw [ho]
 exact List.mem_map.2 ⟨l,hl,he⟩
theorem end_rch : ∀ (f:Nat) {x e:Txt},Rch S cut ini x→endS S f x=some e→Rch S cut ini e
 | 0,x,e,_,h=>by cases h
 | f+1,x,e,hx,h=>by
   unfold endS at h
   cases ho:objS S x with
   | none=>rw [ho] at h;cases h
   | some o=>
     rw [ho] at h
     simp only at h
     by_cases hk:o.kind=4
     ·rw [if_pos hk] at h
      refine end_rch f (hx.step (link_next ho (l:=⟨o.target,o.of_⟩) ?_ rfl)) h
      unfold cutO
      rw [if_neg (fun q=>by rw [hk] at q;exact absurd q.1 (by decide))]
      unfold linksL
      rw [if_neg (by rw [hk];decide),if_neg (by rw [hk];decide),if_pos hk]
      exact List.mem_singleton.2 rfl
     ·rw [if_neg hk] at h
      cases h
      exact hx
theorem par_next {x y:Txt} (hk:kindS S x=3) (hc:inL cut x=false) (hy:y∈parS S x):y∈nextS S cut x:=by
 obtain ⟨o,ho,h3⟩:=kind3_obj hk
 unfold parS at hy
 rw [ho] at hy
 refine link_next ho (l:=⟨y,3⟩) ?_ rfl
 unfold cutO
 rw [if_neg (fun q=>by rw [hc] at q;exact absurd q.2 (by decide))]
 unfold linksL
 rw [if_neg (by rw [h3];decide),if_pos h3]
 exact List.mem_cons_of_mem _ (List.mem_map.2 ⟨y,hy,rfl⟩)
theorem offerS_mem {seen:List Txt} {p x:Txt} (h:x∈offerS S seen p):x∈seen∨x=p:=by
 unfold offerS at h
 split at h
 ·rcases List.mem_append.1 h with h | h
  ·exact .inl h
  ·exact .inr (List.mem_singleton.1 h)
 ·exact .inl h
theorem ends_rch : ∀ (l:List Txt) {seen:List Txt},(∀ x∈l,Rch S cut ini x)→(∀ x∈seen,Rch S cut ini x) → ∀ x∈l.foldl (offerE S) seen,Rch S cut ini x
 | [],seen,_,hs=>hs
 | p::l,seen,hl,hs=>by
   refine ends_rch l (fun x hx=>hl x (List.mem_cons_of_mem _ hx)) fun x hx=>?_
   unfold offerE at hx
   cases he:endS S (S.length+1) p with
   | none=>rw [he] at hx;exact hs x hx
   | some e=>
     rw [he] at hx
     rcases offerS_mem hx with h | h
     ·exact hs x h
     ·rw [h]
      exact end_rch _ (hl p List.mem_cons_self) he
/-- What holds of what is seen, and told: reached; a child was told ahead. -/
structure WalkJ (S:List StL) (cut ini E seen out:List Txt):Prop where
 i:WalkI S seen out
 r : ∀ x∈seen,Rch S cut ini x
 s : ∀ x∈seen,x∈E ∨ ∃ y∈out,x∈parS S y
 o : ∀ (i:Nat) (x:Txt),out[i]?=some x→x∈E ∨ ∃ (k:Nat) (y:Txt),k<i∧out[k]?=some y∧x∈parS S y
theorem WalkJ.start : WalkJ S cut ini (endsL S ini) (endsL S ini) []:=⟨WalkI.start ini,ends_rch ini (fun x hx => .base hx) (fun x hx=>by simp at hx),fun x hx => .inl hx,fun i x hx=>by simp at hx⟩
theorem WalkJ.step {E seen out:List Txt} (h:WalkJ S cut ini E seen out) {n:Txt} (hn:n∈leftW seen out):WalkJ S cut ini E (if inL cut n=true then seen else offerL S seen (parS S n)) (out++[n]):=by
 have hns:=(mem_left.1 hn).1
 have hnew : ∀ x∈(if inL cut n=true then seen else offerL S seen (parS S n)),x∈seen∨(inL cut n=false∧x∈parS S n):=by
  intro x hx
  split at hx
  ·exact .inl hx
  ·rename_i hc
   rcases (offerL_law (S:=S) (parS S n) h.i.nd h.i.k3).2.2.2 x hx with h1 | h1
   ·exact .inl h1
   ·exact .inr ⟨by simpa using hc,h1⟩
 refine ⟨h.i.step hn,fun x hx=>?_,fun x hx=>?_,fun i x hx=>?_⟩
 ·rcases hnew x hx with h1 | ⟨hc,h1⟩
  ·exact h.r x h1
  ·exact (h.r n hns).step (par_next (h.i.k3 n hns) hc h1)
 ·rcases hnew x hx with h1 | ⟨_,h1⟩
  ·rcases h.s x h1 with h2 | ⟨y,hy,h2⟩
   ·exact .inl h2
   ·exact .inr ⟨y,List.mem_append_left _ hy,h2⟩
  ·exact .inr ⟨n,List.mem_append_right _ (List.mem_singleton.2 rfl),h1⟩
 ·by_cases hi:i<out.length
  ·rw [List.getElem?_append_left hi] at hx
   rcases h.o i x hx with h1 | ⟨k,y,hk,hy,h1⟩
   ·exact .inl h1
   ·exact .inr ⟨k,y,hk,by rw [List.getElem?_append_left (by omega)];exact hy,h1⟩
  ·have hil:i<(out++[n]).length:=(List.getElem?_eq_some_iff.1 hx).1
   have hie:i=out.length:=by rw [List.length_append,List.length_singleton] at hil;omega
   subst hie
   have hxn:x=n:=by simpa using hx.symm
   subst hxn
   rcases h.s x hns with h1 | ⟨y,hy,h1⟩
   ·exact .inl h1
   ·obtain ⟨k,hk,he⟩:=List.mem_iff_getElem.1 hy
    exact .inr ⟨k,y,hk,by rw [List.getElem?_append_left hk,List.getElem?_eq_getElem hk,he],h1⟩
theorem walkJ_end {E:List Txt} : ∀ (f:Nat) {seen out:List Txt},WalkJ S cut ini E seen out → ∃ seen',WalkJ S cut ini E seen' (walkW S cut f seen out)
 | 0,seen,out,h=>⟨seen,h⟩
 | f+1,seen,out,h=>by
   cases hb:bestT S seen out with
   | none=>rw [walk_stop hb];exact ⟨seen,h⟩
   | some n=>rw [walkW_go hb];exact walkJ_end f (h.step (best_some hb).1)
/-- What the walk tells. -/
structure WalkT (S:List StL) (cut ini l:List Txt):Prop where
 k3 : ∀ x∈l,kindS S x=3
 r : ∀ x∈l,Rch S cut ini x
 nd:l.Nodup
 o : ∀ (i:Nat) (x:Txt),l[i]?=some x→x∈endsL S ini ∨ ∃ (k:Nat) (y:Txt),k<i∧l[k]?=some y∧x∈parS S y
theorem walkS_law (S:List StL) (cut ini:List Txt):WalkT S cut ini (walkS S cut ini):=by
 obtain ⟨seen,h⟩:=walkJ_end (S.length+1) (WalkJ.start (S:=S) (cut:=cut) (ini:=ini))
 exact ⟨fun x hx=>h.i.k3 x (h.i.sub x hx),fun x hx=>h.r x (h.i.sub x hx),h.i.ndo,h.o⟩
theorem walkS_ok (hS:StoOk S) {x:Txt} (hx:x∈walkS S cut ini):x.length=32:=by
 obtain ⟨s,hs,he⟩:=List.mem_map.1 (kind3_mem ((walkS_law S cut ini).k3 x hx))
 rw [←he,(hS.each s hs).1]
 exact shaOf_length _
end
end Go.Proofs.YtlojebhcemfodaaGreatDoor
namespace Go.Proofs.YtlojebhcemfodaaGreatDoor
open Go.RowKit
attribute [local go_sem ↓] ldvI_eq ldvS_eq
section
variable {w:World} {vm:Value} {es:List DiL}
/-- What the document's Object tells: its time, its parents. -/
def ObjP (S:List StL) (n:Txt) (e:Ending) (w:World):Prop := ∃ X vp,e = .returned (.agg X)∧X.size=72∧X[36]?=some (.int .u32 (timeS S n))∧X[35]?=some vp∧Ids w vp (parS S n)
theorem docObjP_calls {w0:World} (h:DocSt w0 vm es) (hb:Below w0.heap.size w0 w) (n:Txt) (hn:n.length=32):Calls Tryz.prog 21 #[.agg #[vm], .agg (u8s n)] w fun e w'=>ObjP (es.map (·.st)) n e w0∧Below w.heap.size w w':=by
 refine (docObjectW_calls h hb n hn).mono fun e w' ⟨q1,q2⟩=>⟨?_,q2⟩
 unfold ObjG at q1
 unfold ObjP
 cases hG:getS (es.map (·.st)) n with
 | none=>
   rw [hG] at q1
   have ht:timeS (es.map (·.st)) n=0:=by unfold timeS;rw [objS_none hG]
   have hp:parS (es.map (·.st)) n=[]:=by unfold parS;rw [objS_none hG]
   rw [ht,hp]
   exact ⟨zObj, .slice none 0 0,q1,zObj_size,by kernel_rfl,by kernel_rfl,SliceAt.nil⟩
 | some x=>
   rw [hG] at q1
   obtain ⟨o,A1,A2,k1,k2,hd,rfl,hv⟩:=q1
   have ho:=objS_some hG hd
   have ht:timeS (es.map (·.st)) n=o.time:=by unfold timeS;rw [ho]
   have hp:parS (es.map (·.st)) n=o.pars:=by unfold parS;rw [ho]
   refine ⟨_, .slice A2 o.pars.length k2,rfl,by rw [List.size_toArray,objC_len hv.ok],?_,?_,?_⟩
   ·rw [ht,List.getElem?_toArray];exact (objC_at hv.ok.tree _ _).2
   ·rw [List.getElem?_toArray];exact (objC_at hv.ok.tree _ _).1
   ·rw [hp];exact hv.pars
theorem run_field_time {X:Array Value} {v:Value} (h:X[36]?=some v) (W:World):(Instr.field 54 (.agg X) 5).run Tryz.prog W = .ok v W:=by
 unfold Instr.field
 simp [run_underlying Tryz.underlying54,part,asAgg,isAgg,h]
theorem run_field_pars {X:Array Value} {v:Value} (h:X[35]?=some v) (W:World):(Instr.field 54 (.agg X) 4).run Tryz.prog W = .ok v W:=by
 unfold Instr.field
 simp [run_underlying Tryz.underlying54,part,asAgg,isAgg,h]
set_option maxRecDepth 100000 in
set_option maxHeartbeats 4000000 in
theorem docAhead_calls (h:DocSt w vm es) (a b:Txt) (ha:a.length=32) (hb:b.length=32) :
 Calls Tryz.prog 43 #[.agg #[vm], .agg (u8s a), .agg (u8s b)] w fun e w'=>e = .returned (.bool (aheadS (es.map (·.st)) a b))∧Below w.heap.size w w':=by
 obtain ⟨W1,W2,hW1,hW2,b2,hl1,hl2,hf⟩:=boxSt (w:=w) vm a ha
 obtain ⟨W3,hW3⟩ : ∃ W3,W2.alloc (.cells (u8s b) 42)=W3:=⟨_,rfl⟩
 have n3:Blk W3 W2.heap.size 42 (u8s b):=by rw [←hW3];exact Blk.new _ _ _
 have bb3:Below W2.heap.size W2 W3:=by rw [←hW3];exact (Below.refl _ _).alloc (Nat.le_refl _) _
 have b3:=bthen b2 b2.size bb3
 have lS:=fun W (hW:Below W3.heap.size W3 W)=>run_ldvS (hf W (bthen bb3 bb3.size hW)).2.1
 have lA:=fun W (hW:Below W3.heap.size W3 W)=>(hf W (bthen bb3 bb3.size hW)).2.2
 have lB:=fun W (hW:Below W3.heap.size W3 W)=>run_ldvI_at (range_blk (n3.below hW n3.lt)) hb
 have hoA:=fun W (hW:Below W3.heap.size W3 W)=>Lib.hid (docObjP_calls (h.below (bthen b3 b3.size hW)) (Below.refl _ _) a ha)
 have hoB:=fun W (hW:Below W3.heap.size W3 W)=>Lib.hid (docObjP_calls (h.below (bthen b3 b3.size hW)) (Below.refl _ _) b hb)
 have hls:=fun W=>Lib.hid (refLess_calls a b ha hb W)
 obtain ⟨R,hR⟩ : ∃ R,aheadS (es.map (·.st)) a b=R:=⟨_,rfl⟩
 rw [hR]
 unfold aheadS aheadL at hR
 unfold ObjP at hoA hoB
 replace hR:=Lib.hid hR
 generalize timeS (es.map (·.st)) a=TA at *
 generalize timeS (es.map (·.st)) b=TB at *
 generalize Op.bytesLess a b=lb at *
 obtain ⟨NA,hNA⟩ : ∃ NA,u8s a=NA:=⟨_,rfl⟩
 obtain ⟨NB,hNB⟩ : ∃ NB,u8s b=NB:=⟨_,rfl⟩
 rw [hNA] at hW2 lA hoA hls ⊢
 rw [hNB] at hW3 lB hoB hls ⊢
 have lS3:=lS W3 (Below.refl _ _)
 have lA3:=lA W3 (Below.refl _ _)
 have hoA3:=hoA W3 (Below.refl _ _)
 clear h hf n3 hNA hNB
 by_cases hT:TA=TB
 ·subst hT
  have hr2:lb=R:=by have:=hR.out;rwa [if_pos rfl] at this
  have hne:((TA:Int) != (TA:Int))=false:=by simp
  clear hR
  go_enter Tryz.func43,Tryz.ntmps43
  go_wp2_with (first
   | ((with_reducible refine hoA3.out.mono ?_);rintro e w4 ⟨⟨X,vp,rfl,hX72,hXt,hXp,_⟩,hb4⟩
      have lS4:=lS w4 hb4
      have lB4:=lB w4 hb4
      have ft:=run_field_time hXt w4
      have hoB4:=hoB w4 hb4)
   | ((with_reducible refine hoB4.out.mono ?_);rintro e w5 ⟨⟨Y,vq,rfl,hY72,hYt,hYp,_⟩,hb5⟩
      have b45:=bthen hb4 hb4.size hb5
      have fu:=run_field_time hYt w5
      have lA5:=lA w5 b45
      have lB5:=lB w5 b45
      have hls5:=hls w5)
   | ((with_reducible refine hls5.out.mono ?_);rintro e w6 ⟨rfl,hb6⟩))
  go_ret
  exact ⟨by rw [←hr2];rfl,bthen b3 b3.size (bthen b45 b45.size hb6)⟩
 ·have hr2:decide (TB<TA)=R:=by have:=hR.out;rwa [if_neg hT] at this
  have hne:((TA:Int) != (TB:Int))=true:=by simp;omega
  clear hR
  go_enter Tryz.func43,Tryz.ntmps43
  go_wp2_with (first
   | ((with_reducible refine hoA3.out.mono ?_);rintro e w4 ⟨⟨X,vp,rfl,hX72,hXt,hXp,_⟩,hb4⟩
      have lS4:=lS w4 hb4
      have lB4:=lB w4 hb4
      have ft:=run_field_time hXt w4
      have hoB4:=hoB w4 hb4)
   | ((with_reducible refine hoB4.out.mono ?_);rintro e w5 ⟨⟨Y,vq,rfl,hY72,hYt,hYp,_⟩,hb5⟩
      have b45:=bthen hb4 hb4.size hb5
      have fu:=run_field_time hYt w5
      have lA5:=lA w5 b45
      have lB5:=lB w5 b45
      have hls5:=hls w5))
  go_ret
  exact ⟨by rw [←hr2];rfl,bthen b3 b3.size b45⟩
set_option maxRecDepth 100000 in
set_option maxHeartbeats 8000000 in
theorem docEnds_calls (h:DocSt w vm es) (ini:List Txt) (hiok : ∀ x∈ini,x.length=32) (hil:ini.length≤800000) (vf:Value) (hvf:Ids w vf ini) :
 Calls Tryz.prog 22 #[.agg #[vm],vf] w fun e w' => ∃ v,e = .returned v∧OwnIds w' w.heap.size v (endsL (es.map (·.st)) ini)∧(∀ x∈endsL (es.map (·.st)) ini,x.length=32)∧Below w.heap.size w w':=by
 obtain ⟨W1,hW1⟩ : ∃ W1,w.alloc (.cells #[vm] 28)=W1:=⟨_,rfl⟩
 have s1:Blk W1 w.heap.size 28 #[vm]:=by rw [←hW1];exact Blk.new _ _ _
 have b1:Below w.heap.size w W1:=by rw [←hW1];exact (Below.refl _ _).alloc (Nat.le_refl _) _
 have hsz1:=b1.size
 have l1:=fun W (hW:Below W1.heap.size W1 W)=>run_ldvS (s1.below hW s1.lt)
 have hen:=fun W (hW:Below w.heap.size w W) (n:Txt) (hn:n.length=32)=>docEnd_calls (h.below hW) n hn
 have hki:=fun W (hW:Below w.heap.size w W) (n:Txt) (hn:n.length=32)=>Lib.hid (docKind_calls (h.below hW) n hn)
 have hzi:=zeroIdV
 have hszI:(Tryz.prog.info? 42).map (·.size)=some (u8s noId).size:=by rw [u8s_size];exact sz32
 have hZ1:=u8s_one noId
 obtain ⟨S,hS⟩ : ∃ S,es.map (·.st)=S:=⟨_,rfl⟩
 have hel:es.length=S.length:=by rw [←hS,List.length_map]
 rw [hS] at hen hki ⊢
 rw [hel] at hen
 clear hel
 obtain ⟨R,hR⟩ : ∃ R,endsL S ini=R:=⟨_,rfl⟩
 rw [hR]
 replace hR:=Lib.hid hR
 obtain ⟨Af,cf,rfl,hf1,hf2,hatf⟩:=hvf
 obtain ⟨vms,hvms⟩ : ∃ vms:Array Value,vms = #[vm]:=⟨_,rfl⟩
 clear hS h s1 hvms
 go_enter Tryz.func22,Tryz.ntmps22
 go_wp2_with (fail)
 go_loopg [5,6] ini.length (fun f vo vi wr => ∃ (k:Nat) (acc:List Txt),vi = .int .i64 k∧k+f=ini.length∧OwnIds wr W1.heap.size vo acc∧(∀ x∈acc,x.length=32)∧Hid (acc=endsL S (ini.take k))∧acc.length≤k∧Below W1.heap.size W1 wr)
 case atStart=>exact ⟨0,[],rfl,by omega,World.ownsRow_nil _ _ _ _,fun x hx=>by simp at hx,Lib.hid rfl,by simp,Below.refl _ _⟩
 case round=>
  clear hW1
  obtain ⟨k,acc,rfl,hkf,hown,hok,hacc,hal,hbel⟩:=hrel
  have hbs:=hbel.size
  have hbr:=bthen b1 hsz1 hbel
  obtain ⟨Ao,co,rfl⟩:=own_form' hown
  cases gk with
  | zero=>
    have hki' : ¬ (k:Int)<(ini.length:Int):=by omega
    have hke:ini.take k=ini:=List.take_of_length_le (by omega)
    have hRa:acc=R:=by rw [hacc.out,hke];exact hR.out
    have HRa:=Lib.hid hRa
    clear hatf hacc hR hRa hen hki hke
    go_wp2_with (fail)
    go_ret
    rw [←HRa.out]
    exact ⟨_,rfl,own_low' hown hsz1,hok,hbr⟩
  | succ f=>
    have hki':(k:Int)<(ini.length:Int):=by omega
    obtain ⟨gf,of_,rfl,hgf,hcf⟩:=hatf (by omega)
    obtain ⟨x,hx⟩ : ∃ x,ini[k]?=some x:=⟨_,List.getElem?_eq_getElem (by omega)⟩
    have hxi:=hiok x (List.mem_of_getElem? hx)
    have hlx:=fun W (hW:Below wr.heap.size wr W)=>run_ldvI_at (show World.rangeAt W gf (of_+k*32) (u8s x).toList from rangeAt_below (hcf k x hx) hgf (bthen hbr hbr.size hW)) hxi
    have lSr:=fun W (hW:Below wr.heap.size wr W)=>l1 W (bthen hbel hbs hW)
    have hmore:Hid (endsL S (ini.take (k+1))=offerE S acc x):=Lib.hid (by rw [endsL_more hx,←hacc.out])
    have hen2:=fun W (hW:Below wr.heap.size wr W)=>hen W (bthen hbr hbr.size hW) x hxi
    clear hx hcf hatf l1 hen hacc
    unfold offerE at hmore
    cases hE:endS S (S.length+1) x with
    | none=>
      rw [hE] at hmore hen2
      have hen3 : ∀ W,Below wr.heap.size wr W→Calls Tryz.prog 15 #[.agg #[vm], .agg (u8s x)] W fun e w'=>e = .returned (.tuple #[.agg (u8s noId), .bool false])∧Below W.heap.size W w':=hen2
      have hin:=fun W (hv:Ids W (.slice Ao acc.length co) acc)=>Lib.hid (in02_calls acc hok _ noId (by rfl) W hv)
      have hldz : ∀ W g,Blk W g 42 (u8s noId)→(ldvI ⟨g,0,none⟩).run Tryz.prog W = .ok (.agg (u8s noId)) W:=fun W g h=>run_ldvI_at (range_blk h) rfl
      generalize inL acc noId=bi at *
      clear hE hen2 hki
      generalize u8s noId=Z at *
      go_upto_region 5 with (fail)
      refine wp_region_go0 12 (by kernel_rfl) (by kernel_rfl) (by kernel_rfl) (by kernel_rfl) ?_
      simp only [exSp]
      iterate 12 apply Exists.intro
      repeat
       first
        | ((with_reducible apply lx0_ex)
           ·(go_simp;done)
           apply Exists.intro
           apply And.intro
           ·apply Eq.refl
           apply And.intro
           ·intro W hW hD
            have q0:=lSr W hW
            have q1:=hlx W hW
            have q2:=hen3 W hW
            go_simp
            first
             | rfl
             | (with_reducible exact q2)
           simp only [Act.put,List.setIfInBounds_toArray,List.set_cons_zero,List.set_cons_succ])
        | ((with_reducible apply lx0_pass)
           ·(first | rfl | (go_simp;done))
           ·apply Eq.refl
           simp only [Act.put,List.setIfInBounds_toArray,List.set_cons_zero,List.set_cons_succ])
        | ((with_reducible apply lx_al 42 Z hzi)
           ·apply Eq.refl
           intro v
           simp only [Act.put,List.setIfInBounds_toArray,List.set_cons_zero,List.set_cons_succ])
        | ((with_reducible apply lx_st' 9 42 Z hszI (by kernel_rfl))
           ·exact rfl
           ·apply Eq.refl
           apply Exists.intro
           apply Exists.intro
           apply And.intro
           ·(go_simp;rfl)
           apply And.intro
           ·(go_simp;rfl)
           refine ⟨?_,fun W hW hD=>?_,?_⟩
           ·first | exact List.Mem.head _ | exact List.Mem.tail _ (List.Mem.head _) | exact List.Mem.tail _ (List.Mem.tail _ (List.Mem.head _)) | exact List.Mem.tail _ (List.Mem.tail _ (List.Mem.tail _ (List.Mem.head _)))
           ·exact ⟨Z,rfl,rfl,hZ1⟩)
      refine lx0_nil ?_ fun w5 hW5 hD5=>?_
      ·exact (by simp [stsOf])
      obtain ⟨_,g7,cs7,rfl,hcs7,hg7,_,hb7⟩:=hD5 _ (.head _)
      obtain rfl:Z=cs7:=by injection hcs7
      have hown5:=own_below hown hW5
      have lz5:=hldz w5 g7 hb7
      have hin5:=hin w5 (SliceAt.of_own (fun e h=>idC_len (hok e h)) hown5)
      have b5:=bthen hbel hbs hW5
      clear hD5 hcs7 hin hldz hen3 hlx
      go_wp2_with (first
       | ((with_reducible refine hin5.out.mono ?_);rintro e w6 ⟨rfl,hb6⟩))
      have hown6:=own_below hown5 hb6
      have b6:=bthen hbel hbs (bthen hW5 hW5.size hb6)
      go_roundg f
      case rel=>exact ⟨k+1,acc,by go_num,by omega,hown6,hok,Lib.hid hmore.out.symm,by omega,b6⟩
      case measure=>omega
    | some m=>
      rw [hE] at hmore hen2
      have hmi:=endS_ok _ _ _ hxi hE
      have hen3 : ∀ W,Below wr.heap.size wr W→Calls Tryz.prog 15 #[.agg #[vm], .agg (u8s x)] W fun e w'=>e = .returned (.tuple #[.agg (u8s m), .bool true])∧Below W.heap.size W w':=hen2
      have hin:=fun W (hv:Ids W (.slice Ao acc.length co) acc)=>Lib.hid (in02_calls acc hok _ m hmi W hv)
      have hldz : ∀ W g,Blk W g 42 (u8s m)→(ldvI ⟨g,0,none⟩).run Tryz.prog W = .ok (.agg (u8s m)) W:=fun W g h=>run_ldvI_at (range_blk h) hmi
      have hkm:=fun W (hW:Below wr.heap.size wr W)=>hki W (bthen hbr hbr.size hW) m hmi
      have hm32:(u8s m).size=32:=by rw [u8s_size,hmi]
      have hm132:(u8s m).size=1*32:=hm32
      have hm1:=u8s_one m
      have hm1l : ∀ u∈(u8s m).toList,u.oneCell'=true:=idC_one m
      have hmz:(u8s m).size=(u8s noId).size:=by rw [hm32,u8s_size];rfl
      have hAk:acc.length+1≤9223372036854775807:=by omega
      have hAb:(acc.length+1)*32≤140737488355328:=by omega
      have hlen2:Hid ((acc++[m]).length=acc.length+1):=Lib.hid (by rw [List.length_append];rfl)
      have hrow2:Hid (rowsOf idC (acc++[m])=rowsOf idC acc++(u8s m).toList):=Lib.hid (by rw [rowsOf_append,rowsOf_one];rfl)
      have hok2 : ∀ y∈acc++[m],y.length=32:=fun y hy=>(List.mem_append.1 hy).elim (hok y) fun e=>by rw [List.mem_singleton.1 e];exact hmi
      have hmo:Hid (endsL S (ini.take (k+1))=if (!inL acc m&&kindS S m==3)=true then acc++[m] else acc):=hmore
      generalize inL acc m=bi at *
      generalize kindS S m=K at *
      clear hE hen2 hki hmore
      generalize u8s noId=Z at *
      obtain ⟨M,hM⟩ : ∃ M,u8s m=M:=⟨_,rfl⟩
      rw [hM] at hen3 hin hldz hkm hm32 hm132 hm1 hm1l hmz hrow2
      clear hM
      go_upto_region 5 with (fail)
      refine wp_region_go0 12 (by kernel_rfl) (by kernel_rfl) (by kernel_rfl) (by kernel_rfl) ?_
      simp only [exSp]
      iterate 12 apply Exists.intro
      repeat
       first
        | ((with_reducible apply lx0_ex)
           ·(go_simp;done)
           apply Exists.intro
           apply And.intro
           ·apply Eq.refl
           apply And.intro
           ·intro W hW hD
            have q0:=lSr W hW
            have q1:=hlx W hW
            have q2:=hen3 W hW
            go_simp
            first
             | rfl
             | (with_reducible exact q2)
           simp only [Act.put,List.setIfInBounds_toArray,List.set_cons_zero,List.set_cons_succ])
        | ((with_reducible apply lx0_pass)
           ·(first | rfl | (go_simp;done))
           ·apply Eq.refl
           simp only [Act.put,List.setIfInBounds_toArray,List.set_cons_zero,List.set_cons_succ])
        | ((with_reducible apply lx_al 42 Z hzi)
           ·apply Eq.refl
           intro v
           simp only [Act.put,List.setIfInBounds_toArray,List.set_cons_zero,List.set_cons_succ])
        | ((with_reducible apply lx_st' 9 42 Z hszI (by kernel_rfl))
           ·exact rfl
           ·apply Eq.refl
           apply Exists.intro
           apply Exists.intro
           apply And.intro
           ·(go_simp;rfl)
           apply And.intro
           ·(go_simp;rfl)
           refine ⟨?_,fun W hW hD=>?_,?_⟩
           ·first | exact List.Mem.head _ | exact List.Mem.tail _ (List.Mem.head _) | exact List.Mem.tail _ (List.Mem.tail _ (List.Mem.head _)) | exact List.Mem.tail _ (List.Mem.tail _ (List.Mem.tail _ (List.Mem.head _)))
           ·exact ⟨M,rfl,hmz,hm1⟩)
      refine lx0_nil ?_ fun w5 hW5 hD5=>?_
      ·exact (by simp [stsOf])
      obtain ⟨_,g7,cs7,rfl,hcs7,hg7,_,hb7⟩:=hD5 _ (.head _)
      obtain rfl:M=cs7:=by injection hcs7
      have hown5:=own_below hown hW5
      have lz5:=hldz w5 g7 hb7
      have hin5:=hin w5 (SliceAt.of_own (fun e h=>idC_len (hok e h)) hown5)
      clear hD5 hcs7 hin hen3 hlx
      cases bi with
      | true=>
        have hmo2:Hid (acc=endsL S (ini.take (k+1))):=Lib.hid (by rw [hmo.out];rfl)
        clear hmo hkm hldz
        go_wp2_with (first
         | ((with_reducible refine hin5.out.mono ?_);rintro e w6 ⟨rfl,hb6⟩))
        have hown6:=own_below hown5 hb6
        have b6:=bthen hbel hbs (bthen hW5 hW5.size hb6)
        go_roundg f
        case rel=>exact ⟨k+1,acc,by go_num,by omega,hown6,hok,hmo2,by omega,b6⟩
        case measure=>omega
      | false=>
        by_cases hK:K=3
        ·have hKb:(K==3)=true:=by simp [hK]
         have hmo2:Hid (acc++[m]=endsL S (ini.take (k+1))):=Lib.hid (by rw [hmo.out,hKb];rfl)
         clear hmo hK
         go_wp2_with (first
          | ((with_reducible refine hin5.out.mono ?_);rintro e w6 ⟨rfl,hb6⟩
             have b56:=bthen hW5 hW5.size hb6
             have lS6:=lSr w6 b56
             have lz6:=hldz w6 g7 (hb7.below hb6 hb7.lt)
             have hk6:=hkm w6 b56)
          | ((with_reducible refine hk6.out.mono ?_);rintro e w7 ⟨rfl,hb7'⟩
             have b57:=bthen b56 b56.size hb7'
             have lz7:=hldz w7 g7 ((hb7.below hb6 hb7.lt).below hb7' (hb7.below hb6 hb7.lt).lt)
             have hown7:=own_below (own_below hown5 hb6) hb7'
             have hsz7:W1.heap.size≤w7.heap.size:=Nat.le_trans hbs b57.size)
          | ((with_reducible refine lit_slice1 (.tmp 40) Tryz.idsTy M hm32 (by omega) ?_ ?_);rfl)
          | ((with_reducible refine lit_append_new (.tmp 39) (.tmp 41) 1 _ Tryz.idsTy hown7 M hm132 hm1l hAk hAb hsz7 ?_ ?_ ?_);rfl;rfl
             intro v8 w8 ho8 hb8 hg8 hn8
             clear hg8 hn8))
         have ho9:OwnIds w8 W1.heap.size v8 (acc++[m]):=by unfold OwnIds;rw [hlen2.out,hrow2.out];exact ho8
         have b8:=(bthen hbel hbs b57).trans hb8
         clear ho8 hown7 hown5 hown hk6 hin5 lS6 lz6 lz7
         go_roundg f
         case rel=>exact ⟨k+1,acc++[m],by go_num,by omega,ho9,hok2,hmo2,by rw [hlen2.out];omega,b8⟩
         case measure=>omega
        ·have hKb:(K==3)=false:=by simp [hK]
         have hmo2:Hid (acc=endsL S (ini.take (k+1))):=Lib.hid (by rw [hmo.out,hKb];rfl)
         clear hmo hK
         go_wp2_with (first
          | ((with_reducible refine hin5.out.mono ?_);rintro e w6 ⟨rfl,hb6⟩
             have b56:=bthen hW5 hW5.size hb6
             have lS6:=lSr w6 b56
             have lz6:=hldz w6 g7 (hb7.below hb6 hb7.lt)
             have hk6:=hkm w6 b56)
          | ((with_reducible refine hk6.out.mono ?_);rintro e w7 ⟨rfl,hb7'⟩
             have b57:=bthen b56 b56.size hb7'))
         have hown7:=own_below (own_below hown5 hb6) hb7'
         have b7:=bthen hbel hbs b57
         go_roundg f
         case rel=>exact ⟨k+1,acc,by go_num,by omega,hown7,hok,hmo2,by omega,b7⟩
         case measure=>omega
/-- The best one's place, as a number. -/
def bixI (b:Option Nat):Int:=match b with
 | none => -1
 | some p=>p
/-- The best one of those that were looked at. -/
def BestIs (S:List StL) (seen out:List Txt) (k:Nat) (b:Option Nat):Prop:=match b with
 | none=>(leftW (seen.take k) out).foldl (pickB S) none=none
 | some p=>p<k ∧ ∃ y,seen[p]?=some y∧(leftW (seen.take k) out).foldl (pickB S) none=some y
theorem left_take {seen out:List Txt} {k:Nat} {x:Txt} (h:seen[k]?=some x):leftW (seen.take (k+1)) out=leftW (seen.take k) out++if inL out x=true then [] else [x]:=by
 unfold leftW
 rw [List.take_add_one,h,List.filter_append]
 congr 1
 cases hi:inL out x<;>simp [hi]
theorem best_skip {S:List StL} {seen out:List Txt} {k:Nat} {x:Txt} {b:Option Nat} (hx:seen[k]?=some x) (h:BestIs S seen out k b) (hi:inL out x=true):BestIs S seen out (k+1) b:=by
 have e:=left_take (out:=out) hx
 rw [hi,if_pos rfl,List.append_nil] at e
 unfold BestIs at h ⊢
 cases b with
 | none=>rw [e];exact h
 | some p=>rw [e];exact ⟨by have:=h.1;omega,h.2⟩
theorem best_first {S:List StL} {seen out:List Txt} {k:Nat} {x:Txt} (hx:seen[k]?=some x) (h:BestIs S seen out k none) (hi:inL out x=false):BestIs S seen out (k+1) (some k):=by
 have e:=left_take (out:=out) hx
 rw [hi,if_neg (by decide)] at e
 refine ⟨by omega,x,hx,?_⟩
 rw [e,List.foldl_append,show (leftW (seen.take k) out).foldl (pickB S) none=none from h]
 rfl
theorem best_next {S:List StL} {seen out:List Txt} {k p:Nat} {x y:Txt} (hx:seen[k]?=some x) (h:BestIs S seen out k (some p)) (hy:seen[p]?=some y) (hi:inL out x=false):BestIs S seen out (k+1) (some (if aheadS S x y=true then k else p)):=by
 have e:=left_take (out:=out) hx
 rw [hi,if_neg (by decide)] at e
 obtain ⟨h1,y',h2,h3⟩:=h
 rw [hy] at h2
 injection h2 with h2
 subst h2
 have hf:(leftW (seen.take (k+1)) out).foldl (pickB S) none=if aheadS S x y=true then some x else some y:=by
  rw [e,List.foldl_append,h3]
  rfl
 split
 ·rename_i ha
  rw [if_pos ha] at hf
  exact ⟨by omega,x,hx,hf⟩
 ·rename_i ha
  rw [if_neg ha] at hf
  exact ⟨by omega,y,hy,hf⟩
set_option maxRecDepth 100000 in
set_option maxHeartbeats 16000000 in
theorem docWalk_calls (h:DocSt w vm es) (ini cut:List Txt) (hiok : ∀ x∈ini,x.length=32) (hcok : ∀ x∈cut,x.length=32) (hil:ini.length≤800000) (vf vc:Value) (hvf:Ids w vf ini) (hvc:Ids w vc cut) :
 Calls Tryz.prog 17 #[.agg #[vm],vf,vc] w fun e w' => ∃ v,e = .returned v∧OwnIds w' w.heap.size v (walkS (es.map (·.st)) cut ini)∧Below w.heap.size w w':=by
 obtain ⟨W1,hW1⟩ : ∃ W1,w.alloc (.cells #[vm] 28)=W1:=⟨_,rfl⟩
 have s1:Blk W1 w.heap.size 28 #[vm]:=by rw [←hW1];exact Blk.new _ _ _
 have b1:Below w.heap.size w W1:=by rw [←hW1];exact (Below.refl _ _).alloc (Nat.le_refl _) _
 have hsz1:=b1.size
 have lS:=fun W (hW:Below W1.heap.size W1 W)=>run_ldvS (s1.below hW s1.lt)
 have lS1:=lS W1 (Below.refl _ _)
 have hen:=Lib.hid (docEnds_calls (h.below b1) ini hiok hil vf (hvf.below b1))
 have hki:=fun W (hW:Below w.heap.size w W) (n:Txt) (hn:n.length=32)=>Lib.hid (docKind_calls (h.below hW) n hn)
 have hah:=fun W (hW:Below w.heap.size w W) (a b:Txt) (ha:a.length=32) (hb:b.length=32)=>docAhead_calls (h.below hW) a b ha hb
 have hob:=fun W (hW:Below w.heap.size w W) (n:Txt) (hn:n.length=32)=>Lib.hid (docObjP_calls h hW n hn)
 have hin:=fun (l:List Txt) (hl : ∀ x∈l,x.length=32) (v:Value) (W:World) (hv:Ids W v l) (x:Txt) (hx:x.length=32)=>Lib.hid (in02_calls l hl v x hx W hv)
 have hfew:=h.few
 obtain ⟨S,hS⟩ : ∃ S,es.map (·.st)=S:=⟨_,rfl⟩
 have hel:es.length=S.length:=by rw [←hS,List.length_map]
 rw [hS] at hen hki hah hob ⊢
 rw [hel] at hfew
 obtain ⟨R,hR⟩ : ∃ R,walkS S cut ini=R:=⟨_,rfl⟩
 rw [hR]
 have hR0:Hid (walkW S cut (S.length+1) (endsL S ini) []=R):=Lib.hid hR
 have hwi:WalkI S (endsL S ini) [] := .start ini
 generalize endsL S ini=seen0 at *
 obtain ⟨Ac,cc,rfl,_⟩:=id hvc
 obtain ⟨vms,hvms⟩ : ∃ vms:Array Value,vms = #[vm]:=⟨_,rfl⟩
 clear hS h s1 hvms hvf hel hR hiok hil
 go_enter Tryz.func17,Tryz.ntmps17
 go_wp2_with (first
  | ((with_reducible refine hen.out.mono ?_);rintro e w2 ⟨v0,rfl,ho0,hok0,hb2⟩))
 clear hen lS1
 go_loopg [7,8] (S.length+1) (fun f vS vo wr => ∃ (seen out:List Txt),OwnIds wr W1.heap.size vS seen∧OwnIds wr W1.heap.size vo out∧Ap vS vo∧(∀ x∈seen,x.length=32)∧(∀ x∈out,x.length=32)∧WalkI S seen out∧f+out.length=S.length+1∧Hid (walkW S cut f seen out=R)∧Below W1.heap.size W1 wr)
 case atStart=>exact ⟨seen0,[],ho0,World.ownsRow_nil _ _ _ _, .nil_r _ _ _,hok0,fun x hx=>by simp at hx,hwi,rfl,hR0,hb2⟩
 case round=>
  clear ho0 hok0 hwi hR0 hb2 hW1
  obtain ⟨seen,out,hos,hoo,hap,hsok,hook,hwi,hfl,hR,hbel⟩:=hrel
  have hbs:=hbel.size
  have hbr:=bthen b1 hsz1 hbel
  have hlen:=hwi.len
  obtain ⟨As,cs,rfl⟩:=own_form' hos
  obtain ⟨Ao,co,rfl⟩:=own_form' hoo
  obtain ⟨f,rfl⟩ : ∃ f,gk=f+1:=⟨gk-1,by omega⟩
  rename World=>wo
  go_wp2_with (fail)
  go_loopg [9,10] seen.length (fun f2 vb vi wr => ∃ (k:Nat) (b:Option Nat),vi = .int .i64 k∧k+f2=seen.length∧vb = .int .i64 (bixI b)∧Hid (BestIs S seen out k b)∧(∀ p,b=some p→p<k)∧Below wo.heap.size wo wr)
  case atStart=>exact ⟨0,none,rfl,by omega,rfl,Lib.hid rfl,(fun p hp=>by cases hp),Below.refl _ _⟩
  case round=>
   obtain ⟨k,b,rfl,hkf,rfl,hb,hbk,hbe⟩:=hrel
   have hbw:=bthen hbr hbr.size hbe
   have hb1:=bthen hbel hbs hbe
   cases gk with
   | succ f2=>
     have hki':(k:Int)<(seen.length:Int):=by omega
     obtain ⟨x,hx⟩ : ∃ x,seen[k]?=some x:=⟨_,List.getElem?_eq_getElem (by omega)⟩
     have hxi:=hsok x (List.mem_of_getElem? hx)
     have hos1:=own_below hos hbe
     have hoo1:=own_below hoo hbe
     have hsI:=SliceAt.of_own (fun e h=>idC_len (hsok e h)) hos1
     have hlx : ∀ W,Below wr.heap.size wr W → ∀ (p:Nat) (y:Txt),seen[p]?=some y → ∃ g o,As=some ⟨g,o,none⟩∧(ldvI ⟨g,o+p*32,none⟩).run Tryz.prog W = .ok (.agg (u8s y)) W:=fun W hW p y hy=>by
      obtain ⟨A',c',he,_,_,hat⟩:=hsI.below hW
      injection he with he1 _ _
      have hp:=(List.getElem?_eq_some_iff.1 hy).1
      obtain ⟨g,o,e1,_,hc⟩:=hat (by omega)
      exact ⟨g,o,he1.trans e1,run_ldvI_at (show World.rangeAt W g (o+p*32) (u8s y).toList from hc p y hy) (hsok y (List.mem_of_getElem? hy))⟩
     obtain ⟨gs,os_,rfl,lx0⟩:=hlx wr (Below.refl _ _) k x hx
     have hlx2 : ∀ W,Below wr.heap.size wr W → ∀ (p:Nat) (y:Txt),seen[p]?=some y→(ldvI ⟨gs,os_+p*32,none⟩).run Tryz.prog W = .ok (.agg (u8s y)) W:=fun W hW p y hy=>by
      obtain ⟨g,o,e,h⟩:=hlx W hW p y hy
      injection e with e
      injection e with e1 e2
      subst e1 e2
      exact h
     have hin1:=hin out hook _ wr (SliceAt.of_own (fun e h=>idC_len (hook e h)) hoo1) x hxi
     obtain ⟨tb,htb⟩ : ∃ tb,inL out x=tb:=⟨_,rfl⟩
     rw [htb] at hin1
     clear hlx hsI hos hoo hos1 hoo1 hin hob hki
     cases tb with
     | true=>
       have hb2:=Lib.hid (best_skip hx hb.out htb)
       clear hb htb hx hah hlx2
       go_wp2_with (first
        | ((with_reducible refine hin1.out.mono ?_);rintro e w3 ⟨rfl,hb3⟩))
       have b3:=bthen hbe hbe.size hb3
       go_roundg f2
       case rel=>exact ⟨k+1,b,by go_num,by omega,rfl,hb2,fun p hp=>Nat.lt_succ_of_lt (hbk p hp),b3⟩
       case measure=>omega
     | false=>
       cases b with
       | none=>
         have hb2:=Lib.hid (best_first hx hb.out htb)
         clear hb htb hx hah hlx2
         simp only [bixI]
         go_wp2_with (first
          | ((with_reducible refine hin1.out.mono ?_);rintro e w3 ⟨rfl,hb3⟩))
         have b3:=bthen hbe hbe.size hb3
         go_roundg f2
         case rel=>exact ⟨k+1,some k,by go_num,by omega,rfl,hb2,(fun p hp=>by injection hp with hp;omega),b3⟩
         case measure=>omega
       | some p=>
         obtain ⟨_,y,hy,_⟩:=id hb.out
         have hpk:=hbk p rfl
         have hyi:=hsok y (List.mem_of_getElem? hy)
         have hb2:=Lib.hid (best_next hx hb.out hy htb)
         have hp0 : ¬ (p:Int)<0:=by omega
         have hpi:(p:Int)<(seen.length:Int):=by omega
         have lx:=fun W (hW:Below wr.heap.size wr W)=>hlx2 W hW k x hx
         have ly:=fun W (hW:Below wr.heap.size wr W)=>hlx2 W hW p y hy
         have lSr:=fun W (hW:Below wr.heap.size wr W)=>lS W (bthen hb1 hb1.size hW)
         have hah1:=fun W (hW:Below wr.heap.size wr W)=>hah W (bthen hbw hbw.size hW) x y hxi hyi
         generalize aheadS S x y=ab at *
         clear hb htb hx hy hah hlx2 hbk
         simp only [bixI]
         go_upto_region 11 with (first
          | ((with_reducible refine hin1.out.mono ?_);rintro e w3 ⟨rfl,hb3⟩))
         refine wp_region_class (C:=fun W=>Below wr.heap.size wr W) (by kernel_rfl) (by kernel_rfl) hb3.drew ?_
         repeat
          first
           | ((with_reducible refine wpQuiet_ex ?_ ?_)
              ·(go_simp;done)
              apply Exists.intro
              refine ⟨fun W hW=>?_,?_⟩
              ·first
                | (have q0:=lSr W hW
                   have q1:=lx W hW
                   have q2:=ly W hW
                   have p1:=bel_keepG hW (hah1 W hW)
                   go_simp
                   first
                    | rfl
                    | (with_reducible exact p1))
              simp only [Act.put,List.setIfInBounds_toArray,List.set_cons_zero,List.set_cons_succ])
           | ((with_reducible refine wpQuiet_pass ?_ ?_)
              ·(first | rfl | (go_simp;done))
              simp only [Act.put,List.setIfInBounds_toArray,List.set_cons_zero,List.set_cons_succ])
         with_reducible refine wpQuiet_nil ?_
         intro w5 hW5
         have b5:=bthen hbe hbe.size hW5
         clear lx ly lSr hah1 hin1 lx0
         cases ab with
         | true=>
           rw [if_pos rfl] at hb2
           go_wp2_with (fail)
           go_roundg f2
           case rel=>exact ⟨k+1,some k,by go_num,by omega,rfl,hb2,(fun p hp=>by injection hp with hp;omega),b5⟩
           case measure=>omega
         | false=>
           rw [if_neg (by decide)] at hb2
           go_wp2_with (fail)
           go_roundg f2
           case rel=>exact ⟨k+1,some p,by go_num,by omega,rfl,hb2,(fun q hq=>by injection hq with hq;omega),b5⟩
           case measure=>omega
   | zero=>
     have hki' : ¬ (k:Int)<(seen.length:Int):=by omega
     have hke:seen.take k=seen:=List.take_of_length_le (by omega)
     have hbo:=hb.out
     unfold BestIs at hbo
     rw [hke] at hbo
     clear hke hb
     cases b with
     | none=>
       have hRo:out=R:=by rw [←hR.out];exact (walk_stop hbo).symm
       have HRo:=Lib.hid hRo
       have hoo1:=own_below hoo hbe
       clear hRo hR hbo hin hob hki hah
       simp only [bixI]
       go_wp2_with (fail)
       go_ret
       refine ⟨_,rfl,?_,hbw⟩
       rw [←HRo.out]
       exact own_low' hoo1 hsz1
     | some p=>
       obtain ⟨_,y,hy,hbest⟩:=hbo
       have hstep:Hid (walkW S cut f (if inL cut y=true then seen else offerL S seen (parS S y)) (out++[y])=R):=Lib.hid (by rw [←walkW_go hbest];exact hR.out)
       have hyl:=(best_some hbest).1
       have hpl:=(List.getElem?_eq_some_iff.1 hy).1
       have hyi:=hsok y (List.mem_of_getElem? hy)
       have hp0 : ¬ (p:Int)<0:=by omega
       have hpi:(p:Int)<(seen.length:Int):=by omega
       have hos1:=own_below hos hbe
       have hoo1:=own_below hoo hbe
       have hwi2:=fun (c:Bool)=>(hwi.step (cut:=if c=true then [y] else []) hyl)
       obtain ⟨A',c',he,_,_,hat⟩:=SliceAt.of_own (fun e h=>idC_len (hsok e h)) hos1
       injection he with he1 _ he3
       subst he3
       obtain ⟨gs,os_,e1,_,hcs⟩:=hat (by omega)
       obtain rfl:As=some ⟨gs,os_,none⟩:=he1.trans e1
       have lx0:(ldvI ⟨gs,os_+p*32,none⟩).run Tryz.prog wr = .ok (.agg (u8s y)) wr:=run_ldvI_at (show World.rangeAt wr gs (os_+p*32) (u8s y).toList from hcs p y hy) hyi
       have hobw:=fun W (hW:Below w.heap.size w W)=>hob W hW y hyi
       obtain ⟨PS,hPS⟩ : ∃ PS,parS S y=PS:=⟨_,rfl⟩
       have hpok : ∀ x∈PS,x.length=32:=fun x hx=>by
        rw [←hPS] at hx
        unfold parS at hx
        cases ho:objS S y with
        | none=>rw [ho] at hx;simp at hx
        | some o=>rw [ho] at hx;exact (objS_sound ho).1.pars x hx
       unfold ObjP at hobw
       rw [hPS] at hobw hstep
       have hlaw:=fun l=>offerL_law (S:=S) l hwi.nd hwi.k3
       have hstepI:=fun (c:Bool)=>(WalkI.step (cut:=if c=true then [y] else []) hwi hyl)
       have hincut:=fun W (hW:Below w.heap.size w W)=>hin cut hcok _ W (hvc.below hW) y hyi
       have hy32:(u8s y).size=32:=by rw [u8s_size,hyi]
       have hy132:(u8s y).size=1*32:=hy32
       have hy1:=u8s_one y
       have hy1l : ∀ u∈(u8s y).toList,u.oneCell'=true:=idC_one y
       have hldy : ∀ W g,Blk W g 42 (u8s y)→(ldvI ⟨g,0,none⟩).run Tryz.prog W = .ok (.agg (u8s y)) W:=fun W g h=>run_ldvI_at (range_blk h) hyi
       have hAk:out.length+1≤9223372036854775807:=by omega
       have hAb:(out.length+1)*32≤140737488355328:=by omega
       have hlen2:Hid ((out++[y]).length=out.length+1):=Lib.hid (by rw [List.length_append];rfl)
       have hrow2:Hid (rowsOf idC (out++[y])=rowsOf idC out++(u8s y).toList):=Lib.hid (by rw [rowsOf_append,rowsOf_one];rfl)
       have hook2 : ∀ z∈out++[y],z.length=32:=fun z hz=>(List.mem_append.1 hz).elim (hook z) fun e=>by rw [List.mem_singleton.1 e];exact hyi
       have hoAp:=hap
       have hos1lt : ∀ k,(Value.slice (some ⟨gs,os_,none⟩) seen.length cs).ownBlock=some k→k<wr.heap.size:=fun k hk=>(World.ownsRow.lt hos1 k hk).2
       have hoo1lt : ∀ k,(Value.slice Ao out.length co).ownBlock=some k→k<wr.heap.size:=fun k hk=>(World.ownsRow.lt hoo1 k hk).2
       simp only [bixI]
       clear hcs hat he1 e1 hy hbest hR hah hos hoo hob hwi2 hbk
       go_wp2_with (first
        | ((with_reducible refine lit_new 42 (.tmp 12) (.tmp 53) (u8s y) 32 sz32 hy32 hy1 _ ?_ ?_ ?_ ?_)
           ·first | rfl | kernel_rfl
           ·rfl
           ·rfl
           intro W2 hb2 hbl2
           have ly2:=hldy W2 _ hb2
           have hoo2:=own_below hoo1 hbl2
           have hos2:=own_below hos1 hbl2
           have hsz2:=Nat.le_trans hb1.size hbl2.size)
        | ((with_reducible refine lit_slice1 (.tmp 55) Tryz.idsTy (u8s y) hy32 (by omega) ?_ ?_);rfl)
        | ((with_reducible refine lit_append_new (.tmp 54) (.tmp 56) 1 _ Tryz.idsTy hoo2 (u8s y) hy132 hy1l hAk hAb hsz2 ?_ ?_ ?_);rfl;rfl
           intro v3 w3 ho3 hb3 hg3 hn3
           have b13:=(bthen hb1 hb1.size hbl2).trans hb3
           have b03:=bthen b1 hsz1 b13
           have hbk3:=(Far.of_grown hg3).blk hb2 (fun hm=>Nat.lt_irrefl _ (hoo1lt _ (List.mem_singleton.1 hm).symm))
           have ly3:=hldy w3 _ hbk3
           have hin3:=hincut w3 b03)
        | ((with_reducible refine hin3.out.mono ?_);rintro e w4 ⟨rfl,hb4⟩
           have b04:=bthen b03 b03.size hb4
           have b14:=bthen b13 b13.size hb4
           have lS4:=lS w4 b14
           have ly4:=hldy w4 _ (hbk3.below hb4 hbk3.lt)
           have hob4:=hobw w4 b04)
        | ((with_reducible refine hob4.out.mono ?_);rintro e w5 ⟨⟨X,vp,rfl,hX72,hXt,hXp,hvp⟩,hb5⟩
           have fp:=run_field_pars hXp w5))
       have b35:=bthen hb4 hb4.size hb5
       have b05:=bthen b04 b04.size hb5
       have b15:=bthen b14 b14.size hb5
       have hov3:OwnIds w3 W1.heap.size v3 (out++[y]):=by unfold OwnIds;rw [hlen2.out,hrow2.out];exact ho3
       have hov5:=own_below hov3 b35
       have hos3:=(Far.of_grown hg3).own hos2 (fun k hk hm=>hoAp k hk (List.mem_singleton.1 hm).symm)
       have hos5:=own_below hos3 b35
       have hap5:Ap (.slice (some ⟨gs,os_,none⟩) seen.length cs) v3:=(hoAp.symm.newer hn3 fun k hk=>(World.ownsRow.lt hos2 k hk).2).symm
       obtain ⟨Avp,cvp,rfl,hvp1,hvp2,hatv⟩:=id hvp
       have hsl : ∀ l,(offerL S seen l).length≤S.length:=fun l=>by
        obtain ⟨a1,a2,_⟩:=hlaw l
        exact (⟨a1,a2,fun x hx=>by simp at hx,List.nodup_nil⟩:WalkI S (offerL S seen l) []).len.1
       have hson : ∀ k, ∀ x∈offerL S seen (PS.take k),x.length=32:=fun k x hx=>((hlaw (PS.take k)).2.2.2 x hx).elim (hsok x) fun h=>hpok x (List.mem_of_mem_take h)
       have hwiT:inL cut y=true→WalkI S seen (out++[y]):=fun _=>by
        have:=hstepI true
        rwa [if_pos (by simp [inL])] at this
       have hwiF:WalkI S (offerL S seen PS) (out++[y]):=by
        have:=hstepI false
        rwa [if_neg (by simp [inL]),hPS] at this
       obtain ⟨ON,hON⟩ : ∃ ON,out++[y]=ON:=⟨_,rfl⟩
       rw [hON] at hov5 hstep hlen2 hook2 hwiT hwiF
       obtain ⟨bE,hbE⟩ : ∃ bE,inL cut y=bE:=⟨_,rfl⟩
       rw [hbE] at hstep hwiT ⊢
       clear hbE hON hov3 ho3 hg3 hn3 hos3 hos2 hoo2 hoo1 hos1 hob4 hobw hin3 hincut ly4 ly3 ly2 lS4 lx0 hb2 hbl2 hb3 hb4 hb5 hbk3 b13 b03 b14 b04 b35 fp hXt hXp hX72 hoAp hstepI hldy hPS hlaw
       cases bE with
       | true=>
         rw [if_pos rfl] at hstep
         replace hwiT:=hwiT rfl
         clear hwiF hson hsl hatv hin hki
         go_loopg [7,15] 0 (fun f3 vS vi wr=>vS = .slice (some ⟨gs,os_,none⟩) seen.length cs∧vi = .int .i64 0∧Below w5.heap.size w5 wr)
         case atStart=>exact ⟨rfl,rfl,Below.refl _ _⟩
         case round=>
          obtain ⟨rfl,rfl,hb6⟩:=hrel
          have b6:=bthen b15 b15.size hb6
          have hov6:=own_below hov5 hb6
          have hos6:=own_below hos5 hb6
          go_wp2_with (fail)
          all_goals
           go_roundg f
           case rel=>exact ⟨seen,ON,hos6,hov6,hap5,hsok,hook2,hwiT,by rw [hlen2.out];omega,hstep,b6⟩
           case measure=>omega
       | false=>
         rw [if_neg (by decide)] at hstep
         clear hwiT
         go_loopg [7,15] PS.length (fun f3 vS vi wr => ∃ (k:Nat) (sn:List Txt),vi = .int .i64 k∧k+f3=PS.length∧OwnIds wr W1.heap.size vS sn∧OwnIds wr W1.heap.size v3 ON∧Ap vS v3∧Hid (sn=offerL S seen (PS.take k))∧Below W1.heap.size W1 wr)
         case atStart=>exact ⟨0,seen,rfl,by omega,hos5,hov5,hap5,Lib.hid rfl,b15⟩
         case round=>
          clear hos5 hov5 hap5 b15 b05
          obtain ⟨k,sn,rfl,hkf3,hos,hov,hap,hsn,hbel⟩:=hrel
          have hbs:=hbel.size
          have hbr:=bthen b1 hsz1 hbel
          have hsnl:sn.length≤S.length:=by rw [hsn.out];exact hsl _
          have hsnk : ∀ x∈sn,x.length=32:=by rw [hsn.out];exact hson k
          obtain ⟨A8,c8,rfl⟩:=own_form' hos
          cases gk with
          | zero=>
            have hki2 : ¬ (k:Int)<(PS.length:Int):=by omega
            have hke:PS.take k=PS:=List.take_of_length_le (by omega)
            have hsnk2:=hsnk
            have hsn2:sn=offerL S seen PS:=by rw [hsn.out,hke]
            have Hsn:=Lib.hid hsn2
            clear hatv hke hsn hsn2 hin hki
            go_wp2_with (fail)
            go_roundg f
            case rel=>exact ⟨sn,ON,hos,hov,hap,hsnk2,hook2,by rw [Hsn.out];exact hwiF,by rw [hlen2.out];omega,by rw [Hsn.out];exact hstep,hbel⟩
            case measure=>omega
          | succ f3=>
            have hki2:(k:Int)<(PS.length:Int):=by omega
            obtain ⟨gp,op_,rfl,hgp,hcp⟩:=hatv (by omega)
            obtain ⟨x,hx⟩ : ∃ x,PS[k]?=some x:=⟨_,List.getElem?_eq_getElem (by omega)⟩
            have hxi:=hpok x (List.mem_of_getElem? hx)
            have hlx:=fun W (hW:Below wr.heap.size wr W)=>run_ldvI_at (show World.rangeAt W gp (op_+k*32) (u8s x).toList from rangeAt_below (hcp k x hx) hgp (bthen hbr hbr.size hW)) hxi
            have hlx0:=hlx wr (Below.refl _ _)
            have hin8:=hin sn hsnk _ wr (SliceAt.of_own (fun e h=>idC_len (hsnk e h)) hos) x hxi
            have hkx:=fun W (hW:Below wr.heap.size wr W)=>(hki W (bthen hbr hbr.size hW) x hxi).out
            have lSr:=fun W (hW:Below wr.heap.size wr W)=>lS W (bthen hbel hbs hW)
            have hmore:Hid (offerL S seen (PS.take (k+1))=if (!inL sn x&&kindS S x==3)=true then sn++[x] else sn):=Lib.hid (by rw [offerL_more hx,←hsn.out];rfl)
            generalize inL sn x=bi at *
            generalize kindS S x=K at *
            clear hx hcp hatv hki hin hsl hson hsnk
            cases bi with
            | true=>
              have hmo:Hid (sn=offerL S seen (PS.take (k+1))):=Lib.hid (by rw [hmore.out];rfl)
              clear hmore hkx
              go_upto_region 23 with (first
               | ((with_reducible refine hin8.out.mono ?_);rintro e w6 ⟨rfl,hb6⟩))
              refine wp_region_class (C:=fun W=>Below w6.heap.size w6 W) (by kernel_rfl) (by kernel_rfl) (Below.refl _ _).drew ?_
              repeat
               first
                | ((with_reducible refine wpQuiet_ex ?_ ?_)
                   ·(go_simp;done)
                   apply Exists.intro
                   refine ⟨fun W hW=>?_,?_⟩
                   ·first
                     | (go_simp
                        rfl)
                   simp only [Act.put,List.setIfInBounds_toArray,List.set_cons_zero,List.set_cons_succ])
                | ((with_reducible refine wpQuiet_pass ?_ ?_)
                   ·(first | rfl | (go_simp;done))
                   simp only [Act.put,List.setIfInBounds_toArray,List.set_cons_zero,List.set_cons_succ])
              with_reducible refine wpQuiet_nil ?_
              intro w7 hW7
              have b7:=bthen hbel hbs (bthen hb6 hb6.size hW7)
              have hos7:=own_below hos (bthen hb6 hb6.size hW7)
              have hov7:=own_below hov (bthen hb6 hb6.size hW7)
              clear lSr hlx hlx0 hin8
              go_wp2_with (fail)
              go_roundg f3
              case rel=>exact ⟨k+1,sn,by go_num,by omega,hos7,hov7,hap,hmo,b7⟩
              case measure=>omega
            | false=>
              go_upto_region 23 with (first
               | ((with_reducible refine hin8.out.mono ?_);rintro e w6 ⟨rfl,hb6⟩))
              refine wp_region_class (C:=fun W=>Below w6.heap.size w6 W) (by kernel_rfl) (by kernel_rfl) (Below.refl _ _).drew ?_
              repeat
               first
                | ((with_reducible refine wpQuiet_ex ?_ ?_)
                   ·(go_simp;done)
                   apply Exists.intro
                   refine ⟨fun W hW=>?_,?_⟩
                   ·first
                     | (have q0:=lSr W (bthen hb6 hb6.size hW)
                        have q1:=hlx W (bthen hb6 hb6.size hW)
                        have p1:=bel_keepG hW (hkx W (bthen hb6 hb6.size hW))
                        go_simp
                        first
                         | rfl
                         | (with_reducible exact p1))
                   simp only [Act.put,List.setIfInBounds_toArray,List.set_cons_zero,List.set_cons_succ])
                | ((with_reducible refine wpQuiet_pass ?_ ?_)
                   ·(first | rfl | (go_simp;done))
                   simp only [Act.put,List.setIfInBounds_toArray,List.set_cons_zero,List.set_cons_succ])
              with_reducible refine wpQuiet_nil ?_
              intro w7 hW7
              have b67:=bthen hb6 hb6.size hW7
              have b7:=bthen hbel hbs b67
              have hos7:=own_below hos b67
              have hov7:=own_below hov b67
              have lx7:=hlx w7 b67
              clear lSr hlx hlx0 hin8 hkx
              obtain ⟨kb,hkb⟩ : ∃ kb,(K==3)=kb:=⟨_,rfl⟩
              rw [hkb] at hmore ⊢
              clear hkb
              cases kb with
              | false=>
                have hmo:Hid (sn=offerL S seen (PS.take (k+1))):=Lib.hid (by rw [hmore.out];rfl)
                clear hmore
                go_wp2_with (fail)
                go_roundg f3
                case rel=>exact ⟨k+1,sn,by go_num,by omega,hos7,hov7,hap,hmo,b7⟩
                case measure=>omega
              | true=>
                have hmo:Hid (sn++[x]=offerL S seen (PS.take (k+1))):=Lib.hid (by rw [hmore.out];rfl)
                have hx32:(u8s x).size=32:=by rw [u8s_size,hxi]
                have hx132:(u8s x).size=1*32:=hx32
                have hx1 : ∀ u∈(u8s x).toList,u.oneCell'=true:=idC_one x
                have hBk:sn.length+1≤9223372036854775807:=by omega
                have hBb:(sn.length+1)*32≤140737488355328:=by omega
                have hlen3:Hid ((sn++[x]).length=sn.length+1):=Lib.hid (by rw [List.length_append];rfl)
                have hrow3:Hid (rowsOf idC (sn++[x])=rowsOf idC sn++(u8s x).toList):=Lib.hid (by rw [rowsOf_append,rowsOf_one];rfl)
                have hsz7:W1.heap.size≤w7.heap.size:=Nat.le_trans hbs b67.size
                clear hmore
                go_wp2_with (first
                 | ((with_reducible refine lit_slice1 (.tmp 96) Tryz.idsTy (u8s x) hx32 (by omega) ?_ ?_);rfl)
                 | ((with_reducible refine lit_append_new (.tmp 92) (.tmp 97) 1 _ Tryz.idsTy hos7 (u8s x) hx132 hx1 hBk hBb hsz7 ?_ ?_ ?_);rfl;rfl
                    intro v9 w9 ho9 hb9 hg9 hn9))
                have hos9:OwnIds w9 W1.heap.size v9 (sn++[x]):=by unfold OwnIds;rw [hlen3.out,hrow3.out];exact ho9
                have hov9:=(Far.of_grown hg9).own hov7 (fun k hk hm=>hap k (List.mem_singleton.1 hm).symm hk)
                have hap9:Ap v9 v3:=hap.newer hn9 fun k hk=>(World.ownsRow.lt hov7 k hk).2
                have b9:=b7.trans hb9
                clear ho9 hg9 hn9 hos7 hov7 hos hov lx7
                go_roundg f3
                case rel=>exact ⟨k+1,sn++[x],by go_num,by omega,hos9,hov9,hap9,hmo,b9⟩
                case measure=>omega
end
end Go.Proofs.YtlojebhcemfodaaGreatDoor
namespace Go.Proofs.YtlojebhcemfodaaGreatDoor
open Go.RowKit
attribute [local go_sem ↓] ldvI_eq ldvS_eq ldvH_eq
set_option maxRecDepth 100000 in
set_option maxHeartbeats 8000000 in
theorem graphWalks_calls (h:HisL) (vs vo vf vc:Value) (w:World) (hK:TabK w) (hh:HisOk w vs vo vf vc h) :
 Calls Tryz.prog 4 #[.agg #[vs,vo,vf,vc]] w fun e w'=>e = .returned (.bool true)∧Below w.heap.size w w':=by
 obtain ⟨W1,hW1⟩ : ∃ W1,w.alloc (.cells #[vs,vo,vf,vc] 25)=W1:=⟨_,rfl⟩
 have s1:Blk W1 w.heap.size 25 #[vs,vo,vf,vc]:=by rw [←hW1];exact Blk.new _ _ _
 have b1:Below w.heap.size w W1:=by rw [←hW1];exact (Below.refl _ _).alloc (Nat.le_refl _) _
 have hld:=fun W (hW:Below W1.heap.size W1 W)=>run_ldvH (s1.below hW s1.lt)
 have hld1:=hld W1 (Below.refl _ _)
 have c2 : ∀ W,Below W1.heap.size W1 W→W.cell? ⟨w.heap.size,2,none⟩=some vf:=fun W hW=>(s1.below hW s1.lt).cell 2
 have c3 : ∀ W,Below W1.heap.size W1 W→W.cell? ⟨w.heap.size,3,none⟩=some vc:=fun W hW=>(s1.below hW s1.lt).cell 3
 have hfew:=Lib.hid ((few12_calls h vs vo vf vc W1 (hh.below b1)).mono fun e w' (q:Few12R h W1 e w'∧Below W1.heap.size W1 w')=>(⟨q.1.b,q.2⟩:Few12B h e w'∧Below W1.heap.size W1 w'))
 have hkn:=fun W (hW:Below w.heap.size w W)=>Lib.hid (knows_calls12 W (hK.below hW))
 have hnm:=fun (hf:FewH h) W (hW:Below w.heap.size w W)=>Lib.hid (named_calls h hf vs vo vf vc W (hh.below hW))
 have hid:=fun (ids:List Txt) (hok : ∀ x∈ids,x.length=32) (hil:ids.length≤24) (v:Value) W (hW:Below w.heap.size w W) (hv:Ids W v ids) (l:Txt) (hl10:l.length≤10) (vl:Value) (hvl:SliceAt w 1 byC vl l)=>Lib.hid (ids12_calls ids hok (Nat.le_trans hil (by omega)) v W hv l (Nat.le_trans hl10 (by omega)) vl (hvl.below hW))
 have hcut:=hh.cut
 have hfrm:=hh.frm
 clear hh s1
 go_enter Tryz.func4,Tryz.ntmps4
 go_upto_region 2 with (first
  | ((with_reducible refine hfew.out.mono ?_);rintro e w2 ⟨⟨Am,nm,cm,b,rfl,hb⟩,hb2⟩
     have hm2:(#[Value.slice Am nm cm]:Array Value).all (·.oneCell')=true:=by simp [Value.oneCell']
     have hm1:(#[Value.slice Am nm cm]:Array Value).size=1:=rfl)
  | ((with_reducible refine lit_new 28 (.tmp 3) (.tmp 13) #[.slice Am nm cm] 1 szDSt hm1 hm2 _ ?_ ?_ ?_ ?_)
     ·first | exact hm1 | rfl
     ·rfl
     ·rfl
     intro W3 hb3 hbl3))
 have b13:=bthen hb2 hb2.size hbl3
 have b3:=bthen b1 b1.size b13
 have hkn3:=hkn W3 b3
 clear hfew hld1 hW1
 cases b with
 | false=>
   clear hb hkn hnm hid hld c2 c3
   go_wp2_with (first
    | ((with_reducible refine hkn3.out.mono ?_);rintro e w5 ⟨rfl,hb5⟩))
   go_ret
   exact ⟨rfl,bthen b3 b3.size hb5⟩
 | true=>
   obtain ⟨es,hFH,hD2,hel⟩:=hb rfl
   clear hb
   have hD3:=hD2.below hbl3
   have hs3:=fun W (hW:Below W3.heap.size W3 W)=>run_ldvS (hb3.below hW hb3.lt)
   have hs33:=hs3 W3 (Below.refl _ _)
   have h10f:=hFH.2.2.1
   have h10c:=hFH.2.2.2
   have hof3:=Lib.hid (of_calls11 hD3 (by omega) (hK.below b3))
   obtain ⟨Af,cf,rfl,_⟩:=id hfrm
   obtain ⟨Ac,cc,rfl,_⟩:=id hcut
   clear hkn3
   go_upto_region 10 with (first
    | ((with_reducible refine hof3.out.mono ?_);rintro e w4 ⟨⟨p,vl,rfl,hp4,hS4⟩,hb4⟩
       have b4:=bthen b3 b3.size hb4
       have b14:=bthen b13 b13.size hb4
       have hld4:=hld w4 b14
       have hnm4:=hnm hFH w4 b4)
    | ((with_reducible refine hnm4.out.mono ?_);rintro e w5 ⟨⟨vi,ids,rfl,hoi,hiok,hil⟩,hb5⟩
       have b5:=bthen b4 b4.size hb5
       have b15:=bthen b14 b14.size hb5
       have d2:=c2 w5 b15
       have hi5:=fun W (hW:Below w5.heap.size w5 W)=>(SliceAt.of_own (fun e h=>idC_len (hiok e h)) hoi).below hW
       have hid5:=hid ids hiok hil _ w5 b5 (hi5 w5 (Below.refl _ _)) h.frm h10f _ hfrm
       obtain ⟨Ai,ci,rfl⟩:=own_form' hoi)
    | ((with_reducible refine hid5.out.mono ?_);rintro e w6 ⟨⟨vfr,from_,rfl,hofr,hfok,hfl0⟩,hb6⟩
       have hfl10:from_.length≤10:=by omega
       clear hfl0
       have b6:=bthen b5 b5.size hb6
       have d3:=c3 w6 (bthen b15 b15.size hb6)
       have hid6:=hid ids hiok hil _ w6 b6 (hi5 w6 hb6) h.cut h10c _ hcut
       obtain ⟨Afr,cfr,rfl⟩:=own_form' hofr)
    | ((with_reducible refine hid6.out.mono ?_);rintro e w7 ⟨⟨vcu,cut,rfl,hocu,hcok,hcl0⟩,hb7⟩
       have hcl10:cut.length≤10:=by omega
       clear hcl0
       obtain ⟨Acu,ccu,rfl⟩:=own_form' hocu))
   have b7:=bthen b6 b6.size hb7
   have bw7:=bthen (bthen hb5 hb5.size hb6) (bthen hb5 hb5.size hb6).size hb7
   have b37:=bthen hb4 hb4.size bw7
   have lS:=fun W (hW:Below w7.heap.size w7 W)=>hs3 W (bthen b37 b37.size hW)
   have lS7:=lS w7 (Below.refl _ _)
   have hD7:=hD3.below b37
   have hS7:=hS4.below bw7
   have hfrI:=SliceAt.of_own (fun e h=>idC_len (hfok e h)) (own_below hofr hb7)
   have hcuI:=SliceAt.of_own (fun e h=>idC_len (hcok e h)) hocu
   have hK7:=hK.below b7
   have hll:(es.map (·.st)).length=es.length:=List.length_map _
   clear hs3 hs33 hof3 hD3 hD2 hS4 hp4 hid hid5 hid6 hnm4 hld4 hi5 hoi hofr hocu hb4 hb5 hb6 hb7 b13 hbl3 hb2 b4 b14 b5 b15 b6 b37 bw7 c2 c3 d2 d3 hkn hcut hfrm hFH hK hiok hb3 hnm hld h10f h10c
   have hwok : ∀ x∈walkS (es.map (·.st)) cut from_,x.length=32:=fun x hx=>walkS_ok hS7.ok hx
   obtain ⟨WK,hWK⟩ : ∃ WK,walkS (es.map (·.st)) cut from_=WK:=⟨_,rfl⟩
   have k1:=fun W (hW:Below w7.heap.size w7 W)=>graWalk_calls (hS7.below hW) from_ cut hfok hcok (by omega) _ _ (hfrI.below hW) (hcuI.below hW)
   have k2:=fun W (hW:Below w7.heap.size w7 W)=>docWalk_calls (hD7.below hW) from_ cut hfok hcok (by omega) _ _ (hfrI.below hW) (hcuI.below hW)
   rw [hWK] at hwok
   simp only [hWK] at k1 k2
   have k3':=fun W va vb ha hb=>refSame02_calls WK hwok va vb W ha hb
   have hKn:=fun W (hW:Below w7.heap.size w7 W)=>Lib.hid (knows_calls12 W (hK7.below hW))
   have hwk2 : ∀ e∈WK,(idC e).length=32:=fun e h=>idC_len (hwok e h)
   clear hWK lS7 hK7 hD7 hS7 hfrI hcuI hll
   refine wp_region_go0 10 (by kernel_rfl) (by kernel_rfl) (by kernel_rfl) (by kernel_rfl) ?_
   simp only [exSp]
   iterate 10 apply Exists.intro
   repeat
    first
     | ((with_reducible apply lx0_ex)
        ·(go_simp;done)
        apply Exists.intro
        apply And.intro
        ·apply Eq.refl
        apply And.intro
        ·intro W hW hD
         have q0:=lS W hW
         first
          | (go_simp
             rfl)
          | (obtain ⟨F,o2,_⟩:=hD.at 0 rfl (by kernel_rfl)
             obtain ⟨F',o1,_⟩:=hD.at 1 rfl (by kernel_rfl)
             have q1:=k3' W _ _ (SliceAt.of_own hwk2 o1) (SliceAt.of_own hwk2 o2)
             go_simp
             with_reducible exact q1)
        simp only [Act.put,List.setIfInBounds_toArray,List.set_cons_zero,List.set_cons_succ])
     | ((with_reducible apply lx0_pass)
        ·(first | rfl | (go_simp;done))
        ·apply Eq.refl
        simp only [Act.put,List.setIfInBounds_toArray,List.set_cons_zero,List.set_cons_succ])
     | ((with_reducible refine lx0_new (ownR w7.heap.size 42 32 WK.length (rowsOf idC WK)) rfl ?_ (ownR_stab _ _ _ _ _) ?_ ?_)
        ·(go_simp;done)
        ·intro W hW hD
         have q0:=lS W hW
         unfold doesAt Oper.wp execOp
         go_simp
         first
          | (with_reducible refine (k1 W hW).mono ?_)
          | (with_reducible refine (k2 W hW).mono ?_)
         rintro e w' ⟨v,rfl,ho,hb⟩
         exact ⟨hb,ownR_new hW.size ho⟩
        intro v
        simp only [Act.put,List.setIfInBounds_toArray,List.set_cons_zero,List.set_cons_succ])
   refine lx0_nil ?_ fun w8 hW8 hD8=>?_
   ·exact List.nodup_nil
   have hkn8:=hKn w8 hW8
   have b8:=bthen b7 b7.size hW8
   clear hD8 hKn k1 k2 k3' lS
   go_wp2_with (first
    | ((with_reducible refine hkn8.out.mono ?_);rintro e w9 ⟨rfl,hb9⟩))
   go_ret
   exact ⟨rfl,bthen b8 b8.size hb9⟩
end Go.Proofs.YtlojebhcemfodaaGreatDoor
namespace Go.Proofs.YtlojebhcemfodaaGreatDoor
open Go.ChangeShapes Go.WideShapes Go.ChangeAt Go.RowKit
theorem gTab : Tryz.prog.globalNamed "knapsack/sha256.constants" = some 0:=by kernel_rfl
theorem gTabType : (Tryz.prog.globals[0]?).map (·.type)=some 109:=by kernel_rfl
theorem cellsTab : Tryz.prog.cellsOf 109=64:=by kernel_rfl
theorem cellsU32 : Tryz.prog.cellsOf 52=1:=by kernel_rfl
theorem laid_is : (Rows.laid_knapsack_sha256_constants:DataW Unit)=Lib.tabData .u32 (K256.map fun n=>((n:Nat):Int)):=by kernel_rfl
theorem tabK_of {W:World} (h:laidMetH Tryz.prog [("knapsack/sha256.constants",Rows.laid_knapsack_sha256_constants)] W):TabK W:=by
 rw [laid_is] at h
 have ht:=Lib.tabIs_of_head (rest:=[]) gTab gTabType Tryz.underlying109 Tryz.underlying52 cellsU32 cellsTab h
 have hc (t:Nat) (h64:t<64):W.cell? ⟨0,t,none⟩=some (.int .u32 (K256.getD t 0:Nat)):=by
  rw [ht.cell gTab t (by rw [List.length_map,K256_length];exact h64)]
  have:t<K256.length:=by rw [K256_length];exact h64
  simp [List.getD,List.getElem?_map,List.getElem?_eq_getElem this]
 exact ⟨World.block_lt_of_cell? W _ (hc 0 (by omega)),hc⟩
/-- A world for the witness: the settled one, the table as its initialiser lays it. -/
noncomputable def laidWorld (os:Os):World:=
 { World.holding Tryz.prog os ⟨#[], #[],[]⟩ with heap:=(World.holding Tryz.prog os ⟨#[], #[],[]⟩).heap.modify 0 fun
  | .cells _ t frozen => .cells (u32s K256) t frozen
  | o=>o }
end Go.Proofs.YtlojebhcemfodaaGreatDoor
