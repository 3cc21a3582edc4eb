/- Texts of this claim, laid together: GraF, HpP, GrW, OpenE, OpenObj, Seed, Pick, MkB, MkT, MkC. -/
import Derived.Test.YtlojebhcemfodaaGreatDoorMj
import Derived.Below
import Derived.Lib.LaidTab
import Derived.Deep.CutBlock
namespace Go.Proofs.YtlojebhcemfodaaGreatDoor
open Go.RowKit
attribute [local go_sem ↓] ldvI_eq ldvS_eq
/-- An object's end. -/
def endS (S:List StL):Nat→Txt→Option Txt
 | 0,_=>none
 | f+1,n=>match objS S n with
   | none=>none
   | some o=>if o.kind=4 then endS S f o.target else some n
def endV (r:Option Txt):Value:=match r with
 | some m => .tuple #[.agg (u8s m), .bool true]
 | none => .tuple #[.agg (u8s noId), .bool false]
theorem objS_sound {S:List StL} {n:Txt} {o:ObjL} (h:objS S n=some o):Sound o∧(o.kind=1∨o.kind=2∨o.kind=3∨o.kind=4):=by
 unfold objS at h
 cases hg:getS S n with
 | none=>rw [hg] at h;cases h
 | some s=>
   rw [hg] at h
   exact ⟨(dec_back h).2,dec_kind4 h⟩
theorem endS_ok {S:List StL} : ∀ (f:Nat) (n m:Txt),n.length=32→endS S f n=some m→m.length=32
 | 0,n,m,_,h=>by cases h
 | f+1,n,m,hn,h=>by
   unfold endS at h
   cases ho:objS S n with
   | none=>rw [ho] at h;cases h
   | some o=>
     rw [ho] at h
     simp only at h
     split at h
     ·exact endS_ok f _ m (objS_sound ho).1.target h
     ·injection h with h;rw [←h];exact hn
set_option maxRecDepth 100000 in
set_option maxHeartbeats 8000000 in
theorem graEnd_calls {w:World} {base p:Nat} {vl:Value} {S:List StL} (hS:StoAt w base p vl S) (n:Txt) (hn:n.length=32) :
 Calls Tryz.prog 14 #[.pointer (some ⟨p,0,none⟩), .agg (u8s n)] w fun e w'=>e = .returned (endV (endS S (S.length+1) n))∧Below w.heap.size w w':=by
 have hzi:=zeroIdV
 have hrb:=fun W=>run_build (P:=Tryz.prog) W _ _ _ built_zId
 have hzo:=zeroObj
 have hZ32:(u8s noId).size=32:=by rw [u8s_size];rfl
 have hZone:=u8s_one noId
 have hsI : ∀ cs:Array Value,cs.size=32→(Tryz.prog.info? 42).map (·.size)=some cs.size:=fun cs h=>by rw [h];exact sz32
 have hz72:=zObj_size
 have hzone:zObj.all (·.oneCell')=true:=zObj_one
 obtain ⟨W1,hW1,b1,n1,_⟩:=boxIdS w n hn
 obtain ⟨W2,hW2⟩ : ∃ W2,W1.alloc (.cells (u8s noId) 42)=W2:=⟨_,rfl⟩
 have z2:Blk W2 W1.heap.size 42 (u8s noId):=by rw [←hW2];exact Blk.new _ _ _
 have bb2:Below W1.heap.size W1 W2:=by rw [←hW2];exact (Below.refl _ _).alloc (Nat.le_refl _) _
 have b2:=bthen b1 b1.size bb2
 have n2:=n1.below bb2 n1.lt
 have hlt12:w.heap.size<W1.heap.size:=n1.lt
 have hln:=Lib.hid (stoLen_calls (hS.below b2))
 have hsl:S.length≤500000:=hS.ok.few
 have hob:=fun W (hW:Below w.heap.size w W) (m:Txt) (hm:m.length=32)=>stoObject_calls (hS.below hW) m hm
 have hSok:=hS.ok
 obtain ⟨R,hR⟩ : ∃ R,endS S (S.length+1) n=R:=⟨_,rfl⟩
 rw [hR]
 replace hR:=Lib.hid hR
 have hRn:Hid (R=none→endV R = .tuple #[.agg (u8s noId), .bool false]):=Lib.hid fun h=>by rw [h];rfl
 have hRs:Hid (∀ m,R=some m→endV R = .tuple #[.agg (u8s m), .bool true]):=Lib.hid fun m h=>by rw [h];rfl
 generalize endV R=V at *
 obtain ⟨B2,hB2⟩ : ∃ B2,W1.heap.size=B2:=⟨_,rfl⟩
 rw [hB2] at z2 hlt12
 obtain ⟨NC,hNC⟩ : ∃ NC,u8s n=NC:=⟨_,rfl⟩
 have hNC2:=hNC
 rw [hNC] at hW1 ⊢
 obtain ⟨Z,hZ⟩ : ∃ Z,u8s noId=Z:=⟨_,rfl⟩
 rw [hZ] at hZ32 hZone hW2 z2 hzi hrb hRn
 clear hNC hZ hS
 go_enter Tryz.func14,Tryz.ntmps14
 go_wp2_with (first
  | ((with_reducible refine hln.out.mono ?_);rintro e w3 ⟨rfl,rfl⟩))
 have hw1:IntKind.i64.wrap ((S.length:Int)+1)=(S.length:Int)+1:=IntWalk.i64_in _ (by omega)
 try rw [hB2]
 go_loopg [11] (S.length+1) (fun f vi wr => ∃ (k:Nat) (m:Txt),vi = .int .i64 k∧k+f=S.length+1∧Hid (endS S f m=R)∧m.length=32∧Blk wr w.heap.size 42 (u8s m)∧Blk wr B2 42 Z∧Below w.heap.size w wr)
 case atStart=>exact ⟨0,n,rfl,by omega,hR,hn,n2,z2,b2⟩
 case round=>
  clear hR n2 z2 b2 bb2 b1 n1 hW1 hW2 hln
  obtain ⟨k,m,rfl,hkf,hend,hm,hi,hz,hbel⟩:=hrel
  have hbs:=hbel.size
  have hm32:(u8s m).size=32:=by rw [u8s_size,hm]
  have hm1:=u8s_one m
  cases gk with
  | zero=>
    have hki : ¬ (k:Int)<(S.length:Int)+1:=by omega
    have hV:=hRn.out hend.out.symm
    clear hend hRn hRs
    go_wp2_with (first
     | (refine wpList_store_row rfl 42 (.tmp 4) (.tmp 31) rfl B2 Z rfl rfl _ _ hz (hsI _ hZ32) rfl hZone ?_))
    (try rw [hV])
    refine bodyPost_ret (results_row_tmp rfl _ _ B2 _ _ _ _ rfl (setRow_heap _ _ _ _ _ _ hz) Tryz.underlying42 rfl (hsI _ hZ32)) rfl ⟨rfl,below_setRow hbel (Nat.le_of_lt hlt12) _⟩
  | succ f=>
    have hki:(k:Int)<(S.length:Int)+1:=by omega
    have hl1:=run_ldvI_at (range_blk hi) hm
    have hob1:=hob wr hbel m hm
    cases hg:getS S m with
    | none=>
      have hV:=hRn.out (by rw [←hend.out,endS,objS_none hg])
      have hob2:Hid (Calls Tryz.prog 32 #[.pointer (some ⟨p,0,none⟩), .agg (u8s m)] wr fun e w'=>e = .returned (.tuple #[.agg zObj, .bool false])∧Below wr.heap.size wr w'):=Lib.hid (by
       have h:=hob1
       unfold ObjT at h
       rw [hg] at h
       exact h)
      clear hg hob1 hob hend hRn hRs
      generalize zObj=ZO at *
      go_wp2_with (first
       | ((with_reducible refine hob2.out.mono ?_);rintro e w4 ⟨rfl,hb4⟩
          have b4:=bthen hbel hbs hb4
          have z4:=hz.below hb4 hz.lt)
       | ((with_reducible refine lit_new 54 (.tmp 6) (.tmp 17) ZO 72 szObj hz72 hzone _ ?_ ?_ ?_ ?_)
          ·first | exact hz72 | rfl
          ·rfl
          ·rfl
          intro W5 hb5 hbl5
          have b5:=bthen b4 b4.size hbl5
          have z5:=z4.below hbl5 z4.lt)
       | (refine wpList_store_row rfl 42 (.tmp 4) (.tmp 22) rfl B2 Z rfl rfl _ _ z5 (hsI _ hZ32) rfl hZone ?_))
      (try rw [hV])
      refine bodyPost_ret (results_row_tmp rfl _ _ B2 _ _ _ _ rfl (setRow_heap _ _ _ _ _ _ z5) Tryz.underlying42 rfl (hsI _ hZ32)) rfl ⟨rfl,below_setRow b5 (Nat.le_of_lt hlt12) _⟩
    | some s=>
      obtain ⟨o,hdo⟩:=(hSok.each s (getS_id hg).1).2
      have hobj:=objS_some hg hdo
      have hend2:=hend.out
      rw [endS,hobj] at hend2
      simp only at hend2
      have hob2:Hid (Calls Tryz.prog 32 #[.pointer (some ⟨p,0,none⟩), .agg (u8s m)] wr fun e w'=>(∃ A1 A2 k1 k2,e = .returned (.tuple #[.agg (objC o (.slice A1 o.ents.length k1) (.slice A2 o.pars.length k2)).toArray, .bool true])∧ObjV w' (.slice A1 o.ents.length k1) (.slice A2 o.pars.length k2) o)∧Below wr.heap.size wr w'):=Lib.hid (by
       refine hob1.mono fun e w' ⟨h,hb⟩=>⟨?_,hb⟩
       unfold ObjT at h
       rw [hg] at h
       obtain ⟨o',A1,A2,k1,k2,h1,h2,h3,_⟩:=h
       rw [hdo] at h1
       injection h1 with h1
       subst h1
       exact ⟨A1,A2,k1,k2,h2,h3⟩)
      have hta:=(objS_sound hobj).1.target
      clear hg hob1 hobj hdo hend
      by_cases hk4:o.kind=4
      ·rw [if_pos hk4] at hend2
       have hkb:(o.kind != 4)=false:=by simp [hk4]
       have hkb2:(o.kind==4)=true:=by simp [hk4]
       have ht32:(u8s o.target).size=32:=by rw [u8s_size,hta]
       have ht1:=u8s_one o.target
       replace hend2:=Lib.hid hend2
       clear hk4 hRn hRs hob
       go_wp2_with (first
        | ((with_reducible refine hob2.out.mono ?_);rintro e w4 ⟨⟨A1,A2,k1,k2,rfl,hv4⟩,hb4⟩
           have b4:=bthen hbel hbs hb4
           have z4:=hz.below hb4 hz.lt
           have i4:=hi.below hb4 hi.lt
           have hc72:(objC o (.slice A1 o.ents.length k1) (.slice A2 o.pars.length k2)).toArray.size=72:=by rw [List.size_toArray,objC_len hv4.ok]
           have hcone:=objC_all o A1 A2 o.ents.length k1 o.pars.length k2)
        | ((with_reducible refine lit_new 54 (.tmp 6) (.tmp 17) (objC o (.slice A1 o.ents.length k1) (.slice A2 o.pars.length k2)).toArray 72 szObj hc72 hcone _ ?_ ?_ ?_ ?_)
           ·first | exact hz72 | rfl
           ·rfl
           ·rfl
           intro W5 hb5 hbl5
           have b5:=bthen b4 b4.size hbl5
           have z5:=z4.below hbl5 z4.lt
           have i5:=i4.below hbl5 i4.lt
           have hO5:ObjB W5 w4.heap.size o (.slice A1 o.ents.length k1) (.slice A2 o.pars.length k2):=⟨hb5,hv4.ok.tree,hv4.ok.target⟩
           have hc0:=hO5.kind
           have hlt5:=run_ldvI_at hO5.target hta)
        | (refine wpList_store_row rfl 42 (.tmp 3) (.tmp 29) rfl w.heap.size (u8s o.target) rfl rfl _ _ i5 (hsI _ ht32) (hm32.trans ht32.symm) ht1 ?_))
       have i6:Blk (W5.setRow w.heap.size (u8s o.target)) w.heap.size 42 (u8s o.target):=setRow_heap _ _ _ _ _ _ i5
       have z6:Blk (W5.setRow w.heap.size (u8s o.target)) B2 42 Z:=(setRow_other _ _ _ _ (by omega)).trans z5
       have b6:=below_setRow b5 (Nat.le_refl _) (u8s o.target)
       clear hl1 hlt5 hc0 hb5 hO5 z5 i5 z4 i4 hv4 hob2
       go_roundg f
       case rel=>exact ⟨k+1,o.target,by go_num,by omega,hend2,hta,i6,z6,b6⟩
       case measure=>omega
      ·rw [if_neg hk4] at hend2
       have hkb:(o.kind != 4)=true:=by simp [hk4]
       have hkb2:(o.kind==4)=false:=by simp [hk4]
       have hV:=hRs.out m hend2.symm
       clear hk4 hRn hRs hob hend2
       go_wp2_with (first
        | ((with_reducible refine hob2.out.mono ?_);rintro e w4 ⟨⟨A1,A2,k1,k2,rfl,hv4⟩,hb4⟩
           have b4:=bthen hbel hbs hb4
           have z4:=hz.below hb4 hz.lt
           have i4:=hi.below hb4 hi.lt
           have hc72:(objC o (.slice A1 o.ents.length k1) (.slice A2 o.pars.length k2)).toArray.size=72:=by rw [List.size_toArray,objC_len hv4.ok]
           have hcone:=objC_all o A1 A2 o.ents.length k1 o.pars.length k2)
        | ((with_reducible refine lit_new 54 (.tmp 6) (.tmp 17) (objC o (.slice A1 o.ents.length k1) (.slice A2 o.pars.length k2)).toArray 72 szObj hc72 hcone _ ?_ ?_ ?_ ?_)
           ·first | exact hz72 | rfl
           ·rfl
           ·rfl
           intro W5 hb5 hbl5
           have b5:=bthen b4 b4.size hbl5
           have z5:=z4.below hbl5 z4.lt
           have i5:=i4.below hbl5 i4.lt
           have hO5:ObjB W5 w4.heap.size o (.slice A1 o.ents.length k1) (.slice A2 o.pars.length k2):=⟨hb5,hv4.ok.tree,hv4.ok.target⟩
           have hc0:=hO5.kind
           have hl5:=run_ldvI_at (range_blk i5) hm)
        | (refine wpList_store_row rfl 42 (.tmp 4) (.tmp 27) rfl B2 (u8s m) rfl rfl _ _ z5 (hsI _ hm32) (hZ32.trans hm32.symm) hm1 ?_))
       (try rw [hV])
       refine bodyPost_ret (results_row_tmp rfl _ _ B2 _ _ _ _ rfl (setRow_heap _ _ _ _ _ _ z5) Tryz.underlying42 rfl (hsI _ hm32)) rfl ⟨rfl,below_setRow b5 (Nat.le_of_lt hlt12) _⟩
set_option maxRecDepth 100000 in
set_option maxHeartbeats 8000000 in
theorem docEnd_calls {w:World} {vm:Value} {es:List DiL} (h:DocSt w vm es) (n:Txt) (hn:n.length=32) :
 Calls Tryz.prog 15 #[.agg #[vm], .agg (u8s n)] w fun e w'=>e = .returned (endV (endS (es.map (·.st)) (es.length+1) n))∧Below w.heap.size w w':=by
 have hzi:=zeroIdV
 have hrb:=fun W=>run_build (P:=Tryz.prog) W _ _ _ built_zId
 have hzo:=zeroObj
 have hZ32:(u8s noId).size=32:=by rw [u8s_size];rfl
 have hZone:=u8s_one noId
 have hsI : ∀ cs:Array Value,cs.size=32→(Tryz.prog.info? 42).map (·.size)=some cs.size:=fun cs h=>by rw [h];exact sz32
 have hz72:=zObj_size
 have hzone:zObj.all (·.oneCell')=true:=zObj_one
 obtain ⟨W1,W2,hW1,hW2,b2,hlt1,hlt2,hf⟩:=boxSt (w:=w) vm n hn
 have n2:Blk W2 W1.heap.size 42 (u8s n):=by rw [←hW2];exact Blk.new _ _ _
 have s2:W2.heap[w.heap.size]?=some (.cells #[vm] 28 (0,0)):=(hf W2 (Below.refl _ _)).2.1
 obtain ⟨W3,hW3⟩ : ∃ W3,W2.alloc (.cells (u8s noId) 42)=W3:=⟨_,rfl⟩
 have z3:Blk W3 W2.heap.size 42 (u8s noId):=by rw [←hW3];exact Blk.new _ _ _
 have bb3:Below W2.heap.size W2 W3:=by rw [←hW3];exact (Below.refl _ _).alloc (Nat.le_refl _) _
 have b3:=bthen b2 b2.size bb3
 have n3:=n2.below bb3 n2.lt
 have s3:Blk W3 w.heap.size 28 #[vm]:=Blk.below s2 bb3 (Nat.lt_trans hlt1 hlt2)
 have hob:=fun W (hW:Below w.heap.size w W) (m:Txt) (hm:m.length=32)=>docObject_calls (h.below hW) m hm
 have hSok:=h.ok
 have hfew:=h.few
 obtain ⟨R,hR⟩ : ∃ R,endS (es.map (·.st)) (es.length+1) n=R:=⟨_,rfl⟩
 rw [hR]
 replace hR:=Lib.hid hR
 have hRn:Hid (R=none→endV R = .tuple #[.agg (u8s noId), .bool false]):=Lib.hid fun h=>by rw [h];rfl
 have hRs:Hid (∀ m,R=some m→endV R = .tuple #[.agg (u8s m), .bool true]):=Lib.hid fun m h=>by rw [h];rfl
 obtain ⟨S,hS⟩ : ∃ S,es.map (·.st)=S:=⟨_,rfl⟩
 rw [hS] at hob hSok hR
 generalize endV R=V at *
 obtain ⟨A,cap,rfl,hcap⟩:=h.at_
 obtain ⟨B2,hB2⟩ : ∃ B2,W1.heap.size=B2:=⟨_,rfl⟩
 obtain ⟨B3,hB3⟩ : ∃ B3,W2.heap.size=B3:=⟨_,rfl⟩
 rw [hB3] at z3
 rw [hB2] at n3
 have hlt12:w.heap.size<B2:=by omega
 have hlt23:B2<B3:=by omega
 obtain ⟨NC,hNC⟩ : ∃ NC,u8s n=NC:=⟨_,rfl⟩
 have hNC2:=hNC
 rw [hNC] at hW2 ⊢
 obtain ⟨Z,hZ⟩ : ∃ Z,u8s noId=Z:=⟨_,rfl⟩
 rw [hZ] at hZ32 hZone hW3 z3 hzi hrb hRn
 clear hNC hZ h hcap hf hS s2 n2
 go_enter Tryz.func15,Tryz.ntmps15
 go_wp2_with (fail)
 go_loopg [6] (es.length+1) (fun f vi wr => ∃ (k:Nat) (m:Txt),vi = .int .i64 k∧k+f=es.length+1∧Hid (endS S f m=R)∧m.length=32∧Blk wr w.heap.size 28 #[.slice A es.length cap]∧Blk wr B2 42 (u8s m)∧Blk wr B3 42 Z∧Below w.heap.size w wr)
 case atStart=>exact ⟨0,n,rfl,by omega,hR,hn,s3,n3,z3,b3⟩
 case round=>
  clear hR n3 z3 s3 b3 bb3 b2 hW1 hW2 hW3
  obtain ⟨k,m,rfl,hkf,hend,hm,hs,hi,hz,hbel⟩:=hrel
  have hbs:=hbel.size
  have hm32:(u8s m).size=32:=by rw [u8s_size,hm]
  have hm1:=u8s_one m
  have hc0:wr.cell? ⟨w.heap.size,0,none⟩=some (.slice A es.length cap):=by rw [hs.cell];rfl
  have hls:=run_ldvS hs
  cases gk with
  | zero=>
    have hki : ¬ (k:Int)≤(es.length:Int):=by omega
    have hV:=hRn.out hend.out.symm
    clear hend hRn hRs
    go_wp2_with (first
     | (refine wpList_store_row rfl 42 (.tmp 4) (.tmp 28) rfl B3 Z rfl rfl _ _ hz (hsI _ hZ32) rfl hZone ?_))
    (try rw [hV])
    refine bodyPost_ret (results_row_tmp rfl _ _ B3 _ _ _ _ rfl (setRow_heap _ _ _ _ _ _ hz) Tryz.underlying42 rfl (hsI _ hZ32)) rfl ⟨rfl,below_setRow hbel (by omega) _⟩
  | succ f=>
    have hki:(k:Int)≤(es.length:Int):=by omega
    have hl1:=run_ldvI_at (range_blk hi) hm
    have hob1:=hob wr hbel m hm
    cases hg:getS S m with
    | none=>
      have hV:=hRn.out (by rw [←hend.out,endS,objS_none hg])
      have hob2:Hid (Calls Tryz.prog 21 #[.agg #[.slice A es.length cap], .agg (u8s m)] wr fun e w'=>e = .returned (.agg zObj)∧Below wr.heap.size wr w'):=Lib.hid (by
       have h:=hob1
       unfold ObjG at h
       rw [hg] at h
       exact h)
      have hzk:zObj[0]?=some (.int .i64 0):=rfl
      clear hg hob1 hob hend hRn hRs
      generalize zObj=ZO at *
      go_wp2_with (first
       | ((with_reducible refine hob2.out.mono ?_);rintro e w4 ⟨rfl,hb4⟩
          have b4:=bthen hbel hbs hb4
          have z4:=hz.below hb4 hz.lt)
       | ((with_reducible refine lit_new 54 (.tmp 7) (.tmp 17) ZO 72 szObj hz72 hzone _ ?_ ?_ ?_ ?_)
          ·first | exact hz72 | rfl
          ·rfl
          ·rfl
          intro W5 hb5 hbl5
          have b5:=bthen b4 b4.size hbl5
          have z5:=z4.below hbl5 z4.lt
          have hck:W5.cell? ⟨w4.heap.size,0,none⟩=some (.int .i64 0):=by rw [hb5.cell];exact hzk)
       | (refine wpList_store_row rfl 42 (.tmp 4) (.tmp 21) rfl B3 Z rfl rfl _ _ z5 (hsI _ hZ32) rfl hZone ?_))
      (try rw [hV])
      refine bodyPost_ret (results_row_tmp rfl _ _ B3 _ _ _ _ rfl (setRow_heap _ _ _ _ _ _ z5) Tryz.underlying42 rfl (hsI _ hZ32)) rfl ⟨rfl,below_setRow b5 (by omega) _⟩
    | some s=>
      obtain ⟨o,hdo⟩:=(hSok.each s (getS_id hg).1).2
      have hobj:=objS_some hg hdo
      have hend2:=hend.out
      rw [endS,hobj] at hend2
      simp only at hend2
      have hob2:Hid (Calls Tryz.prog 21 #[.agg #[.slice A es.length cap], .agg (u8s m)] wr fun e w'=>(∃ A1 A2 k1 k2,e = .returned (.agg (objC o (.slice A1 o.ents.length k1) (.slice A2 o.pars.length k2)).toArray)∧ObjV w' (.slice A1 o.ents.length k1) (.slice A2 o.pars.length k2) o)∧Below wr.heap.size wr w'):=Lib.hid (by
       refine hob1.mono fun e w' ⟨h,hb⟩=>⟨?_,hb⟩
       unfold ObjG at h
       rw [hg] at h
       obtain ⟨o',A1,A2,k1,k2,h1,h2,h3⟩:=h
       rw [hdo] at h1
       injection h1 with h1
       subst h1
       exact ⟨A1,A2,k1,k2,h2,h3⟩)
      have hta:=(objS_sound hobj).1.target
      have hk0:(o.kind==0)=false:=by have:=(objS_sound hobj).2;simp;omega
      clear hg hob1 hobj hdo hend
      by_cases hk4:o.kind=4
      ·rw [if_pos hk4] at hend2
       have hkb:(o.kind != 4)=false:=by simp [hk4]
       have hkb2:(o.kind==4)=true:=by simp [hk4]
       have ht32:(u8s o.target).size=32:=by rw [u8s_size,hta]
       have ht1:=u8s_one o.target
       replace hend2:=Lib.hid hend2
       clear hk4 hRn hRs hob
       go_wp2_with (first
        | ((with_reducible refine hob2.out.mono ?_);rintro e w4 ⟨⟨A1,A2,k1,k2,rfl,hv4⟩,hb4⟩
           have b4:=bthen hbel hbs hb4
           have z4:=hz.below hb4 hz.lt
           have i4:=hi.below hb4 hi.lt
           have s4:=hs.below hb4 hs.lt
           have hc72:(objC o (.slice A1 o.ents.length k1) (.slice A2 o.pars.length k2)).toArray.size=72:=by rw [List.size_toArray,objC_len hv4.ok]
           have hcone:=objC_all o A1 A2 o.ents.length k1 o.pars.length k2)
        | ((with_reducible refine lit_new 54 (.tmp 7) (.tmp 17) (objC o (.slice A1 o.ents.length k1) (.slice A2 o.pars.length k2)).toArray 72 szObj hc72 hcone _ ?_ ?_ ?_ ?_)
           ·first | exact hz72 | rfl
           ·rfl
           ·rfl
           intro W5 hb5 hbl5
           have b5:=bthen b4 b4.size hbl5
           have z5:=z4.below hbl5 z4.lt
           have i5:=i4.below hbl5 i4.lt
           have s5:=s4.below hbl5 s4.lt
           have hO5:ObjB W5 w4.heap.size o (.slice A1 o.ents.length k1) (.slice A2 o.pars.length k2):=⟨hb5,hv4.ok.tree,hv4.ok.target⟩
           have hck:=hO5.kind
           have hlt5:=run_ldvI_at hO5.target hta)
        | (refine wpList_store_row rfl 42 (.tmp 3) (.tmp 27) rfl B2 (u8s o.target) rfl rfl _ _ i5 (hsI _ ht32) (hm32.trans ht32.symm) ht1 ?_))
       have i6:Blk (W5.setRow B2 (u8s o.target)) B2 42 (u8s o.target):=setRow_heap _ _ _ _ _ _ i5
       have z6:Blk (W5.setRow B2 (u8s o.target)) B3 42 Z:=(setRow_other _ _ _ _ (by omega)).trans z5
       have s6:Blk (W5.setRow B2 (u8s o.target)) w.heap.size 28 #[.slice A es.length cap]:=(setRow_other _ _ _ _ (by omega)).trans s5
       have b6:=below_setRow b5 (Nat.le_of_lt hlt12) (u8s o.target)
       clear hl1 hlt5 hck hc0 hls hb5 hO5 z5 i5 z4 i4 s4 s5 hv4 hob2
       go_roundg f
       case rel=>exact ⟨k+1,o.target,by go_num,by omega,hend2,hta,s6,i6,z6,b6⟩
       case measure=>omega
      ·rw [if_neg hk4] at hend2
       have hkb:(o.kind != 4)=true:=by simp [hk4]
       have hkb2:(o.kind==4)=false:=by simp [hk4]
       have hV:=hRs.out m hend2.symm
       clear hk4 hRn hRs hob hend2
       go_wp2_with (first
        | ((with_reducible refine hob2.out.mono ?_);rintro e w4 ⟨⟨A1,A2,k1,k2,rfl,hv4⟩,hb4⟩
           have b4:=bthen hbel hbs hb4
           have z4:=hz.below hb4 hz.lt
           have i4:=hi.below hb4 hi.lt
           have hc72:(objC o (.slice A1 o.ents.length k1) (.slice A2 o.pars.length k2)).toArray.size=72:=by rw [List.size_toArray,objC_len hv4.ok]
           have hcone:=objC_all o A1 A2 o.ents.length k1 o.pars.length k2)
        | ((with_reducible refine lit_new 54 (.tmp 7) (.tmp 17) (objC o (.slice A1 o.ents.length k1) (.slice A2 o.pars.length k2)).toArray 72 szObj hc72 hcone _ ?_ ?_ ?_ ?_)
           ·first | exact hz72 | rfl
           ·rfl
           ·rfl
           intro W5 hb5 hbl5
           have b5:=bthen b4 b4.size hbl5
           have z5:=z4.below hbl5 z4.lt
           have i5:=i4.below hbl5 i4.lt
           have hO5:ObjB W5 w4.heap.size o (.slice A1 o.ents.length k1) (.slice A2 o.pars.length k2):=⟨hb5,hv4.ok.tree,hv4.ok.target⟩
           have hck:=hO5.kind
           have hl5:=run_ldvI_at (range_blk i5) hm)
        | (refine wpList_store_row rfl 42 (.tmp 4) (.tmp 25) rfl B3 (u8s m) rfl rfl _ _ z5 (hsI _ hm32) (hZ32.trans hm32.symm) hm1 ?_))
       (try rw [hV])
       refine bodyPost_ret (results_row_tmp rfl _ _ B3 _ _ _ _ rfl (setRow_heap _ _ _ _ _ _ z5) Tryz.underlying42 rfl (hsI _ hm32)) rfl ⟨rfl,below_setRow b5 (by omega) _⟩
end Go.Proofs.YtlojebhcemfodaaGreatDoor
namespace Go.Proofs.YtlojebhcemfodaaGreatDoor
section
variable {α:Type} [Inhabited α]
def atQ (Q:List α) (i:Nat):α:=Q.getD i default
def swapQ (Q:List α) (i j:Nat):List α:=(Q.set i (atQ Q j)).set j (atQ Q i)
theorem atQ_get {Q:List α} {i:Nat} (h:i<Q.length):Q[i]?=some (atQ Q i):=by
 unfold atQ
 rw [List.getD_eq_getElem?_getD,List.getElem?_eq_getElem h];rfl
theorem swapQ_len (Q:List α) (i j:Nat):(swapQ Q i j).length=Q.length:=by unfold swapQ;rw [List.length_set,List.length_set]
theorem atQ_swap {Q:List α} {i j:Nat} (hi:i<Q.length) (hj:j<Q.length) (k:Nat):atQ (swapQ Q i j) k=if k=j then atQ Q i else if k=i then atQ Q j else atQ Q k:=by
 unfold swapQ
 show ((Q.set i (atQ Q j)).set j (atQ Q i)).getD k default=_
 rw [List.getD_eq_getElem?_getD,List.getElem?_set]
 by_cases h1:k=j
 ·subst h1
  rw [if_pos rfl,if_pos rfl,if_pos (by rw [List.length_set];exact hj)];rfl
 ·rw [if_neg (fun e=>h1 e.symm),if_neg h1,List.getElem?_set]
  by_cases h2:k=i
  ·subst h2
   rw [if_pos rfl,if_pos rfl,if_pos hi];rfl
  ·rw [if_neg (fun e=>h2 e.symm),if_neg h2,←List.getD_eq_getElem?_getD];rfl
theorem swapQ_perm {Q:List α} {i j:Nat} (hi:i<Q.length) (hj:j<Q.length):(swapQ Q i j).Perm Q:=by
 have h:=Array.swap_perm (xs:=Q.toArray) (i:=i) (j:=j) (by simpa using hi) (by simpa using hj)
 have e:(Q.toArray.swap i j (by simpa using hi) (by simpa using hj)).toList=swapQ Q i j:=by
  unfold swapQ
  rw [Array.swap_def]
  have e1:atQ Q j=Q[j]:=by unfold atQ;rw [List.getD_eq_getElem?_getD,List.getElem?_eq_getElem hj];rfl
  have e2:atQ Q i=Q[i]:=by unfold atQ;rw [List.getD_eq_getElem?_getD,List.getElem?_eq_getElem hi];rfl
  rw [e1,e2]
  simp
 rw [←e]
 exact h.toList
/-- The place above. -/
def par (c:Nat):Nat:=(c-1) / 2
/-- An order in which neither is less where both stand alike. -/
structure Ord (lt:α→α→Bool):Prop where
 asymm : ∀ a b,lt a b=true→lt b a=false
 ntrans : ∀ a b c,lt a b=false→lt b c=false→lt a c=false
def HeapQ (lt:α→α→Bool) (Q:List α) (n:Nat):Prop := ∀ c,0<c→c<n→lt (atQ Q c) (atQ Q (par c))=false
def upQ (lt:α→α→Bool):Nat→List α→Nat→List α
 | 0,Q,_=>Q
 | f+1,Q,j=>if par j=j∨lt (atQ Q j) (atQ Q (par j))=false then Q else upQ lt f (swapQ Q (par j) j) (par j)
def minC (lt:α→α→Bool) (Q:List α) (i n:Nat):Nat:=if 2*i+1+1<n∧lt (atQ Q (2*i+1+1)) (atQ Q (2*i+1))=true then 2*i+1+1 else 2*i+1
def downQ (lt:α→α→Bool):Nat→List α→Nat→Nat→List α
 | 0,Q,_,_=>Q
 | f+1,Q,i,n=>if n≤2*i+1∨lt (atQ Q (minC lt Q i n)) (atQ Q i)=false then Q else downQ lt f (swapQ Q i (minC lt Q i n)) (minC lt Q i n) n
theorem par_lt {c:Nat} (h:0<c):par c<c:=by unfold par;omega
theorem upQ_len (lt:α→α→Bool) : ∀ (f:Nat) (Q:List α) (j:Nat),(upQ lt f Q j).length=Q.length
 | 0,Q,j=>rfl
 | f+1,Q,j=>by
   unfold upQ
   split
   ·rfl
   ·rw [upQ_len lt f,swapQ_len]
theorem upQ_perm (lt:α→α→Bool) : ∀ (f:Nat) (Q:List α) (j:Nat),j<Q.length→(upQ lt f Q j).Perm Q
 | 0,Q,j,_=>List.Perm.refl _
 | f+1,Q,j,hj=>by
   unfold upQ
   split
   ·exact List.Perm.refl _
   ·have h1:par j<Q.length:=by unfold par;omega
    exact (upQ_perm lt f _ _ (by rw [swapQ_len];exact h1)).trans (swapQ_perm h1 hj)
theorem downQ_len (lt:α→α→Bool) : ∀ (f:Nat) (Q:List α) (i n:Nat),(downQ lt f Q i n).length=Q.length
 | 0,Q,i,n=>rfl
 | f+1,Q,i,n=>by
   unfold downQ
   split
   ·rfl
   ·rw [downQ_len lt f,swapQ_len]
theorem minC_lt {lt:α→α→Bool} {Q:List α} {i n:Nat} (h : ¬ n≤2*i+1):minC lt Q i n<n:=by
 unfold minC;split<;>omega
theorem downQ_perm (lt:α→α→Bool) : ∀ (f:Nat) (Q:List α) (i n:Nat),i<Q.length→n≤Q.length→(downQ lt f Q i n).Perm Q
 | 0,Q,i,n,_,_=>List.Perm.refl _
 | f+1,Q,i,n,hi,hn=>by
   unfold downQ
   split
   ·exact List.Perm.refl _
   ·rename_i hc
    have h1:=minC_lt (lt:=lt) (Q:=Q) (fun h=>hc (.inl h))
    exact (downQ_perm lt f _ _ n (by rw [swapQ_len];omega) (by rw [swapQ_len];exact hn)).trans (swapQ_perm hi (by omega))
/-- Places from n on stay as they are. -/
theorem downQ_out (lt:α→α→Bool) : ∀ (f:Nat) (Q:List α) (i n k:Nat),i<n→n≤Q.length→n≤k→atQ (downQ lt f Q i n) k=atQ Q k
 | 0,Q,i,n,k,_,_,_=>rfl
 | f+1,Q,i,n,k,hi,hn,hk=>by
   unfold downQ
   split
   ·rfl
   ·rename_i hc
    have h1:=minC_lt (lt:=lt) (Q:=Q) (fun h=>hc (.inl h))
    rw [downQ_out lt f _ _ n k h1 (by rw [swapQ_len];exact hn) hk,atQ_swap (by omega) (by omega),if_neg (by omega),if_neg (by omega)]
structure UpI (lt:α→α→Bool) (Q:List α) (n j:Nat):Prop where
 a : ∀ c,0<c→c<n→c≠j→lt (atQ Q c) (atQ Q (par c))=false
 b : ∀ c,0<c→c<n→par c=j→0<j→lt (atQ Q c) (atQ Q (par j))=false
theorem up_heap {lt:α→α→Bool} (ho:Ord lt) (n:Nat) : ∀ (f:Nat) (Q:List α) (j:Nat),n≤Q.length→j<n→j<f→UpI lt Q n j→HeapQ lt (upQ lt f Q j) n
 | 0,Q,j,_,_,h,_=>by omega
 | f+1,Q,j,hn,hj,hf,hu=>by
   unfold upQ
   split
   ·rename_i hc
    intro c h0 h1
    by_cases e:c=j
    ·rw [e] at h0 ⊢
     rcases hc with hc | hc
     ·have:=par_lt h0;omega
     ·exact hc
    ·exact hu.a c h0 h1 e
   ·rename_i hc
    have hj0:0<j:=by
     rcases Nat.eq_zero_or_pos j with e | e
     ·exact absurd (.inl (by rw [e];rfl)) hc
     ·exact e
    have hij:=par_lt hj0
    have hlt:lt (atQ Q j) (atQ Q (par j))=true:=by
     cases hb:lt (atQ Q j) (atQ Q (par j))
     ·exact absurd (.inr hb) hc
     ·rfl
    have has:=ho.asymm _ _ hlt
    have hat:=atQ_swap (Q:=Q) (i:=par j) (j:=j) (by omega) (by omega)
    refine up_heap ho n f _ _ (by rw [swapQ_len];exact hn) (by omega) (by omega) ⟨fun c h0 h1 hne=>?_,fun c h0 h1 hpc hi0=>?_⟩
    ·rw [hat,hat]
     have hpc:=par_lt h0
     by_cases e1:c=j
     ·subst e1
      rw [if_pos rfl,if_neg (by omega),if_pos rfl]
      exact has
     ·rw [if_neg e1,if_neg hne]
      by_cases e2:par c=j
      ·rw [if_pos e2]
       exact hu.b c h0 h1 e2 hj0
      ·rw [if_neg e2]
       by_cases e3:par c=par j
       ·rw [if_pos e3]
        have h2:=hu.a c h0 h1 e1
        rw [e3] at h2
        exact ho.ntrans _ _ _ h2 has
       ·rw [if_neg e3]
        exact hu.a c h0 h1 e1
    ·have hpp:=par_lt hi0
     rw [hat,hat,if_neg (show ¬ par (par j)=j by omega),if_neg (show ¬ par (par j)=par j by omega)]
     have h4:=hu.a (par j) hi0 (by omega) (by omega)
     by_cases e1:c=j
     ·rw [if_pos e1];exact h4
     ·have:=par_lt h0
      rw [if_neg e1,if_neg (by omega)]
      have h2:=hu.a c h0 h1 e1
      rw [hpc] at h2
      exact ho.ntrans _ _ _ h2 h4
structure DownI (lt:α→α→Bool) (Q:List α) (n i:Nat):Prop where
 a : ∀ c,0<c→c<n→par c≠i→lt (atQ Q c) (atQ Q (par c))=false
 b : ∀ c,0<c→c<n→par c=i→0<i→lt (atQ Q c) (atQ Q (par i))=false
theorem minC_least {lt:α→α→Bool} (ho:Ord lt) {Q:List α} {i n:Nat} {c:Nat} (h0:0<c) (h1:c<n) (hp:par c=i):c=minC lt Q i n∨lt (atQ Q c) (atQ Q (minC lt Q i n))=false:=by
 have hc:c=2*i+1∨c=2*i+1+1:=by unfold par at hp;omega
 unfold minC
 split
 ·rename_i h
  rcases hc with rfl | rfl
  ·exact .inr (ho.asymm _ _ h.2)
  ·exact .inl rfl
 ·rename_i h
  rcases hc with rfl | rfl
  ·exact .inl rfl
  ·refine .inr ?_
   cases hb:lt (atQ Q (2*i+1+1)) (atQ Q (2*i+1))
   ·rfl
   ·exact absurd ⟨h1,hb⟩ h
theorem minC_par (lt:α→α→Bool) (Q:List α) (i n:Nat):par (minC lt Q i n)=i∧i<minC lt Q i n:=by
 unfold minC par
 split<;>omega
theorem down_heap {lt:α→α→Bool} (ho:Ord lt) (n:Nat) : ∀ (f:Nat) (Q:List α) (i:Nat),n≤Q.length→i<n→n≤i+f→DownI lt Q n i→HeapQ lt (downQ lt f Q i n) n
 | 0,Q,i,_,hi,h,_=>by omega
 | f+1,Q,i,hn,hi,hf,hu=>by
   unfold downQ
   split
   ·rename_i hc
    intro c h0 h1
    by_cases e:par c=i
    ·rcases hc with hc | hc
     ·unfold par at e;omega
     ·rw [e]
      rcases minC_least ho h0 h1 e (Q:=Q) with h2 | h2
      ·rw [h2];exact hc
      ·exact ho.ntrans _ _ _ h2 hc
    ·exact hu.a c h0 h1 e
   ·rename_i hc
    have h1:=minC_lt (lt:=lt) (Q:=Q) (fun h=>hc (.inl h))
    obtain ⟨hp,hlt2⟩:=minC_par lt Q i n
    have hml:=fun c h0 h1 hp=>minC_least ho (Q:=Q) (i:=i) (n:=n) (c:=c) h0 h1 hp
    have hlt:lt (atQ Q (minC lt Q i n)) (atQ Q i)=true:=by
     cases hb:lt (atQ Q (minC lt Q i n)) (atQ Q i)
     ·exact absurd (.inr hb) hc
     ·rfl
    generalize minC lt Q i n=j at *
    have has:=ho.asymm _ _ hlt
    have hat:=atQ_swap (Q:=Q) (i:=i) (j:=j) (by omega) (by omega)
    refine down_heap ho n f _ _ (by rw [swapQ_len];exact hn) h1 (by omega) ⟨fun c h0 hc1 hne=>?_,fun c h0 hc1 hpc hj0=>?_⟩
    ·have hpc:=par_lt h0
     rw [hat,hat,if_neg (show ¬ par c=j from hne)]
     by_cases e1:par c=i
     ·rw [if_pos e1]
      by_cases e2:c=j
      ·rw [if_pos e2];exact has
      ·rw [if_neg e2,if_neg (by omega)]
       exact (hml c h0 hc1 e1).resolve_left e2
     ·rw [if_neg e1]
      by_cases e2:c=j
      ·rw [e2] at e1;exact absurd hp e1
      ·rw [if_neg e2]
       by_cases e3:c=i
       ·subst e3
        rw [if_pos rfl]
        exact hu.b j (by omega) h1 hp h0
       ·rw [if_neg e3]
        exact hu.a c h0 hc1 e1
    ·have:=par_lt h0
     rw [hat,hat,hp,if_neg (show ¬ c=j by omega),if_neg (show ¬ c=i by omega),if_neg (show ¬ i=j by omega),if_pos rfl]
     have h2:=hu.a c h0 hc1 (by omega)
     rwa [hpc] at h2
/-- The root is least. -/
theorem heap_root {lt:α→α→Bool} (ho:Ord lt) {Q:List α} {n:Nat} (h:HeapQ lt Q n) (hirr:lt (atQ Q 0) (atQ Q 0)=false) : ∀ (f c:Nat),c<f→c<n→lt (atQ Q c) (atQ Q 0)=false
 | 0,c,hc,_=>by omega
 | f+1,c,hc,hn=>by
   rcases Nat.eq_zero_or_pos c with rfl | h0
   ·exact hirr
   ·have hp:=par_lt h0
    exact ho.ntrans _ _ _ (h c h0 hn) (heap_root ho h hirr f (par c) (by omega) (by omega))
/-- One more. -/
theorem heap_push {lt:α→α→Bool} (ho:Ord lt) {Q:List α} (h:HeapQ lt Q Q.length) (x:α):HeapQ lt (upQ lt (Q.length+1) (Q++[x]) Q.length) (Q.length+1)∧(upQ lt (Q.length+1) (Q++[x]) Q.length).Perm (Q++[x]):=by
 have hl:(Q++[x]).length=Q.length+1:=by rw [List.length_append];rfl
 have hat : ∀ c,c<Q.length→atQ (Q++[x]) c=atQ Q c:=fun c hc=>by unfold atQ;rw [List.getD_eq_getElem?_getD,List.getD_eq_getElem?_getD,List.getElem?_append_left hc]
 refine ⟨up_heap ho (Q.length+1) _ _ _ (by omega) (by omega) (by omega) ⟨fun c h0 h1 hne=>?_,fun c h0 h1 hpc _=>?_⟩,upQ_perm lt _ _ _ (by omega)⟩
 ·have:=par_lt h0
  rw [hat c (by omega),hat (par c) (by omega)]
  exact h c h0 (by omega)
 ·have:=par_lt h0;omega
/-- The least one comes out. -/
theorem heap_pop {lt:α→α→Bool} (ho:Ord lt) {Q:List α} {n:Nat} (hl:Q.length=n+1) (h:HeapQ lt Q Q.length):HeapQ lt (downQ lt (n+1) (swapQ Q 0 n) 0 n) n∧atQ (downQ lt (n+1) (swapQ Q 0 n) 0 n) n=atQ Q 0∧(downQ lt (n+1) (swapQ Q 0 n) 0 n).Perm Q∧(downQ lt (n+1) (swapQ Q 0 n) 0 n).length=n+1:=by
 have hs:(swapQ Q 0 n).length=n+1:=by rw [swapQ_len,hl]
 have hat:=atQ_swap (Q:=Q) (i:=0) (j:=n) (by omega) (by omega)
 have hpm:=swapQ_perm (Q:=Q) (i:=0) (j:=n) (by omega) (by omega)
 rcases Nat.eq_zero_or_pos n with rfl | hn
 ·refine ⟨fun c h0 h1=>by omega,?_,?_,by rw [downQ_len,hs]⟩
  ·have:downQ lt (0+1) (swapQ Q 0 0) 0 0=swapQ Q 0 0:=by unfold downQ;rw [if_pos (.inl (by omega))]
   rw [this,hat,if_pos rfl]
  ·have:downQ lt (0+1) (swapQ Q 0 0) 0 0=swapQ Q 0 0:=by unfold downQ;rw [if_pos (.inl (by omega))]
   rw [this];exact hpm
 ·refine ⟨down_heap ho n _ _ _ (by omega) hn (by omega) ⟨fun c h0 h1 hne=>?_,fun c _ _ _ h=>by omega⟩,?_,(downQ_perm lt _ _ _ _ (by omega) (by omega)).trans hpm,by rw [downQ_len,hs]⟩
  ·have:=par_lt h0
   rw [hat,hat,if_neg (show ¬ c=n by omega),if_neg (show ¬ c=0 by omega),if_neg (show ¬ par c=n by omega),if_neg (show ¬ par c=0 from hne)]
   exact h c h0 (by omega)
  ·rw [downQ_out lt _ _ _ n n hn (by omega) (Nat.le_refl _),hat,if_pos rfl]
end
end Go.Proofs.YtlojebhcemfodaaGreatDoor
namespace Go.Proofs.YtlojebhcemfodaaGreatDoor
open Go.RowKit
/-- Where an object's parents and its time stand. -/
theorem objC_at {o:ObjL} (h:o.tree.length=32) (ve vp:Value):(objC o ve vp)[35]?=some vp∧(objC o ve vp)[36]?=some (.int .u32 o.time):=by
 have e:objC o ve vp=(.int .i64 o.kind :: .string (B o.data)::ve::(u8s o.tree).toList)++(vp :: .int .u32 o.time :: .string (B o.text)::((u8s o.target).toList++[.int .i64 o.of_, .string (B o.name)])):=by simp [objC]
 have hl:(Value.int .i64 o.kind :: .string (B o.data)::ve::(u8s o.tree).toList).length=35:=by simp [u8s_size,h]
 rw [e]
 constructor
 ·rw [List.getElem?_append_right (by omega),hl];rfl
 ·rw [List.getElem?_append_right (by omega),hl];rfl
/-- Is one told ahead of another one, by times and ids? -/
def aheadL (x y:Nat) (a b:Txt):Bool:=if x=y then Op.bytesLess a b else decide (y<x)
theorem ahead_asymm {x y:Nat} {a b:Txt} (h:aheadL x y a b=true):aheadL y x b a=false:=by
 unfold aheadL at h ⊢
 by_cases e:x=y
 ·rw [if_pos e] at h
  rw [if_pos e.symm]
  exact less_asymm h
 ·rw [if_neg e] at h
  rw [if_neg fun h=>e h.symm]
  have:=of_decide_eq_true h
  exact decide_eq_false (by omega)
theorem less_ntrans {a b c:Txt} (h1:Op.bytesLess a b=false) (h2:Op.bytesLess b c=false):Op.bytesLess a c=false:=by
 cases hac:Op.bytesLess a c with
 | false=>rfl
 | true=>
   by_cases e:a=b
   ·rw [e,h2] at hac;cases hac
   ·rw [less_trans (less_total h1 e) hac] at h2;cases h2
theorem ahead_ntrans {x y z:Nat} {a b c:Txt} (h1:aheadL x y a b=false) (h2:aheadL y z b c=false):aheadL x z a c=false:=by
 unfold aheadL at h1 h2 ⊢
 by_cases e1:x=y
 ·subst e1
  rw [if_pos rfl] at h1
  by_cases e2:x=z
  ·rw [if_pos e2] at h2 ⊢
   exact less_ntrans h1 h2
  ·rw [if_neg e2] at h2 ⊢
   exact h2
 ·rw [if_neg e1] at h1
  have h1:=of_decide_eq_false h1
  by_cases e2:y=z
  ·subst e2
   rw [if_neg e1]
   exact decide_eq_false h1
  ·rw [if_neg e2] at h2
   have h2:=of_decide_eq_false h2
   rw [if_neg (by omega)]
   exact decide_eq_false (by omega)
theorem ahead_one {x y:Nat} {a b:Txt} (h1:aheadL x y a b=false) (h2:aheadL y x b a=false):a=b:=by
 unfold aheadL at h1 h2
 by_cases e:x=y
 ·rw [if_pos e] at h1
  rw [if_pos e.symm] at h2
  by_cases hab:a=b
  ·exact hab
  ·rw [less_total h1 hab] at h2;cases h2
 ·rw [if_neg e] at h1
  rw [if_neg fun h=>e h.symm] at h2
  have h1:=of_decide_eq_false h1
  have h2:=of_decide_eq_false h2
  omega
theorem ahead_ord {α:Type} [Inhabited α] (t:α→Nat) (f:α→Txt):Ord fun a b=>aheadL (t a) (t b) (f a) (f b):=⟨fun _ _ h=>ahead_asymm h,fun _ _ _ h1 h2=>ahead_ntrans h1 h2⟩
def timeS (S:List StL) (n:Txt):Nat:=match objS S n with
 | some o=>o.time
 | none=>0
def parS (S:List StL) (n:Txt):List Txt:=match objS S n with
 | some o=>o.pars
 | none=>[]
def aheadS (S:List StL) (a b:Txt):Bool:=aheadL (timeS S a) (timeS S b) a b
theorem aheadS_irr (S:List StL) (a:Txt):aheadS S a a=false:=by
 unfold aheadS aheadL
 rw [if_pos rfl]
 exact less_irrefl a
/-- The better one. -/
def pickB (S:List StL) (b:Option Txt) (x:Txt):Option Txt:=match b with
 | none=>some x
 | some y=>if aheadS S x y=true then some x else some y
section
variable {S:List StL} {cut:List Txt}
theorem pick_some (b:Option Txt) (x:Txt) : ∃ z,pickB S b x=some z∧(z=x∨b=some z)∧aheadS S x z=false ∧ ∀ m,b=some m→aheadS S m z=false:=by
 cases b with
 | none=>exact ⟨x,rfl, .inl rfl,aheadS_irr S x,fun m h=>by cases h⟩
 | some y=>
   cases h:aheadS S x y with
   | true=>exact ⟨x,by unfold pickB;simp [h], .inl rfl,aheadS_irr S x,fun m hm=>by cases hm;exact ahead_asymm h⟩
   | false=>exact ⟨y,by unfold pickB;simp [h], .inr rfl,h,fun m hm=>by cases hm;exact aheadS_irr S y⟩
theorem pick_fold : ∀ (L:List Txt) (b:Option Txt),(L.foldl (pickB S) b=none→L=[]∧b=none) ∧ ∀ n,L.foldl (pickB S) b=some n→(n∈L∨b=some n)∧(∀ m∈L,aheadS S m n=false) ∧ ∀ m,b=some m→aheadS S m n=false
 | [],b=>⟨fun h=>⟨rfl,h⟩,fun n h=>⟨.inr h,fun m hm=>by simp at hm,fun m hm=>by
    have h:b=some n:=h
    rw [h] at hm;cases hm;exact aheadS_irr S n⟩⟩
 | x::L,b=>by
   obtain ⟨z,hz,h1,h2,h3⟩:=pick_some (S:=S) b x
   obtain ⟨i1,i2⟩:=pick_fold L (some z)
   refine ⟨fun h=>?_,fun n h=>?_⟩
   ·rw [List.foldl_cons,hz] at h
    exact absurd (i1 h).2 (by simp)
   ·rw [List.foldl_cons,hz] at h
    obtain ⟨j1,j2,j3⟩:=i2 n h
    have hzn:=j3 z rfl
    refine ⟨?_,fun m hm=>?_,fun m hm=>ahead_ntrans (h3 m hm) hzn⟩
    ·rcases j1 with j1 | j1
     ·exact .inl (List.mem_cons_of_mem _ j1)
     ·cases j1
      rcases h1 with h1 | h1
      ·rw [h1];exact .inl List.mem_cons_self
      ·exact .inr h1
    ·rcases List.mem_cons.1 hm with rfl | hm
     ·exact ahead_ntrans h2 hzn
     ·exact j2 m hm
/-- What is seen, and not told yet. -/
def leftW (seen out:List Txt):List Txt:=seen.filter fun x => !inL out x
def bestT (S:List StL) (seen out:List Txt):Option Txt:=(leftW seen out).foldl (pickB S) none
theorem best_none {seen out:List Txt} (h:bestT S seen out=none):leftW seen out=[]:=((pick_fold _ _).1 h).1
theorem best_some {seen out:List Txt} {n:Txt} (h:bestT S seen out=some n):n∈leftW seen out ∧ ∀ m∈leftW seen out,aheadS S m n=false:=by
 obtain ⟨h1,h2,_⟩:=(pick_fold _ _).2 n h
 exact ⟨h1.elim id fun h=>(by cases h),h2⟩
theorem best_one {seen out:List Txt} {n:Txt} (hn:n∈leftW seen out) (hm : ∀ m∈leftW seen out,aheadS S m n=false):bestT S seen out=some n:=by
 cases hb:bestT S seen out with
 | none=>rw [best_none hb] at hn;simp at hn
 | some z=>
   obtain ⟨h1,h2⟩:=best_some hb
   rw [ahead_one (hm z h1) (h2 n hn)]
theorem mem_left {seen out:List Txt} {x:Txt}:x∈leftW seen out↔x∈seen∧x ∉ out:=by
 unfold leftW
 rw [List.mem_filter]
 constructor
 ·rintro ⟨h1,h2⟩
  refine ⟨h1,fun h=>?_⟩
  rw [inL_iff.2 h] at h2
  cases h2
 ·rintro ⟨h1,h2⟩
  refine ⟨h1,?_⟩
  cases hi:inL out x with
  | false=>rfl
  | true=>exact absurd (inL_iff.1 hi) h2
/-- One more candidate, if it is a commit that was none yet. -/
def offerS (S:List StL) (seen:List Txt) (p:Txt):List Txt:=if (!inL seen p&&kindS S p==3)=true then seen++[p] else seen
def offerL (S:List StL) (seen l:List Txt):List Txt:=l.foldl (offerS S) seen
theorem offerL_more {seen l:List Txt} {k:Nat} {x:Txt} (h:l[k]?=some x):offerL S seen (l.take (k+1))=offerS S (offerL S seen (l.take k)) x:=by
 unfold offerL
 rw [List.take_add_one,h,List.foldl_append]
 rfl
/-- The ends that one goes from. -/
def offerE (S:List StL) (seen:List Txt) (x:Txt):List Txt:=match endS S (S.length+1) x with
 | some e=>offerS S seen e
 | none=>seen
def endsL (S:List StL) (l:List Txt):List Txt:=l.foldl (offerE S) []
theorem endsL_more {l:List Txt} {k:Nat} {x:Txt} (h:l[k]?=some x):endsL S (l.take (k+1))=offerE S (endsL S (l.take k)) x:=by
 unfold endsL
 rw [List.take_add_one,h,List.foldl_append]
 rfl
/-- The walk. -/
def walkW (S:List StL) (cut:List Txt):Nat→List Txt→List Txt→List Txt
 | 0,_,out=>out
 | f+1,seen,out=>match bestT S seen out with
   | none=>out
   | some n=>walkW S cut f (if inL cut n=true then seen else offerL S seen (parS S n)) (out++[n])
def walkS (S:List StL) (cut ini:List Txt):List Txt:=walkW S cut (S.length+1) (endsL S ini) []
theorem walk_stop {f:Nat} {seen out:List Txt} (h:bestT S seen out=none):walkW S cut f seen out=out:=by
 cases f with
 | zero=>rfl
 | succ f=>unfold walkW;rw [h]
theorem walkW_go {f:Nat} {seen out:List Txt} {n:Txt} (h:bestT S seen out=some n):walkW S cut (f+1) seen out=walkW S cut f (if inL cut n=true then seen else offerL S seen (parS S n)) (out++[n]):=by
 rw [walkW,h]
/-- What holds of what is seen, and told. -/
structure WalkI (S:List StL) (seen out:List Txt):Prop where
 nd:seen.Nodup
 k3 : ∀ x∈seen,kindS S x=3
 sub : ∀ x∈out,x∈seen
 ndo:out.Nodup
theorem offerS_law {seen:List Txt} (hn:seen.Nodup) (hk : ∀ x∈seen,kindS S x=3) (p:Txt):(offerS S seen p).Nodup∧(∀ x∈offerS S seen p,kindS S x=3)∧(∀ x∈seen,x∈offerS S seen p) ∧ ∀ x∈offerS S seen p,x∈seen∨x=p:=by
 unfold offerS
 split
 ·rename_i h
  rw [Bool.and_eq_true] at h
  have h1:inL seen p=false:=by simpa using h.1
  have h2:kindS S p=3:=by simpa using h.2
  refine ⟨nodup_more hn h1,fun x hx=>?_,fun x hx=>List.mem_append_left _ hx,fun x hx=>?_⟩
  ·rcases List.mem_append.1 hx with hx | hx
   ·exact hk x hx
   ·rw [List.mem_singleton.1 hx];exact h2
  ·rcases List.mem_append.1 hx with hx | hx
   ·exact .inl hx
   ·exact .inr (List.mem_singleton.1 hx)
 ·exact ⟨hn,hk,fun x hx=>hx,fun x hx => .inl hx⟩
theorem offerL_law : ∀ (l:List Txt) {seen:List Txt},seen.Nodup→(∀ x∈seen,kindS S x=3)→(offerL S seen l).Nodup∧(∀ x∈offerL S seen l,kindS S x=3)∧(∀ x∈seen,x∈offerL S seen l) ∧ ∀ x∈offerL S seen l,x∈seen∨x∈l
 | [],seen,hn,hk=>⟨hn,hk,fun x hx=>hx,fun x hx => .inl hx⟩
 | p::l,seen,hn,hk=>by
   obtain ⟨a1,a2,a3,a4⟩:=offerS_law hn hk p
   obtain ⟨b1,b2,b3,b4⟩:=offerL_law l a1 a2
   refine ⟨b1,b2,fun x hx=>b3 x (a3 x hx),fun x hx=>?_⟩
   rcases b4 x hx with h | h
   ·rcases a4 x h with h | h
    ·exact .inl h
    ·rw [h];exact .inr List.mem_cons_self
   ·exact .inr (List.mem_cons_of_mem _ h)
theorem endsL_law : ∀ (l:List Txt) {seen:List Txt},seen.Nodup→(∀ x∈seen,kindS S x=3)→(l.foldl (offerE S) seen).Nodup∧(∀ x∈l.foldl (offerE S) seen,kindS S x=3) ∧ ∀ x∈seen,x∈l.foldl (offerE S) seen
 | [],seen,hn,hk=>⟨hn,hk,fun x hx=>hx⟩
 | p::l,seen,hn,hk=>by
   have h:(offerE S seen p).Nodup∧(∀ x∈offerE S seen p,kindS S x=3) ∧ ∀ x∈seen,x∈offerE S seen p:=by
    unfold offerE
    cases endS S (S.length+1) p with
    | none=>exact ⟨hn,hk,fun x hx=>hx⟩
    | some e=>
      obtain ⟨a1,a2,a3,_⟩:=offerS_law hn hk e
      exact ⟨a1,a2,a3⟩
   obtain ⟨b1,b2,b3⟩:=endsL_law l h.1 h.2.1
   exact ⟨b1,b2,fun x hx=>b3 x (h.2.2 x hx)⟩
theorem WalkI.start (l:List Txt):WalkI S (endsL S l) []:=by
 obtain ⟨h1,h2,_⟩:=endsL_law (S:=S) l (seen:=[]) List.nodup_nil (fun x hx=>by simp at hx)
 exact ⟨h1,h2,fun x hx=>by simp at hx,List.nodup_nil⟩
theorem WalkI.step {seen out:List Txt} (h:WalkI S seen out) {n:Txt} (hn:n∈leftW seen out):WalkI S (if inL cut n=true then seen else offerL S seen (parS S n)) (out++[n]):=by
 obtain ⟨h1,h2⟩:=mem_left.1 hn
 have hnd:(out++[n]).Nodup:=nodup_more h.ndo (by
  cases hi:inL out n with
  | false=>rfl
  | true=>exact absurd (inL_iff.1 hi) h2)
 have hsub : ∀ x∈out++[n],x∈seen:=fun x hx=>by
  rcases List.mem_append.1 hx with hx | hx
  ·exact h.sub x hx
  ·rw [List.mem_singleton.1 hx];exact h1
 split
 ·exact ⟨h.nd,h.k3,hsub,hnd⟩
 ·obtain ⟨a1,a2,a3,_⟩:=offerL_law (S:=S) (parS S n) h.nd h.k3
  exact ⟨a1,a2,fun x hx=>a3 x (hsub x hx),hnd⟩
theorem kind3_mem {x:Txt} (h:kindS S x=3):x∈S.map StL.id:=by
 refine isS_mem ?_
 unfold kindS at h
 unfold isS objS
 cases hg:getS S x with
 | none=>rw [hg] at h;simp at h
 | some s=>
   rw [hg] at h
   simp only at h ⊢
   cases hd:decO s.text with
   | none=>rw [hd] at h;simp at h
   | some o=>rfl
theorem WalkI.len {seen out:List Txt} (h:WalkI S seen out):seen.length≤S.length∧out.length≤S.length:=by
 have h1:=nodup_len h.nd (m:=S.map StL.id) fun x hx=>kind3_mem (h.k3 x hx)
 have h2:=nodup_len h.ndo (m:=S.map StL.id) fun x hx=>kind3_mem (h.k3 x (h.sub x hx))
 rw [List.length_map] at h1 h2
 exact ⟨h1,h2⟩
end
end Go.Proofs.YtlojebhcemfodaaGreatDoor
namespace Go.Proofs.YtlojebhcemfodaaGreatDoor
open Go.ChangeShapes Go.WideShapes Go.ChangeAt Go.RowKit
section
variable {H:Type} {enc:TypeId×Value→H} {P:Program} {w:World} {base:Nat} {sp:Nat→Bool} {held:Bool}
open Go.Deep in
theorem open_elems {α:Type} (en:α→List Value) (k:Nat) (hk0:0<k) (Ok:α→Prop) {t e:TypeId} {fuel:Nat} {v:Value} {x:DataW H×List MemPlace} (ht:P.underlying t=some (.slice e)) (hk:P.cellsOf e=k)
 (hen : ∀ y,Ok y→(en y).length=k) (key : ∀ fuel cs x,DataW.trod enc P w base sp held fuel e cs=some x→cs.length=k → ∃ y:α,cs=en y∧Ok y) (h:DataW.trod enc P w base sp held fuel t [v]=some x) :
 ∃ l:List α,SliceAt w k en v l ∧ ∀ y∈l,Ok y:=by
 rcases open_slice ht h with ⟨h0,_⟩ | ⟨a,len,cap,m,n,D,Pl,hcs,hb,hl,hm,hmm,hx,hi⟩
 ·injection h0 with h0
  subst h0
  exact ⟨[],SliceAt.nil,fun y hy=>by simp at hy⟩
 ·injection hcs with hcs
  subst hcs
  have hlm:len≤m:=by rw [hmm];split<;>omega
  have per : ∀ i,i<len → ∃ y:α,(∀ j u,(en y)[j]?=some u→w.cell? ((a.add (i*k)).add j)=some u)∧Ok y:=by
   intro i hil
   obtain ⟨cs',hc,ht'⟩:=hi i (by omega)
   rw [hk] at hc
   obtain ⟨_,hcl,hat⟩:=World.cells?_some hc
   obtain ⟨y,rfl,hok⟩:=key _ _ _ ht' hcl
   refine ⟨y,fun j u hu=>?_,hok⟩
   have hj:=(List.getElem?_eq_some_iff.1 hu).1
   rw [hat j (by omega)]
   exact hu
  obtain ⟨l,hll,hp⟩:=list_of len _ per
  subst hll
  have hcm:cap≤9223372036854775807:=by unfold maxLen at hm;omega
  refine ⟨l,⟨some a,cap,rfl,hl,hcm,fun h0=>?_⟩,fun y hy=>?_⟩
  ·have hy0:=(hp 0 h0).1
   have hlen0:=hen _ (hp 0 h0).2
   have hc0:=hy0 0 _ (List.getElem?_eq_getElem (by omega))
   simp only [Nat.zero_mul] at hc0
   have e00:(a.add 0).add 0=a:=by simp [Addr.add]
   rw [e00] at hc0
   obtain ⟨ha,hlt⟩:=addr_form hc0
   refine ⟨a.block,a.off,by rw [←ha],hlt,fun i y hy j u hu=>?_⟩
   obtain ⟨hi',he⟩:=List.getElem?_eq_some_iff.1 hy
   have hc:=(hp i hi').1 j u (by rw [he];exact hu)
   rw [ha] at hc
   simp only [addr_add] at hc
   exact hc
  ·obtain ⟨i,hi',rfl⟩:=List.getElem_of_mem hy
   exact (hp i hi').2
end
end Go.Proofs.YtlojebhcemfodaaGreatDoor
namespace Go.Proofs.YtlojebhcemfodaaGreatDoor
open Go.ChangeShapes Go.WideShapes Go.ChangeAt Go.RowKit
section
variable {H:Type} {enc:TypeId×Value→H} {w:World} {base:Nat} {sp:Nat→Bool} {held:Bool}
theorem chain {cs a:List Value} {n k m:Nat} (h:(cs.drop n).take k=a) (hm:n+k=m):cs.drop n=a++cs.drop m:=by
 rw [←h,←hm,←List.drop_drop]
 exact (List.take_append_drop k _).symm
theorem trod_slice_one {fuel:Nat} {t:TypeId} {cs:List Value} {x:DataW H×List MemPlace} (hc:cs.length=1) (h:DataW.trod enc Tryz.prog w base sp held fuel t cs=some x) : ∃ v,cs=[v]∧DataW.trod enc Tryz.prog w base sp held fuel t [v]=some x:=by
 match cs,hc with
 | [v],_=>exact ⟨v,rfl,h⟩
end
end Go.Proofs.YtlojebhcemfodaaGreatDoor
namespace Go.Proofs.YtlojebhcemfodaaGreatDoor
open Go.ChangeShapes Go.WideShapes Go.ChangeAt Go.RowKit
structure SdL where
 kind:UInt8
 refs:Txt
 time:Nat
 text:Txt
 vr:Value
def sdC (e:SdL):List Value:=[u8v e.kind,e.vr, .int .u16 e.time, .string (B e.text)]
def byC (c:UInt8):List Value:=[u8v c]
structure SdOk (w:World) (e:SdL):Prop where
 refs:SliceAt w 1 byC e.vr e.refs
 time:e.time<65536
 text:e.text.length≤9223372036854775807
theorem SdOk.below {w w':World} {e:SdL} (h:SdOk w e) (hb:Below w.heap.size w w'):SdOk w' e:=⟨h.refs.below hb,h.time,h.text⟩
structure Seeds (w:World) (v:Value) (l:List SdL):Prop where
 at_:SliceAt w 4 sdC v l
 each : ∀ e∈l,SdOk w e
theorem Seeds.below {w w':World} {v:Value} {l:List SdL} (h:Seeds w v l) (hb:Below w.heap.size w w'):Seeds w' v l:=⟨h.at_.below hb,fun e he=>(h.each e he).below hb⟩
section
variable {H:Type} {enc:TypeId×Value→H} {w:World} {base:Nat} {sp:Nat→Bool} {held:Bool}
theorem elem_byte (fuel:Nat) (cs:List Value) (x:DataW H×List MemPlace) (h:DataW.trod enc Tryz.prog w base sp held fuel 5 cs=some x) (hl:cs.length=1) : ∃ c:UInt8,cs=byC c∧True:=by
 obtain ⟨n,e,_,w0⟩:=DataW.trod_int Tryz.underlying5 h
 have hb:=bounds_u8 w0
 obtain ⟨k,rfl⟩:=Int.eq_ofNat_of_zero_le hb.1
 refine ⟨UInt8.ofNat k,?_,trivial⟩
 rw [e]
 unfold byC
 rw [u8v_ofNat k (by omega)]
set_option maxRecDepth 200000 in
theorem elem_seed (fuel:Nat) (cs:List Value) (x:DataW H×List MemPlace) (h:DataW.trod enc Tryz.prog w base sp held fuel 98 cs=some x) (hl:cs.length=4) : ∃ r:SdL,cs=sdC r∧SdOk w r:=by
 obtain ⟨ys,n',hn',hy,hlen,hyl,hf⟩:=DataW.trod_struct Tryz.underlying98 h
 have hyl:ys.length=4:=hyl
 have h0:=hf 0 _ rfl
 have h1:=hf 1 _ rfl
 have h2:=hf 2 _ rfl
 have h3:=hf 3 _ rfl
 rw [List.getElem?_eq_getElem (show 0<ys.length by omega)] at h0
 rw [List.getElem?_eq_getElem (show 1<ys.length by omega)] at h1
 rw [List.getElem?_eq_getElem (show 2<ys.length by omega)] at h2
 rw [List.getElem?_eq_getElem (show 3<ys.length by omega)] at h3
 have cU:Tryz.prog.cellsOf 5=1:=by kernel_rfl
 have cB:Tryz.prog.cellsOf 23=1:=by kernel_rfl
 have cT:Tryz.prog.cellsOf 96=1:=by kernel_rfl
 have cS:Tryz.prog.cellsOf 9=1:=by kernel_rfl
 obtain ⟨n0,e0,_,w0⟩:=DataW.trod_int Tryz.underlying5 h0
 obtain ⟨n2,e2,_,w2⟩:=DataW.trod_int Tryz.underlying96 h2
 obtain ⟨s3,e3,_,w3⟩:=DataW.trod_string Tryz.underlying9 h3
 obtain ⟨v1,e1,t1⟩:=trod_slice_one (by
  show ((cs.drop 1).take (Tryz.prog.cellsOf 23)).length=1
  rw [cB,List.length_take,List.length_drop];omega) h1
 obtain ⟨lr,hlr,_⟩:=open_elems byC 1 (by omega) (fun _=>True) Tryz.underlying23 cU (fun y _=>rfl) elem_byte t1
 obtain ⟨a3,rfl⟩:=B_mk s3
 have b0:=bounds_u8 w0
 have b2:=bounds_u16 w2
 obtain ⟨k0,rfl⟩:=Int.eq_ofNat_of_zero_le b0.1
 obtain ⟨k2,rfl⟩:=Int.eq_ofNat_of_zero_le b2.1
 have e0':(cs.drop 0).take 1=[u8v (UInt8.ofNat k0)]:=by rw [u8v_ofNat k0 (by omega),←cU];exact e0
 have e1':(cs.drop 1).take 1=[v1]:=by rw [←cB];exact e1
 have e2':(cs.drop 2).take 1=[.int .u16 k2]:=by rw [←cT];exact e2
 have e3':(cs.drop 3).take 1=[.string (B a3)]:=by rw [←cS];exact e3
 refine ⟨⟨UInt8.ofNat k0,lr,k2,a3,v1⟩,?_,⟨hlr,by show k2<_;omega,by unfold maxLen at w3;rw [size_B] at w3;exact w3⟩⟩
 have:=chain e0' (m:=1) rfl
 rw [List.drop_zero,chain e1' (m:=2) rfl,chain e2' (m:=3) rfl,chain e3' (m:=4) rfl,List.drop_of_length_le (by omega)] at this
 rw [this]
 rfl
end
section
variable {w:World} {g o:Nat} {e:SdL}
theorem sd_refs (h:w.rangeAt g o (sdC e)):w.cell? ⟨g,o+1,none⟩=some e.vr:=h 1 _ rfl
theorem sd_text (h:w.rangeAt g o (sdC e)):w.cell? ⟨g,o+3,none⟩=some (.string (B e.text)):=h 3 _ rfl
end
theorem szSeed : (Tryz.prog.info? 98).map (·.size)=some 4:=by kernel_rfl
/-- What Few tells. -/
def FewB (l:List SdL) (most:Nat) (e:Ending):Prop := ∃ b,e = .returned (.bool b)∧(b=true→l.length≤most ∧ ∀ x∈l,x.refs.length≤10∧x.text.length≤300)
set_option maxRecDepth 100000 in
set_option maxHeartbeats 4000000 in
theorem few_calls11 (l:List SdL) (most:Nat) (hm:most≤1000) (va:Value) (w:World) (h:Seeds w va l):Calls Tryz.prog 23 #[va, .int .i64 most] w fun e w'=>FewB l most e∧Below w.heap.size w w':=by
 have hla:=h.at_.len
 have heach:=h.each
 obtain ⟨A,capa,rfl,ha1,ha2,hata⟩:=h.at_
 clear h
 go_enter Tryz.func23,Tryz.ntmps23
 go_wp2
 go_loopw [5] (fun i wr => ∃ k:Nat,i = .int .i64 k∧k≤l.length∧k≤most∧(∀ j x,j<k→l[j]?=some x→x.refs.length≤10∧x.text.length≤300)∧Below w.heap.size w wr) (fun i _=>l.length-(intOf i).toNat)
 case atStart=>exact ⟨0,rfl,by omega,by omega,fun j x hj=>by omega,Below.refl _ _⟩
 case round=>
  obtain ⟨k,rfl,hk,hkm,hall,hbel⟩:=hrel
  by_cases hlt:k<l.length
  ·have hki:(k:Int)<(l.length:Int):=by omega
   by_cases h20:k<most
   ·have hk2:(k:Int)<(most:Int):=by omega
    obtain ⟨ga,oa,rfl,hga,hca⟩:=hata (by omega)
    obtain ⟨x,hx⟩ : ∃ x,l[k]?=some x:=⟨_,List.getElem?_eq_getElem hlt⟩
    obtain ⟨A2,cap2,hvr,_⟩:=(heach x (List.mem_of_getElem? hx)).refs
    have q1:=sd_refs (rangeAt_below (hca k x hx) hga hbel)
    rw [hvr] at q1
    have q3:=sd_text (rangeAt_below (hca k x hx) hga hbel)
    by_cases hd:x.refs.length≤10
    ·have d1 : ¬ (10:Int)<(x.refs.length:Int):=by omega
     by_cases hd2:x.text.length≤300
     ·have d2 : ¬ (300:Int)<(x.text.length:Int):=by omega
      have hall2 : ∀ j y,j<k+1→l[j]?=some y→y.refs.length≤10∧y.text.length≤300:=fun j y hj hy=>by
       by_cases e:j=k
       ·rw [e,hx] at hy
        injection hy with hy
        rw [←hy];exact ⟨hd,hd2⟩
       ·exact hall j y (by omega) hy
      clear hx hata hca hd hd2 hall heach hvr
      go_wp2
      all_goals try (exfalso;omega)
      go_roundw
      case rel=>exact ⟨k+1,by go_num,by omega,by omega,hall2,hbel⟩
      case measure=>simp [intOf];omega
     ·have d2:(300:Int)<(x.text.length:Int):=by omega
      clear hx hata hca hd hd2 hall heach hvr
      go_wp2
      all_goals try (exfalso;omega)
      go_ret
      exact ⟨⟨false,rfl,fun h=>by cases h⟩,hbel⟩
    ·have d1:(10:Int)<(x.refs.length:Int):=by omega
     clear hx hata hca hd hall heach hvr
     go_wp2
     all_goals try (exfalso;omega)
     go_ret
     exact ⟨⟨false,rfl,fun h=>by cases h⟩,hbel⟩
   ·have hk2 : ¬ (k:Int)<(most:Int):=by omega
    have hno : ¬ (l.length:Int)≤(most:Int):=by omega
    clear hata hall heach
    go_wp2
    all_goals try (exfalso;omega)
    go_ret
    exact ⟨⟨_,rfl,fun h=>by simp at h⟩,hbel⟩
  ·have hki : ¬ (k:Int)<(l.length:Int):=by omega
   have h20:(l.length:Int)≤(most:Int):=by omega
   have hall2:=Lib.hid hall
   clear hata hall heach
   go_wp2
   all_goals try (exfalso;omega)
   go_ret
   refine ⟨⟨_,rfl,fun _=>⟨by omega,fun x hx=>?_⟩⟩,hbel⟩
   obtain ⟨j,hj,rfl⟩:=List.getElem_of_mem hx
   exact hall2.out j _ (by omega) (List.getElem?_eq_getElem hj)
set_option maxRecDepth 100000 in
theorem name_calls11 (k:Nat) (hk:k≤1000) (w:World):Calls Tryz.prog 68 #[.int .i64 k] w fun e w'=>(∃ c:UInt8,e = .returned (.string (B [c])))∧Below w.heap.size w w':=by
 have h1:IntKind.i64.wrap ((97:Int)+(k:Int)%20)=97+(k:Int)%20:=IntWalk.i64_in _ (by omega)
 have hs:=Tryz.str_of_one w ((97:Int)+(k:Int)%20)
 go_enter Tryz.func68,Tryz.ntmps68
 go_wp2
 go_ret
 exact ⟨⟨_,rfl⟩,(Below.refl _ _).alloc (Nat.le_refl _) _⟩
end Go.Proofs.YtlojebhcemfodaaGreatDoor
namespace Go.Proofs.YtlojebhcemfodaaGreatDoor
open Go.RowKit
attribute [local go_sem ↓] ldvI_eq ldvS_eq stvI_eq
/-- What pick tells: some id. -/
def PickR (e:Ending):Prop := ∃ x b,e = .returned (.tuple #[.agg (u8s x), .bool b])∧x.length=32
set_option maxRecDepth 100000 in
set_option maxHeartbeats 8000000 in
theorem pick_calls {w:World} {vm:Value} {es:List DiL} (h:DocSt w vm es) (ids:List Txt) (hok : ∀ x∈ids,x.length=32) (hil:ids.length≤1000) (vi:Value) (hi:Ids w vi ids) (n:Nat) (hn:n≤100000) (kind:Int) :
 Calls Tryz.prog 67 #[.agg #[vm],vi, .int .i64 n, .int .i64 kind] w fun e w'=>PickR e∧Below w.heap.size w w':=by
 have hzI:=zeroIdV
 have hrb:=fun W=>run_build (P:=Tryz.prog) W _ _ _ built_zId
 have hZ32:(u8s noId).size=32:=by rw [u8s_size,noId_len]
 have hZone:=u8s_one noId
 obtain ⟨W1,hW1⟩ : ∃ W1,w.alloc (.cells #[vm] 28)=W1:=⟨_,rfl⟩
 have s1:Blk W1 w.heap.size 28 #[vm]:=by rw [←hW1];exact Blk.new _ _ _
 have b1:Below w.heap.size w W1:=by rw [←hW1];exact (Below.refl _ _).alloc (Nat.le_refl _) _
 obtain ⟨W2,hW2⟩ : ∃ W2,W1.alloc (.cells (u8s noId) 42)=W2:=⟨_,rfl⟩
 have z2:Blk W2 W1.heap.size 42 (u8s noId):=by rw [←hW2];exact Blk.new _ _ _
 have bb2:Below W1.heap.size W1 W2:=by rw [←hW2];exact (Below.refl _ _).alloc (Nat.le_refl _) _
 have s2:=s1.below bb2 s1.lt
 have b2:=bthen b1 b1.size bb2
 have hsz:(Tryz.prog.info? 42).map (·.size)=some (u8s noId).size:=by rw [hZ32];exact sz32
 have hle:=b1.size
 have hle2:=b2.size
 have hkc:=fun (x:Txt) (hx:x.length=32) W (hW:Below W2.heap.size W2 W)=>docKind_calls (h.below (bthen b2 b2.size hW)) x hx
 have l2:=fun W (hW:Below W2.heap.size W2 W)=>run_ldvS (s2.below hW s2.lt)
 obtain ⟨A,cap,rfl,hcap1,hcap2,hat⟩:=hi
 clear h
 obtain ⟨Z,hZ⟩ : ∃ Z,u8s noId=Z:=⟨_,rfl⟩
 rw [hZ] at z2 hW2 hsz hZ32 hZone hrb hzI
 have hZ:=Lib.hid hZ
 go_enter Tryz.func67,Tryz.ntmps67
 go_wp2
 go_loopw [10,11] (fun vo vi wr => ∃ (k:Nat) (acc:List Txt),vi = .int .i64 k∧k≤ids.length∧acc.length≤k∧Hid (∀ x∈acc,x.length=32)∧OwnIds wr W2.heap.size vo acc∧Below W2.heap.size W2 wr) (fun _ vi _=>ids.length-(intOf vi).toNat)
 case atStart=>exact ⟨0,[],rfl,by omega,by simp,Lib.hid (fun x hx=>by simp at hx),World.ownsRow_nil _ _ _ _,Below.refl _ _⟩
 case round=>
  obtain ⟨k,acc,rfl,hk,hal,hall,hown,hbel⟩:=hrel
  by_cases hlt:k<ids.length
  ·have hki:(k:Int)<(ids.length:Int):=by omega
   obtain ⟨ga,oa,rfl,hga,hca⟩:=hat (by omega)
   obtain ⟨x,hx⟩ : ∃ x,ids[k]?=some x:=⟨_,List.getElem?_eq_getElem hlt⟩
   have hxi:=hok x (List.mem_of_getElem? hx)
   have hlx : ∀ W,Below W2.heap.size W2 W→(ldvI ⟨ga,oa+k*32,none⟩).run Tryz.prog W = .ok (.agg (u8s x)) W:=fun W hW=>by
    have hr:=rangeAt_below (hca k x hx) hga (bthen b2 b2.size hW)
    exact run_ldvI_at (show World.rangeAt W ga (oa+k*32) (u8s x).toList from hr) hxi
   have hkx:=hkc x hxi
   obtain ⟨K,hK⟩ : ∃ K,kindS (es.map (·.st)) x=K:=⟨_,rfl⟩
   simp only [hK] at hkx
   have hkl:acc.length+1≤9223372036854775807:=by omega
   have hm2:(acc.length+1)*32≤140737488355328:=by omega
   have hid32:(idC x).toArray.size=32:=by rw [List.size_toArray,idC_len hxi]
   have hidl:(idC x).toArray.size=1*32:=hid32
   have hid1 : ∀ u∈(idC x).toArray.toList,u.oneCell'=true:=by rw [List.toList_toArray];exact idC_one x
   have hXC:(idC x).toArray=u8s x:=by simp [idC]
   rw [hXC] at hid32 hidl hid1
   have hall2:Hid (∀ y∈acc++[x],y.length=32):=Lib.hid fun y hy=>by
    rcases List.mem_append.1 hy with hy | hy
    ·exact hall.out y hy
    ·rw [List.mem_singleton.1 hy];exact hxi
   have hXC:=Lib.hid hXC
   have hrow:Hid (rowsOf idC (acc++[x])=rowsOf idC acc++(u8s x).toList):=Lib.hid (by rw [rowsOf_append,rowsOf_one];rfl)
   generalize u8s x=XC at *
   clear hx hca hat hok hK hkc
   go_wp2
   refine wp_region_go0 7 (by kernel_rfl) (by kernel_rfl) (by kernel_rfl) (by kernel_rfl) ?_
   simp only [exSp]
   iterate 7 apply Exists.intro
   repeat
    first
     | ((with_reducible apply lx0_ex)
        ·(go_simp;done)
        apply Exists.intro
        apply And.intro
        ·apply Eq.refl
        apply And.intro
        ·intro W hW hD
         have hW2:=hbel.trans (hW.mono hbel.size)
         have q0:=l2 W hW2
         have q1:=hlx W hW2
         have q2:=hkx W hW2
         go_simp
         first
          | rfl
          | (with_reducible exact q2)
        simp only [Act.put,List.setIfInBounds_toArray,List.set_cons_zero,List.set_cons_succ])
     | ((with_reducible apply lx0_pass)
        ·(first | rfl | (go_simp;done))
        ·apply Eq.refl
        simp only [Act.put,List.setIfInBounds_toArray,List.set_cons_zero,List.set_cons_succ])
   refine lx0_nil ?_ fun w5 hW5 hD5=>?_
   ·exact List.nodup_nil
   have b5:=hbel.trans (hW5.mono hbel.size)
   have own5:=own_below hown hW5
   have sz5:=b5.size
   have lx5:=hlx _ b5
   clear hD5 hkx hlx l2
   have kk:=Lib.hid hki
   cases e1:(K==kind)<;>cases e2:(kind==(0:Int))<;>cases e3:(kind==(9:Int))<;>cases e4:decide (K<3)
   all_goals
    go_wp2_with (first
     | ((with_reducible refine lit_slice1 (.tmp 44) Tryz.idsTy XC hid32 (by omega) ?_ ?_);rfl)
     | (at_builtin
        (with_reducible refine lit_append_new (.tmp 40) (.tmp 45) 1 _ Tryz.idsTy own5 XC hidl hid1 hkl hm2 sz5 ?_ ?_ ?_);rfl;rfl
        intro v6 w6 hv6 hb6 hg6 hn6
        have b6:=b5.trans hb6
        clear hg6 hn6))
    go_roundw
    case rel=>first
     | exact ⟨k+1,acc,by go_num,by omega,by omega,hall,own5,b5⟩
     | exact ⟨k+1,acc++[x],by go_num,by omega,by simp;omega,hall2,by unfold OwnIds;rw [List.length_append,hrow.out];exact hv6,b6⟩
    case measure=>simp [intOf];omega
  ·have hki : ¬ (k:Int)<(ids.length:Int):=by omega
   have hz3:=z2.below hbel z2.lt
   have b3:=bthen b2 b2.size hbel
   clear hat hok hkc l2
   cases acc with
   | nil=>
     obtain ⟨A3,c3,rfl⟩:=own_form' hown
     have hl0:(([]:List Txt).length:Int)=0:=rfl
     go_wp2_with (first
      | (refine wpList_store_row rfl 42 (.tmp 8) (.tmp 50) rfl W1.heap.size Z rfl rfl _ _ hz3 hsz rfl hZone ?_))
     refine bodyPost_ret (results_row_tmp rfl _ _ W1.heap.size _ _ _ _ rfl (setRow_heap _ _ _ _ _ _ hz3) Tryz.underlying42 rfl hsz) rfl ⟨⟨noId,_,by rw [hZ.out];rfl,noId_len⟩,below_setRow b3 hle _⟩
   | cons y ys=>
     obtain ⟨m,hm⟩ : ∃ m:Nat,((y::ys).length:Int)-1-(n:Int)%((y::ys).length:Int)=(m:Int):=by
      refine Int.eq_ofNat_of_zero_le ?_
      have:=Int.emod_lt_of_pos (n:Int) (show (0:Int)<((y::ys).length:Int) by simp only [List.length_cons];omega)
      omega
     have hmn:=Int.emod_nonneg (n:Int) (show ((y::ys).length:Int)≠0 by simp only [List.length_cons];omega)
     have hml:m<(y::ys).length:=by omega
     have hL0:0<(y::ys).length:=by simp
     have hLi:(0:Int)<((y::ys).length:Int):=by omega
     have hLn : ¬ ((y::ys).length:Int)=0:=by omega
     have hLb:(((y::ys).length:Int)==0)=false:=by simpa using hLn
     obtain ⟨x,hx⟩ : ∃ x,(y::ys)[m]?=some x:=⟨_,List.getElem?_eq_getElem hml⟩
     have hxi:=hall.out x (List.mem_of_getElem? hx)
     have hsl:=SliceAt.of_own (fun e h=>idC_len (hall.out e h)) hown
     obtain ⟨A3,c3,rfl,hc31,hc32,hat3⟩:=hsl
     obtain ⟨g3,o3,rfl,hg3,hc3⟩:=hat3 hL0
     have hlx:(ldvI ⟨g3,o3+m*32,none⟩).run Tryz.prog wr = .ok (.agg (u8s x)) wr:=run_ldvI_at (show World.rangeAt wr g3 (o3+m*32) (u8s x).toList from hc3 m x hx) hxi
     have hx32:(u8s x).size=32:=by rw [u8s_size,hxi]
     have hxs:(Tryz.prog.info? 42).map (·.size)=some (u8s x).size:=by rw [hx32];exact sz32
     have hxo:=u8s_one x
     have hzx:Z.size=(u8s x).size:=by rw [hZ32,hx32]
     have hmi:(m:Int)<((y::ys).length:Int):=by omega
     have hLm:((y::ys).length:Int)≤1000:=by omega
     generalize (y::ys).length=LN at *
     have hw1:IntKind.i64.wrap ((LN:Int)-1)=(LN:Int)-1:=IntWalk.i64_in _ (by omega)
     have hw2:IntKind.i64.wrap ((n:Int)%(LN:Int))=(n:Int)%(LN:Int):=IntWalk.i64_in _ (by have:=Int.emod_lt_of_pos (n:Int) hLi;omega)
     have hw3:IntKind.i64.wrap ((m:Int))=(m:Int):=IntWalk.i64_in _ (by omega)
     clear hx hc3 hat3 hown hall hal
     go_wp2_with (first
      | (refine wpList_store_row rfl 42 (.tmp 8) (.tmp 61) rfl W1.heap.size (u8s x) rfl rfl _ _ hz3 hxs hzx hxo ?_))
     refine bodyPost_ret (results_row_tmp rfl _ _ W1.heap.size _ _ _ _ rfl (setRow_heap _ _ _ _ _ _ hz3) Tryz.underlying42 rfl hxs) rfl ⟨⟨x,_,rfl,hxi⟩,below_setRow b3 hle _⟩
end Go.Proofs.YtlojebhcemfodaaGreatDoor
namespace Go.Proofs.YtlojebhcemfodaaGreatDoor
open Go.RowKit
theorem len32 {x:List UInt8} (h:x.length=32) : ∃ f:Fin 32→UInt8,x=List.ofFn f:=
 ⟨fun i=>x[i.1]'(by omega),by
  apply List.ext_getElem
  ·rw [List.length_ofFn,h]
  ·intro i h1 h2
   rw [List.getElem_ofFn]⟩
set_option maxRecDepth 100000 in
theorem built_commit (x:Txt) (hx:x.length=32) (n:Nat) (t:Txt):Tryz.prog.built 54 [(0, .int .i64 3),(3, .agg (u8s x)),(5, .int .u32 n),(6, .string (B t))]=some (objC ⟨3,[],[],x,[],n,t,noId,0,[]⟩ (.slice none 0 0) (.slice none 0 0)).toArray:=by
 obtain ⟨f,rfl⟩:=len32 hx
 kernel_rfl
set_option maxRecDepth 100000 in
theorem built_tag (x:Txt) (hx:x.length=32) (k:Int) (t:Txt):Tryz.prog.built 54 [(0, .int .i64 4),(7, .agg (u8s x)),(8, .int .i64 k),(9, .string (B t))]=some (objC ⟨4,[],[],noId,[],0,[],x,k,t⟩ (.slice none 0 0) (.slice none 0 0)).toArray:=by
 obtain ⟨f,rfl⟩:=len32 hx
 kernel_rfl
theorem built_blob (t:Txt):Tryz.prog.built 54 [(0, .int .i64 1),(1, .string (B t))]=some (objC ⟨1,t,[],noId,[],0,[],noId,0,[]⟩ (.slice none 0 0) (.slice none 0 0)).toArray:=by kernel_rfl
end Go.Proofs.YtlojebhcemfodaaGreatDoor
namespace Go.Proofs.YtlojebhcemfodaaGreatDoor
open Go.RowKit
attribute [local go_sem ↓] ldvI_eq ldvS_eq stvI_eq ldvO_eq
/-- What make1 tells: some object; its slices are new. -/
def MkR (w:World) (e:Ending) (w':World):Prop := ∃ o A1 A2 k1 k2,e = .returned (.agg (objC o (.slice A1 o.ents.length k1) (.slice A2 o.pars.length k2)).toArray)∧Small o∧ObjOk o∧OwnEnts w' w.heap.size (.slice A1 o.ents.length k1) o.ents∧OwnIds w' w.heap.size (.slice A2 o.pars.length k2) o.pars
theorem MkR.bare {w w':World} (o:ObjL) (he:o.ents=[]) (hp:o.pars=[]) (hs:Small o) (ho:ObjOk o):MkR w (.returned (.agg (objC o (.slice none 0 0) (.slice none 0 0)).toArray)) w':=by
 refine ⟨o,none,none,0,0,?_,hs,ho,?_,?_⟩
 ·rw [he,hp];rfl
 ·rw [he];exact World.ownsRow_nil _ _ _ _
 ·rw [hp];exact World.ownsRow_nil _ _ _ _
def PickV (v:Value):Prop := ∃ x b,v = .tuple #[.agg (u8s x), .bool b]∧x.length=32
theorem kindS_bounds {s:List StL} (n:Txt):0≤kindS s n∧kindS s n≤255:=by
 unfold kindS
 split
 ·split
  ·rename_i o ho
   obtain ⟨c,q,_,hk⟩:=dec_kind ho
   have:=c.toNat_lt
   omega
  ·omega
 ·omega
theorem zeroO_small : Small zeroO:=⟨by decide,by simp [zeroO],by decide,by decide,by decide,by decide⟩
theorem zeroO_ok : ObjOk zeroO:=⟨noId_len,noId_len,by simp [zeroO],by simp [zeroO],by decide,by decide,by decide,by decide,by decide,by decide,by decide,by decide⟩
set_option maxRecDepth 100000 in
set_option maxHeartbeats 8000000 in
theorem make_blob {w:World} {vm:Value} {es:List DiL} (h:DocSt w vm es) (ids:List Txt) (hok : ∀ x∈ids,x.length=32) (hil:ids.length≤1000) (vi:Value) (hi:Ids w vi ids) (x:SdL) (hx:SdOk w x) (hr:x.refs.length≤10) (ht:x.text.length≤300) (hk:(x.kind.toNat:Int)%4=0) :
 Calls Tryz.prog 47 #[.agg #[vm],vi, .agg (sdC x).toArray] w fun e w'=>MkR w e w'∧Below w.heap.size w w':=by
 have hzo:=zeroObj
 have hz72:=zObj_size
 have hzone:zObj.all (·.oneCell')=true:=objC_all zeroO none none 0 0 0 0
 have hsz : ∀ cs:Array Value,cs.size=72→(Tryz.prog.info? 54).map (·.size)=some cs.size:=fun cs h=>by rw [h];exact szObj
 obtain ⟨W1,hW1⟩ : ∃ W1,w.alloc (.cells #[vm] 28)=W1:=⟨_,rfl⟩
 have s1:Blk W1 w.heap.size 28 #[vm]:=by rw [←hW1];exact Blk.new _ _ _
 have b1:Below w.heap.size w W1:=by rw [←hW1];exact (Below.refl _ _).alloc (Nat.le_refl _) _
 obtain ⟨W2,hW2⟩ : ∃ W2,W1.alloc (.cells (sdC x).toArray 98)=W2:=⟨_,rfl⟩
 have d2:Blk W2 W1.heap.size 98 (sdC x).toArray:=by rw [←hW2];exact Blk.new _ _ _
 have bb2:Below W1.heap.size W1 W2:=by rw [←hW2];exact (Below.refl _ _).alloc (Nat.le_refl _) _
 obtain ⟨W3,hW3⟩ : ∃ W3,W2.alloc (.cells zObj 54)=W3:=⟨_,rfl⟩
 have z3:Blk W3 W2.heap.size 54 zObj:=by rw [←hW3];exact Blk.new _ _ _
 have bb3:Below W2.heap.size W2 W3:=by rw [←hW3];exact (Below.refl _ _).alloc (Nat.le_refl _) _
 have b2:=bthen b1 b1.size bb2
 have b3:=bthen b2 b2.size bb3
 have s3:=(s1.below bb2 s1.lt).below bb3 (s1.below bb2 s1.lt).lt
 have d3:=d2.below bb3 d2.lt
 have hle2:w.heap.size≤W2.heap.size:=b2.size
 have hlt0:=s1.lt
 have hlt1:=d2.lt
 have hlt2:=z3.lt
 have fL:=fun W (hW:Below W3.heap.size W3 W)=>run_ldvS (s3.below hW s3.lt)
 have fK : ∀ W,Below W3.heap.size W3 W→W.cell? ⟨W1.heap.size,0,none⟩=some (.int .u8 x.kind.toNat):=fun W hW=>(d3.below hW d3.lt).cell 0
 have fR : ∀ W,Below W3.heap.size W3 W→W.cell? ⟨W1.heap.size,1,none⟩=some x.vr:=fun W hW=>(d3.below hW d3.lt).cell 1
 have fT : ∀ W,Below W3.heap.size W3 W→W.cell? ⟨W1.heap.size,2,none⟩=some (.int .u16 x.time):=fun W hW=>(d3.below hW d3.lt).cell 2
 have fX : ∀ W,Below W3.heap.size W3 W→W.cell? ⟨W1.heap.size,3,none⟩=some (.string (B x.text)):=fun W hW=>(d3.below hW d3.lt).cell 3
 have k3:=fK W3 (Below.refl _ _)
 have hkb:(x.kind.toNat:Int)<256:=by have:=x.kind.toNat_lt;omega
 have hbd:=built_blob x.text
 have hcs:(objC ⟨1,x.text,[],noId,[],0,[],noId,0,[]⟩ (.slice none 0 0) (.slice none 0 0)).toArray.size=72:=by rw [List.size_toArray];exact objC_len ⟨noId_len,noId_len,by simp,by simp,hx.text,by simp,by simp,by simp,by simp,by simp,by simp,by simp⟩ _ _
 have hc1:=objC_all ⟨1,x.text,[],noId,[],0,[],noId,0,[]⟩ none none 0 0 0 0
 have x3:=fX W3 (Below.refl _ _)
 have hfin : ∀ w',MkR w (.returned (.agg (objC ⟨1,x.text,[],noId,[],0,[],noId,0,[]⟩ (.slice none 0 0) (.slice none 0 0)).toArray)) w':=fun w'=>MkR.bare _ rfl rfl ⟨by simp,by simp,by simp,by show x.text.length≤_;omega,by simp,by simp⟩ ⟨noId_len,noId_len,by simp,by simp,hx.text,by simp,by simp,by simp,by simp,by simp,by simp,by simp⟩
 clear h hi hx fL fK fR fT fX hok
 generalize (objC ⟨1,x.text,[],noId,[],0,[],noId,0,[]⟩ (.slice none 0 0) (.slice none 0 0)).toArray=OC at *
 generalize (sdC x).toArray=SC at *
 generalize zObj=ZO at *
 go_enter Tryz.func47,Tryz.ntmps47
 go_wp2_with (first
  | ((with_reducible refine lit_build2 hbd ?_ ?_ ?_);rfl;rfl)
  | (refine wpList_store_row rfl 54 (.tmp 6) (.tmp 165) rfl W2.heap.size OC rfl rfl _ _ z3 (hsz _ hcs) (hz72.trans hcs.symm) hc1 ?_))
 refine bodyPost_ret (results_cell_row rfl _ _ W2.heap.size _ _ _ _ rfl (setRow_heap _ _ _ _ _ _ z3) Tryz.underlying54 rfl (hsz _ hcs)) rfl ⟨hfin _,below_setRow b3 hle2 _⟩
set_option maxRecDepth 100000 in
set_option maxHeartbeats 8000000 in
theorem make_tag {w:World} {vm:Value} {es:List DiL} (h:DocSt w vm es) (ids:List Txt) (hok : ∀ x∈ids,x.length=32) (hil:ids.length≤1000) (vi:Value) (hi:Ids w vi ids) (x:SdL) (hx:SdOk w x) (hr:x.refs.length≤10) (ht:x.text.length≤300) (hk:(x.kind.toNat:Int)%4=3) :
 Calls Tryz.prog 47 #[.agg #[vm],vi, .agg (sdC x).toArray] w fun e w'=>MkR w e w'∧Below w.heap.size w w':=by
 have hzo:=zeroObj
 have hz72:=zObj_size
 have hzone:zObj.all (·.oneCell')=true:=objC_all zeroO none none 0 0 0 0
 have hsz : ∀ cs:Array Value,cs.size=72→(Tryz.prog.info? 54).map (·.size)=some cs.size:=fun cs h=>by rw [h];exact szObj
 obtain ⟨W1,hW1⟩ : ∃ W1,w.alloc (.cells #[vm] 28)=W1:=⟨_,rfl⟩
 have s1:Blk W1 w.heap.size 28 #[vm]:=by rw [←hW1];exact Blk.new _ _ _
 have b1:Below w.heap.size w W1:=by rw [←hW1];exact (Below.refl _ _).alloc (Nat.le_refl _) _
 obtain ⟨W2,hW2⟩ : ∃ W2,W1.alloc (.cells (sdC x).toArray 98)=W2:=⟨_,rfl⟩
 have d2:Blk W2 W1.heap.size 98 (sdC x).toArray:=by rw [←hW2];exact Blk.new _ _ _
 have bb2:Below W1.heap.size W1 W2:=by rw [←hW2];exact (Below.refl _ _).alloc (Nat.le_refl _) _
 obtain ⟨W3,hW3⟩ : ∃ W3,W2.alloc (.cells zObj 54)=W3:=⟨_,rfl⟩
 have z3:Blk W3 W2.heap.size 54 zObj:=by rw [←hW3];exact Blk.new _ _ _
 have bb3:Below W2.heap.size W2 W3:=by rw [←hW3];exact (Below.refl _ _).alloc (Nat.le_refl _) _
 have b2:=bthen b1 b1.size bb2
 have b3:=bthen b2 b2.size bb3
 have s3:=(s1.below bb2 s1.lt).below bb3 (s1.below bb2 s1.lt).lt
 have d3:=d2.below bb3 d2.lt
 have hle2:w.heap.size≤W2.heap.size:=b2.size
 have hlt0:=s1.lt
 have hlt1:=d2.lt
 have hlt2:=z3.lt
 have fL:=fun W (hW:Below W3.heap.size W3 W)=>run_ldvS (s3.below hW s3.lt)
 have fK : ∀ W,Below W3.heap.size W3 W→W.cell? ⟨W1.heap.size,0,none⟩=some (.int .u8 x.kind.toNat):=fun W hW=>(d3.below hW d3.lt).cell 0
 have fR : ∀ W,Below W3.heap.size W3 W→W.cell? ⟨W1.heap.size,1,none⟩=some x.vr:=fun W hW=>(d3.below hW d3.lt).cell 1
 have fT : ∀ W,Below W3.heap.size W3 W→W.cell? ⟨W1.heap.size,2,none⟩=some (.int .u16 x.time):=fun W hW=>(d3.below hW d3.lt).cell 2
 have fX : ∀ W,Below W3.heap.size W3 W→W.cell? ⟨W1.heap.size,3,none⟩=some (.string (B x.text)):=fun W hW=>(d3.below hW d3.lt).cell 3
 have k3:=fK W3 (Below.refl _ _)
 have hkb:(x.kind.toNat:Int)<256:=by have:=x.kind.toNat_lt;omega
 have hsI:(Tryz.prog.info? 42).map (·.size)=some (u8s noId).size:=by rw [u8s_size,noId_len];exact sz32
 have hrb:=fun W=>run_build (P:=Tryz.prog) W _ _ _ built_zObj
 obtain ⟨A,cap,hvr,hcap1,hcap2,hat⟩:=hx.refs
 rw [hvr] at fR
 have r3:=fR W3 (Below.refl _ _)
 have hfz : ∀ w',MkR w (.returned (.agg zObj)) w':=fun w'=>MkR.bare zeroO rfl rfl zeroO_small zeroO_ok
 have hkc:=fun (y:Txt) (hy:y.length=32) W (hW:Below W3.heap.size W3 W)=>docKind_calls (h.below (bthen b3 b3.size hW)) y hy
 rcases Nat.eq_zero_or_pos x.refs.length with hrl | hrl
 ·skip
  have hl0:(x.refs.length:Int)=0:=by omega
  clear h hi hx fL fK fR fT fX hok hkc hat hvr hrl
  generalize (sdC x).toArray=SC at *
  generalize zObj=ZO at *
  go_enter Tryz.func47,Tryz.ntmps47
  go_wp2_with (first
   | (refine wpList_store_row rfl 54 (.tmp 6) (.tmp 128) rfl W2.heap.size ZO rfl rfl _ _ z3 (hsz _ hz72) rfl hzone ?_))
  refine bodyPost_ret (results_cell_row rfl _ _ W2.heap.size _ _ _ _ rfl (setRow_heap _ _ _ _ _ _ z3) Tryz.underlying54 rfl (hsz _ hz72)) rfl ⟨hfz _,below_setRow b3 hle2 _⟩
 ·have hlb:((x.refs.length:Int)==0)=false:=by rw [beq_eq_false_iff_ne];omega
  have hl0 : ¬ (x.refs.length:Int)=0:=by omega
  have hlp:(0:Int)<(x.refs.length:Int):=by omega
  obtain ⟨ga,oa,rfl,hga,hca⟩:=hat (by omega)
  obtain ⟨c0,hc0⟩ : ∃ c,x.refs[0]?=some c:=⟨_,List.getElem?_eq_getElem hrl⟩
  have fB : ∀ W,Below W3.heap.size W3 W→W.cell? ⟨ga,oa,none⟩=some (.int .u8 c0.toNat):=fun W hW=>by
   have:=rangeAt_below (hca 0 c0 hc0) hga (bthen b3 b3.size hW) 0 _ rfl
   simpa [byC,u8v] using this
  have hc0b:(c0.toNat:Int)<256:=by have:=c0.toNat_lt;omega
  have hc0w:IntKind.i64.wrap (c0.toNat:Int)=(c0.toNat:Int):=IntWalk.i64_in _ (by omega)
  have hpk:=fun W (hW:Below W3.heap.size W3 W)=>(pick_calls (h.below (bthen b3 b3.size hW)) ids hok hil vi (hi.below (bthen b3 b3.size hW)) c0.toNat (by omega) 0)
  have fB1:1<x.refs.length → ∃ c1:UInt8, ∀ W,Below W3.heap.size W3 W→W.cell? ⟨ga,oa+1,none⟩=some (.int .u8 c1.toNat):=fun h1=>by
   obtain ⟨c1,hc1⟩ : ∃ c,x.refs[1]?=some c:=⟨_,List.getElem?_eq_getElem h1⟩
   refine ⟨c1,fun W hW=>?_⟩
   have:=rangeAt_below (hca 1 c1 hc1) hga (bthen b3 b3.size hW) 0 _ rfl
   simpa [byC,u8v] using this
  clear h hi hx fK fT fX hok hvr hca hc0 hat
  generalize (sdC x).toArray=SC at *
  generalize zObj=ZO at *
  go_enter Tryz.func47,Tryz.ntmps47
  go_wp2
  refine wp_region_go0 14 (by kernel_rfl) (by kernel_rfl) (by kernel_rfl) (by kernel_rfl) ?_
  simp only [exSp]
  iterate 14 apply Exists.intro
  repeat
   first
    | ((with_reducible apply lx0_ex)
       ·(go_simp;done)
       apply Exists.intro
       apply And.intro
       ·apply Eq.refl
       apply And.intro
       ·intro W hW hD
        have hW2:=hW
        have q0:=fL W hW2
        have q1:=fR W hW2
        have q2:=fB W hW2
        go_simp
        rfl
       simp only [Act.put,List.setIfInBounds_toArray,List.set_cons_zero,List.set_cons_succ])
    | ((with_reducible apply lx0_pass)
       ·(first | rfl | (go_simp;done))
       ·apply Eq.refl
       simp only [Act.put,List.setIfInBounds_toArray,List.set_cons_zero,List.set_cons_succ])
    | ((with_reducible refine lx0_new (fun v _ _=>PickV v) rfl ?_ (stab_pure PickV) ?_ ?_)
       ·(go_simp;done)
       ·intro W hW hD
        have hW2:=hW
        unfold doesAt Oper.wp execOp
        go_simp
        (with_reducible refine (hpk W hW2).mono ?_)
        rintro e w' ⟨⟨y,b,rfl,hy⟩,hb⟩
        exact ⟨hb,fun _ _ _ _=>⟨y,b,rfl,hy⟩⟩
       intro v
       simp only [Act.put,List.setIfInBounds_toArray,List.set_cons_zero,List.set_cons_succ])
    | (first | (with_reducible apply lx_move') | (with_reducible apply lx_assign')
       ·apply Eq.refl
       apply Exists.intro
       apply And.intro
       ·(go_simp;rfl)
       simp only [Act.put,List.setIfInBounds_toArray,List.set_cons_zero,List.set_cons_succ])
    | ((with_reducible apply lx_extr')
       ·apply Eq.refl
       apply Exists.intro
       apply And.intro
       ·(go_simp;rfl)
       refine ⟨fun W hW hD=>?_,?_⟩
       ·obtain ⟨F,y,b,rfl,hy⟩:=hD.at 0 rfl (by kernel_rfl)
        exact ⟨_,rfl,by simp⟩
       simp only [Act.put,List.setIfInBounds_toArray,List.set_cons_zero,List.set_cons_succ])
    | ((with_reducible apply lx_al 42 (u8s noId) zeroIdV)
       ·apply Eq.refl
       intro v
       simp only [Act.put,List.setIfInBounds_toArray,List.set_cons_zero,List.set_cons_succ])
    | ((with_reducible apply lx_st' 11 42 (u8s noId) hsI (by kernel_rfl))
       ·exact rfl
       ·apply Eq.refl
       apply Exists.intro
       apply Exists.intro
       apply And.intro
       ·(go_simp;rfl)
       apply And.intro
       ·(go_simp;rfl)
       refine ⟨?_,fun W hW hD=>?_,?_⟩
       ·first | exact List.Mem.head _ | exact List.Mem.tail _ (List.Mem.head _) | exact List.Mem.tail _ (List.Mem.tail _ (List.Mem.head _)) | exact List.Mem.tail _ (List.Mem.tail _ (List.Mem.tail _ (List.Mem.head _)))
       ·obtain ⟨F,y,b,rfl,hy⟩:=hD.at 1 rfl (by kernel_rfl)
        exact ⟨_,rfl,by rw [u8s_size,u8s_size,hy,noId_len],u8s_one y⟩)
  refine lx0_nil ?_ fun w5 hW5 hD5=>?_
  ·exact (by simp [stsOf])
  obtain ⟨_,y,b,rfl,hy⟩:=hD5 _ (.tail _ (.tail _ (.head _)))
  obtain ⟨_,g,cs,rfl,hcs,hg1,_,hg2⟩:=hD5 _ (.head _)
  obtain rfl:u8s y=cs:=by injection hcs
  clear hcs hD5
  simp only [extr2_0,extr2_1]
  have b5:=bthen b3 b3.size hW5
  have z5:=z3.below hW5 z3.lt
  have hgI:=run_ldvI_at (range_blk hg2) hy
  have r5:=fR _ hW5
  have l5:=fL _ hW5
  have hk5:=hkc y hy _ hW5
  clear hpk hkc
  cases b
  ·clear hk5
   go_wp2_with (first
    | (refine wpList_store_row rfl 54 (.tmp 6) (.tmp 142) rfl W2.heap.size ZO rfl rfl _ _ z5 (hsz _ hz72) rfl hzone ?_))
   refine bodyPost_ret (results_cell_row rfl _ _ W2.heap.size _ _ _ _ rfl (setRow_heap _ _ _ _ _ _ z5) Tryz.underlying54 rfl (hsz _ hz72)) rfl ⟨hfz _,below_setRow b5 hle2 _⟩
  ·obtain ⟨K,hK⟩ : ∃ K,kindS (es.map (·.st)) y=K:=⟨_,rfl⟩
   have hKb:=kindS_bounds (s:=es.map (·.st)) y
   rw [hK] at hKb hk5
   have hk5:=Lib.hid hk5
   have hbd:=fun k=>built_tag y hy k [116]
   have hcs : ∀ k:Int,(objC ⟨4,[],[],noId,[],0,[],y,k,[116]⟩ (.slice none 0 0) (.slice none 0 0)).toArray.size=72:=fun k=>by
    rw [List.size_toArray]
    unfold objC
    simp [u8s_size,noId_len,hy]
   have hc1:=fun k:Int=>objC_all ⟨4,[],[],noId,[],0,[],y,k,[116]⟩ none none 0 0 0 0
   have hfin : ∀ (k:Int) w', -9223372036854775808≤k→k≤9223372036854775807→MkR w (.returned (.agg (objC ⟨4,[],[],noId,[],0,[],y,k,[116]⟩ (.slice none 0 0) (.slice none 0 0)).toArray)) w':=fun k w' h1 h2=>MkR.bare _ rfl rfl ⟨by simp,by simp,by simp,by simp,by simp,by simp⟩ ⟨noId_len,hy,by simp,by simp,by simp,by simp,by simp,by simp,by simp,by simp,h1,h2⟩
   have hfa : ∀ (W:World),Below w5.heap.size w5 W→(ldvI ⟨g,0,none⟩).run Tryz.prog W = .ok (.agg (u8s y)) W:=fun W hW=>run_ldvI_at (range_blk (hg2.below hW hg2.lt)) hy
   have hw4:IntKind.i64.wrap (1+K%4)=1+K%4:=IntWalk.i64_in _ (by omega)
   have hK0:=hKb.1
   have hK1:=hKb.2
   have hfinK:=hfin K
   have hfin4:=hfin (1+K%4)
   have hbdK:Tryz.prog.built 54 [(0, .int .i64 4),(7, .agg (u8s y)),(8, .int .i64 K),(9, .string ⟨#[116]⟩)]=some _:=hbd K
   have hbd4:Tryz.prog.built 54 [(0, .int .i64 4),(7, .agg (u8s y)),(8, .int .i64 (1+K%4)),(9, .string ⟨#[116]⟩)]=some _:=hbd (1+K%4)
   have hcsK:=hcs K
   have hcs4:=hcs (1+K%4)
   have hc1K:=hc1 K
   have hc14:=hc1 (1+K%4)
   clear hbd hcs hc1 hfin hK hKb hgI
   generalize (objC ⟨4,[],[],noId,[],0,[],y,K,[116]⟩ (.slice none 0 0) (.slice none 0 0)).toArray=OK at *
   generalize (objC ⟨4,[],[],noId,[],0,[],y,1+K%4,[116]⟩ (.slice none 0 0) (.slice none 0 0)).toArray=O4 at *
   have hgI:=hfa _ (Below.refl _ _)
   have main:1<x.refs.length ∨ ¬ 1<x.refs.length:=by omega
   rcases main with h1 | h1
   ·have h1i:(1:Int)<(x.refs.length:Int):=by omega
    obtain ⟨c1,f1⟩:=fB1 h1
    cases hc:((c1.toNat:Int)==250)
    all_goals
     go_wp2_with (first
      | ((with_reducible refine hk5.out.mono ?_);rintro e w6 ⟨rfl,hb6⟩
         have b6:=bthen b5 b5.size hb6
         have z6:=z5.below hb6 z5.lt
         have hgI6:=hfa _ hb6
         have r6:=fR _ (bthen hW5 hW5.size hb6)
         have q6:=f1 _ (bthen hW5 hW5.size hb6))
      | ((with_reducible refine lit_build4 hbdK ?_ ?_ ?_ ?_ ?_);rfl;rfl;rfl;rfl)
      | ((with_reducible refine lit_build4 hbd4 ?_ ?_ ?_ ?_ ?_);rfl;rfl;rfl;rfl)
      | (refine wpList_store_row rfl 54 (.tmp 6) (.tmp 162) rfl W2.heap.size OK rfl rfl _ _ z6 (hsz _ hcsK) (hz72.trans hcsK.symm) hc1K ?_)
      | (refine wpList_store_row rfl 54 (.tmp 6) (.tmp 162) rfl W2.heap.size O4 rfl rfl _ _ z6 (hsz _ hcs4) (hz72.trans hcs4.symm) hc14 ?_))
     first
      | refine bodyPost_ret (results_cell_row rfl _ _ W2.heap.size _ _ _ _ rfl (setRow_heap _ _ _ _ _ _ z6) Tryz.underlying54 rfl (hsz _ hcsK)) rfl ⟨hfinK _ (by omega) (by omega),below_setRow b6 hle2 _⟩
      | refine bodyPost_ret (results_cell_row rfl _ _ W2.heap.size _ _ _ _ rfl (setRow_heap _ _ _ _ _ _ z6) Tryz.underlying54 rfl (hsz _ hcs4)) rfl ⟨hfin4 _ (by omega) (by omega),below_setRow b6 hle2 _⟩
   ·have h1i : ¬ (1:Int)<(x.refs.length:Int):=by omega
    go_wp2_with (first
     | ((with_reducible refine hk5.out.mono ?_);rintro e w6 ⟨rfl,hb6⟩
        have b6:=bthen b5 b5.size hb6
        have z6:=z5.below hb6 z5.lt
        have hgI6:=hfa _ hb6
        have r6:=fR _ (bthen hW5 hW5.size hb6))
     | ((with_reducible refine lit_build4 hbdK ?_ ?_ ?_ ?_ ?_);rfl;rfl;rfl;rfl)
     | (refine wpList_store_row rfl 54 (.tmp 6) (.tmp 162) rfl W2.heap.size OK rfl rfl _ _ z6 (hsz _ hcsK) (hz72.trans hcsK.symm) hc1K ?_))
    refine bodyPost_ret (results_cell_row rfl _ _ W2.heap.size _ _ _ _ rfl (setRow_heap _ _ _ _ _ _ z6) Tryz.underlying54 rfl (hsz _ hcsK)) rfl ⟨hfinK _ (by omega) (by omega),below_setRow b6 hle2 _⟩
end Go.Proofs.YtlojebhcemfodaaGreatDoor
namespace Go.Proofs.YtlojebhcemfodaaGreatDoor
open Go.RowKit
attribute [local go_sem ↓] ldvI_eq ldvS_eq stvI_eq ldvO_eq
set_option maxRecDepth 100000 in
set_option maxHeartbeats 8000000 in
theorem make_commit {w:World} {vm:Value} {es:List DiL} (h:DocSt w vm es) (ids:List Txt) (hok : ∀ x∈ids,x.length=32) (hil:ids.length≤1000) (vi:Value) (hi:Ids w vi ids) (x:SdL) (hx:SdOk w x) (hr:x.refs.length≤10) (ht:x.text.length≤300) (hk:(x.kind.toNat:Int)%4=2) :
 Calls Tryz.prog 47 #[.agg #[vm],vi, .agg (sdC x).toArray] w fun e w'=>MkR w e w'∧Below w.heap.size w w':=by
 have hzo:=zeroObj
 have hz72:=zObj_size
 have hzone:zObj.all (·.oneCell')=true:=objC_all zeroO none none 0 0 0 0
 have hsz : ∀ cs:Array Value,cs.size=72→(Tryz.prog.info? 54).map (·.size)=some cs.size:=fun cs h=>by rw [h];exact szObj
 obtain ⟨W1,hW1⟩ : ∃ W1,w.alloc (.cells #[vm] 28)=W1:=⟨_,rfl⟩
 have s1:Blk W1 w.heap.size 28 #[vm]:=by rw [←hW1];exact Blk.new _ _ _
 have b1:Below w.heap.size w W1:=by rw [←hW1];exact (Below.refl _ _).alloc (Nat.le_refl _) _
 obtain ⟨W2,hW2⟩ : ∃ W2,W1.alloc (.cells (sdC x).toArray 98)=W2:=⟨_,rfl⟩
 have d2:Blk W2 W1.heap.size 98 (sdC x).toArray:=by rw [←hW2];exact Blk.new _ _ _
 have bb2:Below W1.heap.size W1 W2:=by rw [←hW2];exact (Below.refl _ _).alloc (Nat.le_refl _) _
 obtain ⟨W3,hW3⟩ : ∃ W3,W2.alloc (.cells zObj 54)=W3:=⟨_,rfl⟩
 have z3:Blk W3 W2.heap.size 54 zObj:=by rw [←hW3];exact Blk.new _ _ _
 have bb3:Below W2.heap.size W2 W3:=by rw [←hW3];exact (Below.refl _ _).alloc (Nat.le_refl _) _
 have b2:=bthen b1 b1.size bb2
 have b3:=bthen b2 b2.size bb3
 have s3:=(s1.below bb2 s1.lt).below bb3 (s1.below bb2 s1.lt).lt
 have d3:=d2.below bb3 d2.lt
 have hle2:w.heap.size≤W2.heap.size:=b2.size
 have hlt0:=s1.lt
 have hlt1:=d2.lt
 have hlt2:=z3.lt
 have fL:=fun W (hW:Below W3.heap.size W3 W)=>run_ldvS (s3.below hW s3.lt)
 have fK : ∀ W,Below W3.heap.size W3 W→W.cell? ⟨W1.heap.size,0,none⟩=some (.int .u8 x.kind.toNat):=fun W hW=>(d3.below hW d3.lt).cell 0
 have fR : ∀ W,Below W3.heap.size W3 W→W.cell? ⟨W1.heap.size,1,none⟩=some x.vr:=fun W hW=>(d3.below hW d3.lt).cell 1
 have fT : ∀ W,Below W3.heap.size W3 W→W.cell? ⟨W1.heap.size,2,none⟩=some (.int .u16 x.time):=fun W hW=>(d3.below hW d3.lt).cell 2
 have fX : ∀ W,Below W3.heap.size W3 W→W.cell? ⟨W1.heap.size,3,none⟩=some (.string (B x.text)):=fun W hW=>(d3.below hW d3.lt).cell 3
 have k3:=fK W3 (Below.refl _ _)
 have hkb:(x.kind.toNat:Int)<256:=by have:=x.kind.toNat_lt;omega
 have hsI:(Tryz.prog.info? 42).map (·.size)=some (u8s noId).size:=by rw [u8s_size,noId_len];exact sz32
 have hrb:=fun W=>run_build (P:=Tryz.prog) W _ _ _ built_zObj
 have hzI:=zeroIdV
 have hZ32:(u8s noId).size=32:=by rw [u8s_size,noId_len]
 obtain ⟨A,cap,hvr,hcap1,hcap2,hat⟩:=hx.refs
 rw [hvr] at fR
 have htm:=hx.time
 have htw:IntKind.i64.wrap (x.time:Int)=(x.time:Int):=IntWalk.i64_in _ (by omega)
 have htu:IntKind.u32.wrap (x.time:Int)=(x.time:Int):=by
  unfold IntKind.wrap
  simp [IntKind.bits,IntKind.signed]
  omega
 have t3:=fT W3 (Below.refl _ _)
 have l3:=fL W3 (Below.refl _ _)
 have hp2:=Lib.hid (pick_calls (h.below b3) ids hok hil vi (hi.below b3) x.time (by omega) 2)
 have hfz : ∀ w',MkR w (.returned (.agg zObj)) w':=fun w'=>MkR.bare zeroO rfl rfl zeroO_small zeroO_ok
 have hpk:=fun (c:UInt8) W (hW:Below W3.heap.size W3 W)=>(pick_calls (h.below (bthen b3 b3.size hW)) ids hok hil vi (hi.below (bthen b3 b3.size hW)) c.toNat (by have:=c.toNat_lt;omega) 3)
 have fBk : ∀ k,k<x.refs.length → ∃ (ga oa:Nat) (c:UInt8),A=some ⟨ga,oa,none⟩ ∧ ∀ W,Below W3.heap.size W3 W→W.cell? ⟨ga,oa+k,none⟩=some (.int .u8 c.toNat):=fun k hk=>by
  obtain ⟨ga,oa,rfl,hga,hca⟩:=hat (by omega)
  refine ⟨ga,oa,x.refs[k],rfl,fun W hW=>?_⟩
  have:=rangeAt_below (hca k _ (List.getElem?_eq_getElem hk)) hga (bthen b3 b3.size hW) 0 _ rfl
  simpa [byC,u8v] using this
 have htx:=hx.text
 clear h hi hx fK hok hat hvr
 generalize (sdC x).toArray=SC at *
 obtain ⟨ZO,hZO⟩ : ∃ ZO,zObj=ZO:=⟨_,rfl⟩
 rw [hZO] at hzo hz72 hzone hW3 z3 hrb hfz
 go_enter Tryz.func47,Tryz.ntmps47
 go_upto_region 13 with (first
  | ((with_reducible refine hp2.out.mono ?_);rintro e w4 ⟨⟨y,b,rfl,hy⟩,hb4⟩
     have b4:=bthen b3 b3.size hb4
     have z4:=z3.below hb4 z3.lt
     have hy32:(u8s y).size=32:=by rw [u8s_size,hy]
     have hyo:=u8s_one y)
  | ((with_reducible refine lit_new 42 (.tmp 11) (.tmp 72) (u8s y) 32 sz32 hy32 hyo _ ?_ ?_ ?_ ?_)
     ·first | exact hZ32 | rfl
     ·rfl
     ·rfl
     intro W5 n5 hbl5
     have b5:=bthen b4 b4.size hbl5
     have b35:=bthen hb4 hb4.size hbl5
     have z5:=z4.below hbl5 z4.lt
     have ln5:=run_ldvI_at (range_blk n5) hy))
 cases b
 ·clear hpk fBk fL fR
  go_wp2_with (first
   | (refine wpList_store_row rfl 54 (.tmp 6) (.tmp 76) rfl W2.heap.size ZO rfl rfl _ _ z5 (hsz _ hz72) rfl hzone ?_))
  refine bodyPost_ret (results_cell_row rfl _ _ W2.heap.size _ _ _ _ rfl (setRow_heap _ _ _ _ _ _ z5) Tryz.underlying54 rfl (hsz _ hz72)) rfl ⟨hfz _,below_setRow b5 hle2 _⟩
 ·have hbd:=built_commit y hy x.time x.text
  have hcs:(objC ⟨3,[],[],y,[],x.time,x.text,noId,0,[]⟩ (.slice none 0 0) (.slice none 0 0)).toArray.size=72:=by
   rw [List.size_toArray]
   unfold objC
   simp [u8s_size,noId_len,hy]
  have hc1:=objC_all ⟨3,[],[],y,[],x.time,x.text,noId,0,[]⟩ none none 0 0 0 0
  have t5:=fT _ b35
  have x5:=fX _ b35
  obtain ⟨OC,hOC⟩ : ∃ OC,(objC ⟨3,[],[],y,[],x.time,x.text,noId,0,[]⟩ (.slice none 0 0) (.slice none 0 0)).toArray=OC:=⟨_,rfl⟩
  rw [hOC] at hbd hcs hc1
  have hOC:=Lib.hid hOC
  go_wp2_with (first
   | ((with_reducible refine lit_build4 hbd ?_ ?_ ?_ ?_ ?_);rfl;rfl;rfl;rfl)
   | ((with_reducible refine lit_new 54 (.tmp 13) (.tmp 83) OC 72 szObj hcs hc1 _ ?_ ?_ ?_ ?_)
      ·first | exact hz72 | rfl
      ·rfl
      ·rfl
      intro W6 n6 hbl6
      have b36:=bthen b35 b35.size hbl6))
  have hgs:W3.heap.size≤W5.heap.size:=b35.size
  have hO6:ObjB W6 W5.heap.size ⟨3,[],[],y,[],x.time,x.text,noId,0,[]⟩ (.slice none 0 0) (.slice none 0 0):=⟨by rw [hOC.out];exact n6,hy,noId_len⟩
  clear n6 hbd hcs hc1 t5 x5 ln5 n5 hp2 l3 t3 z5 z4 hrb hfz fT fX
  go_loopw [14] (fun vi wr => ∃ (k:Nat) (acc:List Txt) (vp:Value),vi = .int .i64 k∧k≤x.refs.length∧k≤4∧acc.length≤k∧Hid (∀ x∈acc,x.length=32)∧ObjB wr W5.heap.size ⟨3,[],[],y,acc,x.time,x.text,noId,0,[]⟩ (.slice none 0 0) vp∧OwnIds wr W3.heap.size vp acc∧Below W3.heap.size W3 wr) (fun vi _=>x.refs.length-(intOf vi).toNat)
  case atStart=>exact ⟨0,[],_,rfl,by omega,by omega,by simp,Lib.hid (fun x hx=>by simp at hx),hO6,World.ownsRow_nil _ _ _ _,b36⟩
  case round=>
   obtain ⟨k,acc,vp,rfl,hk,hk4,hal,hall,hO,hown,hbel⟩:=hrel
   have r6:=fR _ hbel
   by_cases hlt:k<x.refs.length
   ·have hki:(k:Int)<(x.refs.length:Int):=by omega
    by_cases hk5:k<4
    ·have hki4:(k:Int)<4:=by omega
     obtain ⟨ga,oa,c,rfl,fB⟩:=fBk k hlt
     have hcb:(c.toNat:Int)<256:=by have:=c.toNat_lt;omega
     have hcw:IntKind.i64.wrap (c.toNat:Int)=(c.toNat:Int):=IntWalk.i64_in _ (by omega)
     have hpk:=hpk c
     clear fBk
     go_wp2
     refine wp_region_go0 15 (by kernel_rfl) (by kernel_rfl) (by kernel_rfl) (by kernel_rfl) ?_
     simp only [exSp]
     iterate 15 apply Exists.intro
     repeat
      first
       | ((with_reducible apply lx0_ex)
          ·(go_simp;done)
          apply Exists.intro
          apply And.intro
          ·apply Eq.refl
          apply And.intro
          ·intro W hW hD
           have hW2:=hbel.trans (hW.mono hbel.size)
           have q0:=fL W hW2
           have q1:=fR W hW2
           have q2:=fB W hW2
           go_simp
           rfl
          simp only [Act.put,List.setIfInBounds_toArray,List.set_cons_zero,List.set_cons_succ])
       | ((with_reducible apply lx0_pass)
          ·(first | rfl | (go_simp;done))
          ·apply Eq.refl
          simp only [Act.put,List.setIfInBounds_toArray,List.set_cons_zero,List.set_cons_succ])
       | ((with_reducible refine lx0_new (fun v _ _=>PickV v) rfl ?_ (stab_pure PickV) ?_ ?_)
          ·(go_simp;done)
          ·intro W hW hD
           have hW2:=hbel.trans (hW.mono hbel.size)
           unfold doesAt Oper.wp execOp
           go_simp
           (with_reducible refine (hpk W hW2).mono ?_)
           rintro e w' ⟨⟨y,b,rfl,hy⟩,hb⟩
           exact ⟨hb,fun _ _ _ _=>⟨y,b,rfl,hy⟩⟩
          intro v
          simp only [Act.put,List.setIfInBounds_toArray,List.set_cons_zero,List.set_cons_succ])
       | (first | (with_reducible apply lx_move') | (with_reducible apply lx_assign')
          ·apply Eq.refl
          apply Exists.intro
          apply And.intro
          ·(go_simp;rfl)
          simp only [Act.put,List.setIfInBounds_toArray,List.set_cons_zero,List.set_cons_succ])
       | ((with_reducible apply lx_extr')
          ·apply Eq.refl
          apply Exists.intro
          apply And.intro
          ·(go_simp;rfl)
          refine ⟨fun W hW hD=>?_,?_⟩
          ·obtain ⟨F,y,b,rfl,hy⟩:=hD.at 0 rfl (by kernel_rfl)
           exact ⟨_,rfl,by simp⟩
          simp only [Act.put,List.setIfInBounds_toArray,List.set_cons_zero,List.set_cons_succ])
       | ((with_reducible apply lx_al 42 (u8s noId) zeroIdV)
          ·apply Eq.refl
          intro v
          simp only [Act.put,List.setIfInBounds_toArray,List.set_cons_zero,List.set_cons_succ])
       | ((with_reducible apply lx_st' 12 42 (u8s noId) hsI (by kernel_rfl))
          ·exact rfl
          ·apply Eq.refl
          apply Exists.intro
          apply Exists.intro
          apply And.intro
          ·(go_simp;rfl)
          apply And.intro
          ·(go_simp;rfl)
          refine ⟨?_,fun W hW hD=>?_,?_⟩
          ·first | exact List.Mem.head _ | exact List.Mem.tail _ (List.Mem.head _) | exact List.Mem.tail _ (List.Mem.tail _ (List.Mem.head _)) | exact List.Mem.tail _ (List.Mem.tail _ (List.Mem.tail _ (List.Mem.head _)))
          ·obtain ⟨F,y,b,rfl,hy⟩:=hD.at 1 rfl (by kernel_rfl)
           exact ⟨_,rfl,by rw [u8s_size,u8s_size,hy,noId_len],u8s_one y⟩)
     refine lx0_nil ?_ fun w7 hW7 hD7=>?_
     ·exact (by simp [stsOf])
     obtain ⟨_,y7,b,rfl,hy7⟩:=hD7 _ (.tail _ (.tail _ (.head _)))
     obtain ⟨_,g,cs,rfl,hcs,hg1,_,hg2⟩:=hD7 _ (.head _)
     obtain rfl:u8s y7=cs:=by injection hcs
     clear hcs hD7
     simp only [extr2_0,extr2_1]
     have b7:=hbel.trans (hW7.mono hbel.size)
     have own7:=own_below hown hW7
     have hO7:=hO.below hW7
     have hgI:=run_ldvI_at (range_blk hg2) hy7
     clear hpk fB hcw
     cases b
     ·go_wp2
      go_roundw
      case rel=>exact ⟨k+1,acc,vp,by go_num,by omega,by omega,by omega,hall,hO7,own7,b7⟩
      case measure=>simp [intOf];omega
     ·obtain ⟨A3,c3,rfl⟩:=own_form' hown
      have hpc:w7.cell? ⟨W5.heap.size,35,none⟩=some (.slice A3 acc.length c3):=hO7.pars
      by_cases ha:acc.length=k
      ·have hai:((acc.length:Int)==(k:Int))=true:=by simp;omega
       clear ha
       have hid32:(idC y7).toArray.size=32:=by rw [List.size_toArray,idC_len hy7]
       have hidl:(idC y7).toArray.size=1*32:=hid32
       have hid1 : ∀ u∈(idC y7).toArray.toList,u.oneCell'=true:=by rw [List.toList_toArray];exact idC_one y7
       have hXC:(idC y7).toArray=u8s y7:=by simp [idC]
       rw [hXC] at hid32 hidl hid1
       have hall2:Hid (∀ z∈acc++[y7],z.length=32):=Lib.hid fun z hz=>by
        rcases List.mem_append.1 hz with hz | hz
        ·exact hall.out z hz
        ·rw [List.mem_singleton.1 hz];exact hy7
       have hrow:Hid (rowsOf idC (acc++[y7])=rowsOf idC acc++(u8s y7).toList):=Lib.hid (by rw [rowsOf_append,rowsOf_one];rfl)
       have hkl:acc.length+1≤9223372036854775807:=by omega
       have hm2:(acc.length+1)*32≤140737488355328:=by omega
       have sz7:=b7.size
       have hgO:=own_blk_ne own7 hO7.blk (by decide)
       clear hXC
       generalize u8s y7=XC at *
       go_wp2_with (first
        | ((with_reducible refine lit_slice1 (.tmp 117) Tryz.idsTy XC hid32 (by omega) ?_ ?_);rfl)
        | (at_builtin
           (with_reducible refine lit_append_new (.tmp 116) (.tmp 118) 1 _ Tryz.idsTy own7 XC hidl hid1 hkl hm2 sz7 ?_ ?_ ?_);rfl;rfl
           intro v8 w8 hv8 hb8 hg8 hn8
           have b8:=b7.trans hb8
           have hO8:ObjB w8 W5.heap.size ⟨3,[],[],y,acc,x.time,x.text,noId,0,[]⟩ (.slice none 0 0) (.slice A3 acc.length c3):=⟨hO7.blk.grown hg8 hgO,hO7.tr,hO7.ta⟩
           have hf8:=hO8.fr 35
           have hp8:=hO8.pars
           obtain ⟨A8,c8,rfl⟩:=own_form' hv8
           clear hg8 hn8))
       have hne8:=own_blk_ne hv8 hO8.blk (by decide)
       have own9:OwnIds (w8.setCell ⟨W5.heap.size,35,none⟩ (.slice A8 (acc.length+1) c8)) W3.heap.size (.slice A8 (acc.length+1) c8) (acc++[y7]):=by
        unfold OwnIds
        rw [List.length_append,hrow.out]
        exact own_same hv8 fun k hk=>Below.heap_setCell _ _ _ _ (fun e=>hne8 (by rw [hk];exact congrArg some e.symm))
       go_roundw
       case rel=>exact ⟨k+1,acc++[y7],_,by go_num,by omega,by omega,by simp;omega,hall2,hO8.setPars _ _,own9,b8.setCell hgs _⟩
       case measure=>simp [intOf];omega
      ·have hai:((acc.length:Int)==(k:Int))=false:=by rw [beq_eq_false_iff_ne];omega
       go_wp2
       go_roundw
       case rel=>exact ⟨k+1,acc,_,by go_num,by omega,by omega,by omega,hall,hO7,own7,b7⟩
       case measure=>simp [intOf];omega
    ·have hki4 : ¬ (k:Int)<4:=by omega
     clear fBk hpk
     obtain ⟨A3,c3,rfl⟩:=own_form' hown
     have hz9:=z3.below hbel z3.lt
     have hokO:ObjOk ⟨3,[],[],y,acc,x.time,x.text,noId,0,[]⟩:=⟨hy,noId_len,by simp,hall.out,by simp,htx,by simp,by show x.time<_;omega,by simp,by simp,by simp,by simp⟩
     have ld:=run_ldvO hO hokO
     have hcs:(objC ⟨3,[],[],y,acc,x.time,x.text,noId,0,[]⟩ (.slice none 0 0) (.slice A3 acc.length c3)).toArray.size=72:=by rw [List.size_toArray];exact objC_len hokO _ _
     have hc1:=objC_all ⟨3,[],[],y,acc,x.time,x.text,noId,0,[]⟩ none A3 0 0 acc.length c3
     have hfin:Hid (∀ w',OwnIds w' W3.heap.size (.slice A3 acc.length c3) acc→MkR w (.returned (.agg (objC ⟨3,[],[],y,acc,x.time,x.text,noId,0,[]⟩ (.slice none 0 0) (.slice A3 acc.length c3)).toArray)) w'):=Lib.hid fun w' ho=>⟨_,none,A3,0,c3,rfl,⟨by simp,by simp,by show acc.length≤_;omega,by simp,by show x.text.length≤_;omega,by simp⟩,hokO,World.ownsRow_nil _ _ _ _,own_low' ho b3.size⟩
     have b9:=bthen b3 b3.size hbel
     generalize (objC ⟨3,[],[],y,acc,x.time,x.text,noId,0,[]⟩ (.slice none 0 0) (.slice A3 acc.length c3)).toArray=OR at *
     go_wp2_with (first
      | (refine wpList_store_row rfl 54 (.tmp 6) (.tmp 121) rfl W2.heap.size OR rfl rfl _ _ hz9 (hsz _ hcs) (hz72.trans hcs.symm) hc1 ?_))
     refine bodyPost_ret (results_cell_row rfl _ _ W2.heap.size _ _ _ _ rfl (setRow_heap _ _ _ _ _ _ hz9) Tryz.underlying54 rfl (hsz _ hcs)) rfl ⟨hfin.out _ (own_row hown hlt2 OR),below_setRow b9 hle2 _⟩
   ·have hki : ¬ (k:Int)<(x.refs.length:Int):=by omega
    clear fBk hpk
    obtain ⟨A3,c3,rfl⟩:=own_form' hown
    have hz9:=z3.below hbel z3.lt
    have hokO:ObjOk ⟨3,[],[],y,acc,x.time,x.text,noId,0,[]⟩:=⟨hy,noId_len,by simp,hall.out,by simp,htx,by simp,by show x.time<_;omega,by simp,by simp,by simp,by simp⟩
    have ld:=run_ldvO hO hokO
    have hcs:(objC ⟨3,[],[],y,acc,x.time,x.text,noId,0,[]⟩ (.slice none 0 0) (.slice A3 acc.length c3)).toArray.size=72:=by rw [List.size_toArray];exact objC_len hokO _ _
    have hc1:=objC_all ⟨3,[],[],y,acc,x.time,x.text,noId,0,[]⟩ none A3 0 0 acc.length c3
    have hfin:Hid (∀ w',OwnIds w' W3.heap.size (.slice A3 acc.length c3) acc→MkR w (.returned (.agg (objC ⟨3,[],[],y,acc,x.time,x.text,noId,0,[]⟩ (.slice none 0 0) (.slice A3 acc.length c3)).toArray)) w'):=Lib.hid fun w' ho=>⟨_,none,A3,0,c3,rfl,⟨by simp,by simp,by show acc.length≤_;omega,by simp,by show x.text.length≤_;omega,by simp⟩,hokO,World.ownsRow_nil _ _ _ _,own_low' ho b3.size⟩
    have b9:=bthen b3 b3.size hbel
    generalize (objC ⟨3,[],[],y,acc,x.time,x.text,noId,0,[]⟩ (.slice none 0 0) (.slice A3 acc.length c3)).toArray=OR at *
    go_wp2_with (first
     | (refine wpList_store_row rfl 54 (.tmp 6) (.tmp 121) rfl W2.heap.size OR rfl rfl _ _ hz9 (hsz _ hcs) (hz72.trans hcs.symm) hc1 ?_))
    refine bodyPost_ret (results_cell_row rfl _ _ W2.heap.size _ _ _ _ rfl (setRow_heap _ _ _ _ _ _ hz9) Tryz.underlying54 rfl (hsz _ hcs)) rfl ⟨hfin.out _ (own_row hown hlt2 OR),below_setRow b9 hle2 _⟩
end Go.Proofs.YtlojebhcemfodaaGreatDoor
