/- Texts of this claim, laid together: RdD, RdE, RsW, DlaA, DlaB, GoA, RsA, RsB, RsD, DlaD, GsW. -/
import Derived.Test.YtodebknbchaccaaGreatDoorMf
import Derived.Deep.CutBlock
namespace Go.Proofs.YtodebknbchaccaaGreatDoor
open Go.RowKit
section
attribute [local go_sem ↓] ldvO_eq
theorem rKind_lt (r:Rd):(rKind r).1<256:=by
 unfold rKind
 split
 ·show (0:Nat)<256
  omega
 ·exact UInt8.toNat_lt _
theorem rEnt_ok (r:Rd) (h:r.1.length≤1000000):EntOk (rEnt r).1:=by
 have h1:=rKind_lt r
 have h2:=zC1 (rKind r).2
 have h3:=zEa r
 exact ⟨rId_len _,by show (rText (rKind r).2).1.length≤_;omega,by show _≤((rKind r).1:Int);omega,by show ((rKind r).1:Int)≤_;omega⟩
theorem rEnt_le (r:Rd):(rEnt r).2.1.length≤r.1.length:=Nat.le_trans (rId_le _) (Nat.le_trans (rText_le _) (zEa _))
theorem rTree_ok : ∀ (f:Nat) (r:Rd) (acc:List EntL),r.1.length≤1000000→(∀ e∈acc,EntOk e) → ∀ e∈(rTree f r acc).1,EntOk e
 | 0,r,acc,_,h=>h
 | f+1,r,acc,hl,h=>by
   rw [rTree]
   split
   ·exact h
   ·refine rTree_ok f _ _ (Nat.le_trans (rEnt_le r) hl) ?_
    intro e he
    rcases List.mem_append.1 he with he | he
    ·exact h e he
    ·obtain rfl:=List.mem_singleton.1 he
     exact rEnt_ok r hl
theorem readO_ok (k:Nat) (hk:k<256) (r:Rd) (hr:r.1.length≤100000):ObjOk (readO k r).1:=by
 have hs:=readO_sound k r
 have h0:([]:Txt).length≤9223372036854775807:=by simp
 have hkk:=zCN k r
 refine ⟨hs.tree,hs.target,?_,hs.pars,?_,?_,?_,hs.time,by rw [hkk];omega,by rw [hkk];omega,?_,?_⟩
 all_goals
  unfold readO
  split
  ·first
    | exact rTree_ok _ _ _ (by omega) (by simp)
    | exact h0
    | (show (-9223372036854775808:Int)≤0;omega)
    | (show (0:Int)≤9223372036854775807;omega)
  ·split
   ·first
     | exact h0
     | (intro e he;cases he;done)
     | (refine Nat.le_trans (zC1 _) ?_
        rw [zC8]
        refine Nat.le_trans (Nat.le_trans (rNum_le _) (Nat.le_trans (rPars_le _ _ _) ?_)) (Nat.le_trans hr (by omega))
        rw [zC8]
        exact Nat.le_trans (rNum_le _) (rId_le _))
     | (show (-9223372036854775808:Int)≤0;omega)
     | (show (0:Int)≤9223372036854775807;omega)
   ·split
    ·first
      | exact h0
      | (intro e he;cases he;done)
      | (refine Nat.le_trans (zC1 _) (Nat.le_trans (Nat.le_trans (rId_le _) (zEa _)) (by omega)))
      | (have:=rKind_lt r;show (-9223372036854775808:Int)≤((rKind r).1:Int);omega)
      | (have:=rKind_lt r;show ((rKind r).1:Int)≤9223372036854775807;omega)
    ·first
      | exact h0
      | (intro e he;cases he;done)
      | (show (rBytes r.1.length r).1.length≤_
         rcases bytes_or (n:=r.1.length) r with h | h
         ·rw [h];exact h0
         ·rw [h];omega)
      | (show (-9223372036854775808:Int)≤0;omega)
      | (show (0:Int)≤9223372036854775807;omega)
theorem zBp (k:Int):Tryz.prog.built 74 [(0, .int .i64 k)]=some (objC ⟨k,[],[],noId,[],0,[],noId,0,[]⟩ (.slice none 0 0) (.slice none 0 0)).toArray:=by kernel_rfl
theorem built_rd (t:Txt):Tryz.prog.built 203 [(0, .string (B t))]=some #[.string (B t), .bool false]:=by kernel_rfl
def DecR (x:Option ObjL) (B:Nat) (w':World) (e:Ending):Prop:=match x with
 | some o => ∃ A1 A2 k1 k2,e = .returned (.tuple #[.agg (objC o (.slice A1 o.ents.length k1) (.slice A2 o.pars.length k2)).toArray, .int .i64 0])∧ObjV w' (.slice A1 o.ents.length k1) (.slice A2 o.pars.length k2) o∧OwnEnts w' B (.slice A1 o.ents.length k1) o.ents∧OwnIds w' B (.slice A2 o.pars.length k2) o.pars
 | none=>e = .returned (.tuple #[.agg zObj, .int .i64 2])
theorem Did.val {w w':World} {gO gR:Nat} {x:ObjL×Rd} {ve vp:Value} (h:Been w gO gR w.heap.size x.1 x.2 ve vp w') (ho:ObjOk x.1) : ∃ A1 A2 k1 k2,ve = .slice A1 x.1.ents.length k1∧vp = .slice A2 x.1.pars.length k2∧ObjV w' ve vp x.1:=by
 have he:Ents w' ve x.1.ents:=SliceAt.of_own (fun e h=>zBt (ho.ents e h)) h.ents
 have hp:Ids w' vp x.1.pars:=SliceAt.of_own (fun e h=>idC_len (ho.pars e h)) h.pars
 have he':=he
 have hp':=hp
 obtain ⟨A1,k1,e1,_⟩:=he'
 obtain ⟨A2,k2,e2,_⟩:=hp'
 exact ⟨A1,A2,k1,k2,e1,e2,ho,he,hp⟩
theorem own_row {w:World} {B g:Nat} {e:TypeId} {k m:Nat} {v:Value} {zs:List Value} (h:w.ownsRow B e k v m zs) (hg:g<B) (cs:Array Value):(w.setRow g cs).ownsRow B e k v m zs:=
 Far.own (S:=[some g]) (Far.row (Far.refl _ w) (.inl (by simp)) cs) h fun q hq=>by
  have:=(World.ownsRow.lt h q hq).1
  simp;omega
theorem zCC {w:World} {B g:Nat} {ve vp:Value} {o:ObjL} (ho:ObjOk o) (he:OwnEnts w B ve o.ents) (hp:OwnIds w B vp o.pars) (hg:g<B) (cs:Array Value):ObjV (w.setRow g cs) ve vp o:=
 ⟨ho,SliceAt.of_own (fun e h=>zBt (ho.ents e h)) (own_row he hg cs),SliceAt.of_own (fun e h=>idC_len (ho.pars e h)) (own_row hp hg cs)⟩
theorem zAz (o:ObjL) (A1 A2:Option Addr) (a b c d:Nat):(objC o (.slice A1 a b) (.slice A2 c d)).toArray.all (·.oneCell')=true:=by
 refine all_oneCell_toArray ?_
 intro v hv
 unfold objC at hv
 simp only [List.mem_cons,List.mem_append] at hv
 have h8 : ∀ l:Txt,v∈(u8s l).toList→v.oneCell'=true:=fun l h=>u8v_one l v (by simpa [u8s] using h)
 rcases hv with rfl | rfl | rfl | hv | rfl | rfl | rfl | hv | rfl | rfl | hv
 ·rfl
 ·rfl
 ·rfl
 ·exact h8 _ hv
 ·rfl
 ·rfl
 ·rfl
 ·exact h8 _ hv
 ·rfl
 ·rfl
 ·cases hv
set_option maxRecDepth 100000 in
set_option maxHeartbeats 2000000 in
theorem decode_no (s:Txt) (hs:s.length≤4611686018427387904) (h:s=[]∨4096<s.length∨takeP (s.drop 1)=none ∨ ∃ t c q,takeP (s.drop 1)=some (t,c::q)) (w:World) :
 Calls Tryz.prog 70 #[.string (B s)] w fun e w'=>e = .returned (.tuple #[.agg zObj, .int .i64 2])∧Below w.heap.size w w':=by
 have hzv:=zeroObj
 obtain ⟨W0,hW0⟩ : ∃ W0,w.alloc (.cells zObj 74)=W0:=⟨_,rfl⟩
 have hz0:Blk W0 w.heap.size 74 zObj:=by rw [←hW0];exact Blk.new _ _ _
 have b0:Below w.heap.size w W0:=by rw [←hW0];exact (Below.refl _ _).alloc (Nat.le_refl _) _
 have hrb:=fun W=>run_build (P:=Tryz.prog) W _ _ _ zBL
 have hone:=zCR
 have hsz:=zEr
 by_cases h1:s=[]∨4096<s.length
 ·clear h
  rcases h1 with rfl | h1
  ·go_enter Tryz.func70,Tryz.ntmps70
   go_wp2_with (first
    | (refine wpList_store_row rfl 74 (.tmp 2) (.tmp 17) rfl w.heap.size zObj rfl rfl _ _ hz0 hsz rfl hone ?_))
   refine bodyPost_ret (zAe rfl _ _ w.heap.size _ _ _ _ rfl (setRow_heap _ _ _ _ _ _ hz0) Tryz.underlying74 rfl hsz) rfl ⟨rfl,zAa b0 (Nat.le_refl _) _⟩
  ·match s,h1,hs with
   | c::q,h1,hs=>
     simp only [List.length_cons] at h1 hs
     have i1:(4096:Int)<(q.length:Int)+1:=by omega
     go_enter Tryz.func70,Tryz.ntmps70
     go_wp2_with (first
      | (refine wpList_store_row rfl 74 (.tmp 2) (.tmp 17) rfl w.heap.size zObj rfl rfl _ _ hz0 hsz rfl hone ?_))
     refine bodyPost_ret (zAe rfl _ _ w.heap.size _ _ _ _ rfl (setRow_heap _ _ _ _ _ _ hz0) Tryz.underlying74 rfl hsz) rfl ⟨rfl,zAa b0 (Nat.le_refl _) _⟩
 ·match s,h1,hs,h with
  | [],h1,_,_=>exact absurd (.inl rfl) h1
  | c::q,h1,hs,h=>
    simp only [List.length_cons,List.drop_succ_cons,List.drop_zero,reduceCtorEq,false_or] at h1 hs h
    have hex:(B (c::q)).extract 1 (q.length+1)=B q:=by
     rw [zAR]
     simp
    have i1 : ¬ (4096:Int)<((q.length:Int)+1):=by omega
    have ht:=zDN q (by omega) W0
    rcases h with h | h | ⟨t,c2,q2,h⟩
    ·omega
    ·rw [zCQ h] at ht
     have ht:=Lib.hid ht
     clear h h1
     go_enter Tryz.func70,Tryz.ntmps70
     go_wp2_with (first
      | ((with_reducible refine ht.out.mono ?_);rintro e w1 ⟨rfl,nq,rfl⟩
         have hz1:=hz0.drewN nq)
      | (refine wpList_store_row rfl 74 (.tmp 2) (.tmp 31) rfl w.heap.size zObj rfl rfl _ _ hz1 hsz rfl hone ?_))
     refine bodyPost_ret (zAe rfl _ _ w.heap.size _ _ _ _ rfl (setRow_heap _ _ _ _ _ _ hz1) Tryz.underlying74 rfl hsz) rfl ⟨rfl,zAa (bdrewN b0 nq) (Nat.le_refl _) _⟩
    ·rw [zCb h] at ht
     have ht:=Lib.hid ht
     clear h h1
     go_enter Tryz.func70,Tryz.ntmps70
     go_wp2_with (first
      | ((with_reducible refine ht.out.mono ?_);rintro e w1 ⟨rfl,nq,rfl⟩
         have hz1:=hz0.drewN nq)
      | (refine wpList_store_row rfl 74 (.tmp 2) (.tmp 31) rfl w.heap.size zObj rfl rfl _ _ hz1 hsz rfl hone ?_))
     refine bodyPost_ret (zAe rfl _ _ w.heap.size _ _ _ _ rfl (setRow_heap _ _ _ _ _ _ hz1) Tryz.underlying74 rfl hsz) rfl ⟨rfl,zAa (bdrewN b0 nq) (Nat.le_refl _) _⟩
set_option maxRecDepth 100000 in
set_option maxHeartbeats 4000000 in
theorem decode_yes (c:UInt8) (q t:Txt) (hs:q.length≤4095) (h:takeP q=some (t,[])) (w:World) :
 Calls Tryz.prog 70 #[.string (B (c::q))] w fun e w'=>DecR (decO (c::q)) w.heap.size w' e∧Below w.heap.size w w':=by
 have hzv:=zeroObj
 obtain ⟨W0,hW0⟩ : ∃ W0,w.alloc (.cells zObj 74)=W0:=⟨_,rfl⟩
 have hz0:Blk W0 w.heap.size 74 zObj:=by rw [←hW0];exact Blk.new _ _ _
 have b0:Below w.heap.size w W0:=by rw [←hW0];exact (Below.refl _ _).alloc (Nat.le_refl _) _
 have hrb:=fun W=>run_build (P:=Tryz.prog) W _ _ _ zBL
 have hone:=zCR
 have hsz:=zEr
 have hex:(B (c::q)).extract 1 (q.length+1)=B q:=by
  rw [zAR]
  simp
 have i1 : ¬ (4096:Int)<((q.length:Int)+1):=by omega
 have hlt:t.length≤100000:=by
  have:=zCh h
  rw [this] at hs
  unfold textE at hs
  simp only [List.length_append] at hs
  omega
 have ht:=zDN q (by omega) W0
 rw [zCb h] at ht
 have ht:=Lib.hid ht
 have hdec:Hid (decO (c::q)=if (readO c.toNat (t,false)).2.2=true∨(readO c.toNat (t,false)).2.1≠[]∨mayB (readO c.toNat (t,false)).1=false then none else some (readO c.toNat (t,false)).1):=by
  show _=_
  unfold decO
  simp only [h]
  rw [if_neg (by simp only [List.length_cons];omega),if_neg (by simp)]
 have hk256:c.toNat<256:=c.toNat_lt
 have hc0:0≤(c.toNat:Int):=by omega
 have hc1:(c.toNat:Int)<256:=by omega
 have hrok:=readO_ok c.toNat hk256 (t,false) hlt
 have hbd:=zBp (c.toNat:Int)
 have hbr:=built_rd t
 have e72:(objC ⟨c.toNat,[],[],noId,[],0,[],noId,0,[]⟩ (.slice none 0 0) (.slice none 0 0)).toArray.size=72:=by rw [List.size_toArray];unfold objC;simp only [List.length_cons,List.length_append,u8s_len,zAc,List.length_nil]
 have eone:(objC ⟨c.toNat,[],[],noId,[],0,[],noId,0,[]⟩ (.slice none 0 0) (.slice none 0 0)).toArray.all (·.oneCell')=true:=by kernel_rfl
 obtain ⟨D,hD⟩ : ∃ D,Hid (decO (c::q)=D):=⟨_,Lib.hid rfl⟩
 rw [hD.out] at hdec ⊢
 have hread:Hid (∀ W gO gR,gO≠gR→ObjB W gO (nObj c.toNat) (.slice none 0 0) (.slice none 0 0)→RdB W gR (t,false)→Calls Tryz.prog (if c.toNat=2 then 107 else if c.toNat=3 then 108 else if c.toNat=4 then 109 else 106) #[.pointer (some ⟨gR,0,none⟩), .pointer (some ⟨gO,0,none⟩)] W fun e w'=>e = .returned (.tuple #[])∧Did W gO gR W.heap.size (readO c.toNat (t,false)) w'):=fun W gO gR hne hO hR=>by
  unfold readO
  split
  ·exact tree_calls c.toNat (t,false) hlt gO gR hne W hO hR
  ·split
   ·exact commit_calls c.toNat (t,false) hlt gO gR hne W hO hR
   ·split
    ·exact tag_calls c.toNat (t,false) hlt gO gR hne W hO hR
    ·exact blob_calls c.toNat (t,false) hlt gO gR hne W hO hR
 generalize hX:readO c.toNat (t,false)=X at *
 clear hX h
 go_enter Tryz.func70,Tryz.ntmps70
 go_upto_region 9 with (first
  | ((with_reducible refine ht.out.mono ?_);rintro e w1 ⟨rfl,nq,rfl⟩
     have hz1:=hz0.drewN nq
     have b1:=bdrewN b0 nq
     clear ht)
  | ((with_reducible refine zA6 hbd ?_ ?_);rfl)
  | ((with_reducible refine zA6 hbr ?_ ?_);rfl)
  | ((with_reducible refine lit_new 74 (.tmp 7) (.tmp 35) (objC ⟨c.toNat,[],[],noId,[],0,[],noId,0,[]⟩ (.slice none 0 0) (.slice none 0 0)).toArray 72 szObj e72 eone _ ?_ ?_ ?_ ?_);rfl;rfl;rfl;intro W2 hb2 hbl2
     have hz2:=hz1.below hbl2 hz1.lt
     have b2:=bthen b1 b1.size hbl2
     clear hz1 b1))
 have hO2:ObjB W2 W0.heap.size (nObj c.toNat) (.slice none 0 0) (.slice none 0 0):=⟨hb2,zAc,zAc⟩
 obtain ⟨W3,hW3⟩ : ∃ W3,W2.alloc (.cells #[.string (B t), .bool false] 203)=W3:=⟨_,rfl⟩
 have hR3:RdB W3 W2.heap.size (t,false):=by rw [←hW3];exact Blk.new _ _ _
 have hb3:Below W2.heap.size W2 W3:=by rw [←hW3];exact (Below.refl _ _).alloc (Nat.le_refl _) _
 have hO3:=hO2.below hb3
 have hz3:=hz2.below hb3 hz2.lt
 have b3:=bthen b2 b2.size hb3
 have hb2:Blk W2 W0.heap.size 74 _:=hb2
 have hne:W0.heap.size≠W2.heap.size:=by have:=hb2.lt;omega
 have hsO:w.heap.size<W0.heap.size:=by rw [←hW0];simp
 have hsR:w.heap.size<W2.heap.size:=by have:=hb2.lt;omega
 have hrd:=hread.out W3 _ _ hne hO3 hR3
 have ck:W3.cell? ⟨W0.heap.size,0,none⟩=some (.int .i64 c.toNat):=hO3.kind
 clear hO2 hb2 hz2 b2 hb3 hread hO3 hR3
 rw [hW3]
 clear hW3 hW0 hz0 b0
 generalize W2.heap.size=gR at *
 generalize W0.heap.size=gO at *
 clear ht hbd hbr e72 eone
 have hXk : ∀ W ve vp,ObjB W gO X.1 ve vp→(ldvO ⟨gO,0,none⟩).run Tryz.prog W = .ok (.agg (objC X.1 ve vp).toArray) W:=fun W ve vp h=>zAU h hrok
 have hzlt:w.heap.size<W3.heap.size:=hz3.lt
 have hgz:some w.heap.size ∉ [some gO,some gR]:=by simp;omega
 have hgB : ∀ k,some k∈[some gO,some gR]→w.heap.size≤k:=fun k hk=>by simp at hk;omega
 have hszB:w.heap.size≤W3.heap.size:=Nat.le_of_lt hzlt
 by_cases k2:c.toNat=2
 ·have e2:((c.toNat:Int)==2)=true:=by simp;omega
  rw [if_pos k2] at hrd
  have hrd:=Lib.hid hrd
  clear k2 hne
  by_cases hb1:X.2.2=true
  ·have hDn:Hid (D=none):=by show _=_;rw [hdec.out,if_pos (.inl hb1)]
   clear hdec hD
   go_wp2_with (first
    | ((with_reducible refine hrd.out.mono ?_);rintro e w4 ⟨rfl,ve,vp,hbe⟩
       have c0:=hbe.rd.c0
       have c1:=hbe.rd.c1
       obtain ⟨A1,A2,n1,n2,rfl,rfl,hv⟩:=Did.val hbe hrok
       have hq4:=hXk w4 _ _ hbe.obj
       have hz4:=hbe.far.blk hz3 hgz
       have b4:=b3.trans (hbe.far.below (B:=w.heap.size) hszB hgB)
       rw [hb1] at c1
       clear hq4 hv c0 hb1
       clear hrd hbe)
    | (refine wpList_store_row rfl 74 (.tmp 2) (.tmp 66) rfl w.heap.size zObj rfl rfl _ _ hz4 hsz rfl hone ?_))
   refine bodyPost_ret (zAe rfl _ _ w.heap.size _ _ _ _ rfl (setRow_heap _ _ _ _ _ _ hz4) Tryz.underlying74 rfl hsz) rfl ⟨by rw [hDn.out];rfl,zAa b4 (Nat.le_refl _) _⟩
  ·by_cases hb2:X.2.1=[]
   ·cases hM:mayB X.1 with
    | false=>
      have hDn:Hid (D=none):=by show _=_;rw [hdec.out,if_pos (.inr (.inr hM))]
      clear hdec hD
      have hb1:X.2.2=false:=by simpa using hb1
      go_wp2_with (first
       | ((with_reducible refine hrd.out.mono ?_);rintro e w4 ⟨rfl,ve,vp,hbe⟩
          have c0:=hbe.rd.c0
          have c1:=hbe.rd.c1
          obtain ⟨A1,A2,n1,n2,rfl,rfl,hv⟩:=Did.val hbe hrok
          have hq4:=hXk w4 _ _ hbe.obj
          have hz4:=hbe.far.blk hz3 hgz
          have b4:=b3.trans (hbe.far.below (B:=w.heap.size) hszB hgB)
          rw [hb1] at c1
          rw [hb2] at c0
          have hmay:=zBA X.1 A1 A2 n1 n2 w4 hv
          rw [hM] at hmay
          have hmay:=Lib.hid hmay
          clear hv hb1 hb2 hM
          clear hrd hbe)
       | ((with_reducible refine hmay.out.mono ?_);rintro e w5 ⟨rfl,hb5⟩
          have hz5:=hz4.below hb5 hz4.lt
          have b5:=bthen b4 b4.size hb5
          skip
          clear hmay)
       | (refine wpList_store_row rfl 74 (.tmp 2) (.tmp 66) rfl w.heap.size zObj rfl rfl _ _ hz5 hsz rfl hone ?_))
      refine bodyPost_ret (zAe rfl _ _ w.heap.size _ _ _ _ rfl (setRow_heap _ _ _ _ _ _ hz5) Tryz.underlying74 rfl hsz) rfl ⟨by rw [hDn.out];rfl,zAa b5 (Nat.le_refl _) _⟩
    | true=>
      have hDn:Hid (D=some X.1):=by
       show _=_
       rw [hdec.out,if_neg]
       rintro (h | h | h)
       ·exact hb1 h
       ·exact h hb2
       ·rw [hM] at h;cases h
      clear hdec hD
      have hb1:X.2.2=false:=by simpa using hb1
      go_wp2_with (first
       | ((with_reducible refine hrd.out.mono ?_);rintro e w4 ⟨rfl,ve,vp,hbe⟩
          have c0:=hbe.rd.c0
          have c1:=hbe.rd.c1
          obtain ⟨A1,A2,n1,n2,rfl,rfl,hv⟩:=Did.val hbe hrok
          have hq4:=hXk w4 _ _ hbe.obj
          have hz4:=hbe.far.blk hz3 hgz
          have b4:=b3.trans (hbe.far.below (B:=w.heap.size) hszB hgB)
          rw [hb1] at c1
          rw [hb2] at c0
          have hmay:=zBA X.1 A1 A2 n1 n2 w4 hv
          rw [hM] at hmay
          have hmay:=Lib.hid hmay
          have hO4:=hbe.obj
          have hoe:=hbe.ents
          have hop:=hbe.pars
          have hc72:(objC X.1 (.slice A1 X.1.ents.length n1) (.slice A2 X.1.pars.length n2)).toArray.size=72:=by rw [List.size_toArray,zAC hrok]
          have hcone:=zAz X.1 A1 A2 X.1.ents.length n1 X.1.pars.length n2
          clear hb1 hb2 hM
          clear hrd hbe)
       | ((with_reducible refine hmay.out.mono ?_);rintro e w5 ⟨rfl,hb5⟩
          have hz5:=hz4.below hb5 hz4.lt
          have b5:=bthen b4 b4.size hb5
          have hO5:=hO4.below hb5
          have hoe5:=zAf hoe hb5
          have hop5:=zAf hop hb5
          have hv5:=hv.below hb5
          have hq5:=hXk w5 _ _ hO5
          generalize hcs:(objC X.1 (.slice A1 X.1.ents.length n1) (.slice A2 X.1.pars.length n2)).toArray=cs at *
          have HCS:=Lib.hid hcs
          clear hcs hq4
          clear hmay)
       | (refine wpList_store_row rfl 74 (.tmp 2) (.tmp 67) rfl w.heap.size cs rfl rfl _ _ hz5 (by rw [hc72];exact szObj) (by rw [hc72];rfl) hcone ?_))
      refine bodyPost_ret (zAe rfl _ _ w.heap.size _ _ _ _ rfl (setRow_heap _ _ _ _ _ _ hz5) Tryz.underlying74 rfl (by rw [hc72];exact szObj)) rfl ⟨?_,zAa b5 (Nat.le_refl _) _⟩
      rw [hDn.out]
      exact ⟨A1,A2,n1,n2,by rw [HCS.out];rfl,zCC hrok hoe5 hop5 hzlt _,zAE (own_row hoe5 hzlt _) (Nat.le_of_lt hzlt),zAE (own_row hop5 hzlt _) (Nat.le_of_lt hzlt)⟩
   ·have hDn:Hid (D=none):=by show _=_;rw [hdec.out,if_pos (.inr (.inl hb2))]
    clear hdec hD
    have hb1:X.2.2=false:=by simpa using hb1
    obtain ⟨x,xs,hx⟩ : ∃ x xs,X.2.1=x::xs:=by
     cases hq:X.2.1 with
     | nil=>exact absurd hq hb2
     | cons x xs=>exact ⟨x,xs,rfl⟩
    clear hb2
    go_wp2_with (first
     | ((with_reducible refine hrd.out.mono ?_);rintro e w4 ⟨rfl,ve,vp,hbe⟩
        have c0:=hbe.rd.c0
        have c1:=hbe.rd.c1
        obtain ⟨A1,A2,n1,n2,rfl,rfl,hv⟩:=Did.val hbe hrok
        have hq4:=hXk w4 _ _ hbe.obj
        have hz4:=hbe.far.blk hz3 hgz
        have b4:=b3.trans (hbe.far.below (B:=w.heap.size) hszB hgB)
        rw [hb1] at c1
        rw [hx] at c0
        clear hq4 hv hb1 hx
        clear hrd hbe)
     | (refine wpList_store_row rfl 74 (.tmp 2) (.tmp 66) rfl w.heap.size zObj rfl rfl _ _ hz4 hsz rfl hone ?_))
    refine bodyPost_ret (zAe rfl _ _ w.heap.size _ _ _ _ rfl (setRow_heap _ _ _ _ _ _ hz4) Tryz.underlying74 rfl hsz) rfl ⟨by rw [hDn.out];rfl,zAa b4 (Nat.le_refl _) _⟩
 ·have e2:((c.toNat:Int)==2)=false:=by simp;omega
  rw [if_neg k2] at hrd
  by_cases k3:c.toNat=3
  ·have e3:((c.toNat:Int)==3)=true:=by simp;omega
   rw [if_pos k3] at hrd
   have hrd:=Lib.hid hrd
   clear k2 k3 hne
   by_cases hb1:X.2.2=true
   ·have hDn:Hid (D=none):=by show _=_;rw [hdec.out,if_pos (.inl hb1)]
    clear hdec hD
    go_wp2_with (first
     | ((with_reducible refine hrd.out.mono ?_);rintro e w4 ⟨rfl,ve,vp,hbe⟩
        have c0:=hbe.rd.c0
        have c1:=hbe.rd.c1
        obtain ⟨A1,A2,n1,n2,rfl,rfl,hv⟩:=Did.val hbe hrok
        have hq4:=hXk w4 _ _ hbe.obj
        have hz4:=hbe.far.blk hz3 hgz
        have b4:=b3.trans (hbe.far.below (B:=w.heap.size) hszB hgB)
        rw [hb1] at c1
        clear hq4 hv c0 hb1
        clear hrd hbe)
     | (refine wpList_store_row rfl 74 (.tmp 2) (.tmp 66) rfl w.heap.size zObj rfl rfl _ _ hz4 hsz rfl hone ?_))
    refine bodyPost_ret (zAe rfl _ _ w.heap.size _ _ _ _ rfl (setRow_heap _ _ _ _ _ _ hz4) Tryz.underlying74 rfl hsz) rfl ⟨by rw [hDn.out];rfl,zAa b4 (Nat.le_refl _) _⟩
   ·by_cases hb2:X.2.1=[]
    ·cases hM:mayB X.1 with
     | false=>
       have hDn:Hid (D=none):=by show _=_;rw [hdec.out,if_pos (.inr (.inr hM))]
       clear hdec hD
       have hb1:X.2.2=false:=by simpa using hb1
       go_wp2_with (first
        | ((with_reducible refine hrd.out.mono ?_);rintro e w4 ⟨rfl,ve,vp,hbe⟩
           have c0:=hbe.rd.c0
           have c1:=hbe.rd.c1
           obtain ⟨A1,A2,n1,n2,rfl,rfl,hv⟩:=Did.val hbe hrok
           have hq4:=hXk w4 _ _ hbe.obj
           have hz4:=hbe.far.blk hz3 hgz
           have b4:=b3.trans (hbe.far.below (B:=w.heap.size) hszB hgB)
           rw [hb1] at c1
           rw [hb2] at c0
           have hmay:=zBA X.1 A1 A2 n1 n2 w4 hv
           rw [hM] at hmay
           have hmay:=Lib.hid hmay
           clear hv hb1 hb2 hM
           clear hrd hbe)
        | ((with_reducible refine hmay.out.mono ?_);rintro e w5 ⟨rfl,hb5⟩
           have hz5:=hz4.below hb5 hz4.lt
           have b5:=bthen b4 b4.size hb5
           skip
           clear hmay)
        | (refine wpList_store_row rfl 74 (.tmp 2) (.tmp 66) rfl w.heap.size zObj rfl rfl _ _ hz5 hsz rfl hone ?_))
       refine bodyPost_ret (zAe rfl _ _ w.heap.size _ _ _ _ rfl (setRow_heap _ _ _ _ _ _ hz5) Tryz.underlying74 rfl hsz) rfl ⟨by rw [hDn.out];rfl,zAa b5 (Nat.le_refl _) _⟩
     | true=>
       have hDn:Hid (D=some X.1):=by
        show _=_
        rw [hdec.out,if_neg]
        rintro (h | h | h)
        ·exact hb1 h
        ·exact h hb2
        ·rw [hM] at h;cases h
       clear hdec hD
       have hb1:X.2.2=false:=by simpa using hb1
       go_wp2_with (first
        | ((with_reducible refine hrd.out.mono ?_);rintro e w4 ⟨rfl,ve,vp,hbe⟩
           have c0:=hbe.rd.c0
           have c1:=hbe.rd.c1
           obtain ⟨A1,A2,n1,n2,rfl,rfl,hv⟩:=Did.val hbe hrok
           have hq4:=hXk w4 _ _ hbe.obj
           have hz4:=hbe.far.blk hz3 hgz
           have b4:=b3.trans (hbe.far.below (B:=w.heap.size) hszB hgB)
           rw [hb1] at c1
           rw [hb2] at c0
           have hmay:=zBA X.1 A1 A2 n1 n2 w4 hv
           rw [hM] at hmay
           have hmay:=Lib.hid hmay
           have hO4:=hbe.obj
           have hoe:=hbe.ents
           have hop:=hbe.pars
           have hc72:(objC X.1 (.slice A1 X.1.ents.length n1) (.slice A2 X.1.pars.length n2)).toArray.size=72:=by rw [List.size_toArray,zAC hrok]
           have hcone:=zAz X.1 A1 A2 X.1.ents.length n1 X.1.pars.length n2
           clear hb1 hb2 hM
           clear hrd hbe)
        | ((with_reducible refine hmay.out.mono ?_);rintro e w5 ⟨rfl,hb5⟩
           have hz5:=hz4.below hb5 hz4.lt
           have b5:=bthen b4 b4.size hb5
           have hO5:=hO4.below hb5
           have hoe5:=zAf hoe hb5
           have hop5:=zAf hop hb5
           have hv5:=hv.below hb5
           have hq5:=hXk w5 _ _ hO5
           generalize hcs:(objC X.1 (.slice A1 X.1.ents.length n1) (.slice A2 X.1.pars.length n2)).toArray=cs at *
           have HCS:=Lib.hid hcs
           clear hcs hq4
           clear hmay)
        | (refine wpList_store_row rfl 74 (.tmp 2) (.tmp 67) rfl w.heap.size cs rfl rfl _ _ hz5 (by rw [hc72];exact szObj) (by rw [hc72];rfl) hcone ?_))
       refine bodyPost_ret (zAe rfl _ _ w.heap.size _ _ _ _ rfl (setRow_heap _ _ _ _ _ _ hz5) Tryz.underlying74 rfl (by rw [hc72];exact szObj)) rfl ⟨?_,zAa b5 (Nat.le_refl _) _⟩
       rw [hDn.out]
       exact ⟨A1,A2,n1,n2,by rw [HCS.out];rfl,zCC hrok hoe5 hop5 hzlt _,zAE (own_row hoe5 hzlt _) (Nat.le_of_lt hzlt),zAE (own_row hop5 hzlt _) (Nat.le_of_lt hzlt)⟩
    ·have hDn:Hid (D=none):=by show _=_;rw [hdec.out,if_pos (.inr (.inl hb2))]
     clear hdec hD
     have hb1:X.2.2=false:=by simpa using hb1
     obtain ⟨x,xs,hx⟩ : ∃ x xs,X.2.1=x::xs:=by
      cases hq:X.2.1 with
      | nil=>exact absurd hq hb2
      | cons x xs=>exact ⟨x,xs,rfl⟩
     clear hb2
     go_wp2_with (first
      | ((with_reducible refine hrd.out.mono ?_);rintro e w4 ⟨rfl,ve,vp,hbe⟩
         have c0:=hbe.rd.c0
         have c1:=hbe.rd.c1
         obtain ⟨A1,A2,n1,n2,rfl,rfl,hv⟩:=Did.val hbe hrok
         have hq4:=hXk w4 _ _ hbe.obj
         have hz4:=hbe.far.blk hz3 hgz
         have b4:=b3.trans (hbe.far.below (B:=w.heap.size) hszB hgB)
         rw [hb1] at c1
         rw [hx] at c0
         clear hq4 hv hb1 hx
         clear hrd hbe)
      | (refine wpList_store_row rfl 74 (.tmp 2) (.tmp 66) rfl w.heap.size zObj rfl rfl _ _ hz4 hsz rfl hone ?_))
     refine bodyPost_ret (zAe rfl _ _ w.heap.size _ _ _ _ rfl (setRow_heap _ _ _ _ _ _ hz4) Tryz.underlying74 rfl hsz) rfl ⟨by rw [hDn.out];rfl,zAa b4 (Nat.le_refl _) _⟩
  ·have e3:((c.toNat:Int)==3)=false:=by simp;omega
   rw [if_neg k3] at hrd
   by_cases k4:c.toNat=4
   ·have e4:((c.toNat:Int)==4)=true:=by simp;omega
    rw [if_pos k4] at hrd
    have hrd:=Lib.hid hrd
    clear k2 k3 k4 hne
    by_cases hb1:X.2.2=true
    ·have hDn:Hid (D=none):=by show _=_;rw [hdec.out,if_pos (.inl hb1)]
     clear hdec hD
     go_wp2_with (first
      | ((with_reducible refine hrd.out.mono ?_);rintro e w4 ⟨rfl,ve,vp,hbe⟩
         have c0:=hbe.rd.c0
         have c1:=hbe.rd.c1
         obtain ⟨A1,A2,n1,n2,rfl,rfl,hv⟩:=Did.val hbe hrok
         have hq4:=hXk w4 _ _ hbe.obj
         have hz4:=hbe.far.blk hz3 hgz
         have b4:=b3.trans (hbe.far.below (B:=w.heap.size) hszB hgB)
         rw [hb1] at c1
         clear hq4 hv c0 hb1
         clear hrd hbe)
      | (refine wpList_store_row rfl 74 (.tmp 2) (.tmp 66) rfl w.heap.size zObj rfl rfl _ _ hz4 hsz rfl hone ?_))
     refine bodyPost_ret (zAe rfl _ _ w.heap.size _ _ _ _ rfl (setRow_heap _ _ _ _ _ _ hz4) Tryz.underlying74 rfl hsz) rfl ⟨by rw [hDn.out];rfl,zAa b4 (Nat.le_refl _) _⟩
    ·by_cases hb2:X.2.1=[]
     ·cases hM:mayB X.1 with
      | false=>
        have hDn:Hid (D=none):=by show _=_;rw [hdec.out,if_pos (.inr (.inr hM))]
        clear hdec hD
        have hb1:X.2.2=false:=by simpa using hb1
        go_wp2_with (first
         | ((with_reducible refine hrd.out.mono ?_);rintro e w4 ⟨rfl,ve,vp,hbe⟩
            have c0:=hbe.rd.c0
            have c1:=hbe.rd.c1
            obtain ⟨A1,A2,n1,n2,rfl,rfl,hv⟩:=Did.val hbe hrok
            have hq4:=hXk w4 _ _ hbe.obj
            have hz4:=hbe.far.blk hz3 hgz
            have b4:=b3.trans (hbe.far.below (B:=w.heap.size) hszB hgB)
            rw [hb1] at c1
            rw [hb2] at c0
            have hmay:=zBA X.1 A1 A2 n1 n2 w4 hv
            rw [hM] at hmay
            have hmay:=Lib.hid hmay
            clear hv hb1 hb2 hM
            clear hrd hbe)
         | ((with_reducible refine hmay.out.mono ?_);rintro e w5 ⟨rfl,hb5⟩
            have hz5:=hz4.below hb5 hz4.lt
            have b5:=bthen b4 b4.size hb5
            skip
            clear hmay)
         | (refine wpList_store_row rfl 74 (.tmp 2) (.tmp 66) rfl w.heap.size zObj rfl rfl _ _ hz5 hsz rfl hone ?_))
        refine bodyPost_ret (zAe rfl _ _ w.heap.size _ _ _ _ rfl (setRow_heap _ _ _ _ _ _ hz5) Tryz.underlying74 rfl hsz) rfl ⟨by rw [hDn.out];rfl,zAa b5 (Nat.le_refl _) _⟩
      | true=>
        have hDn:Hid (D=some X.1):=by
         show _=_
         rw [hdec.out,if_neg]
         rintro (h | h | h)
         ·exact hb1 h
         ·exact h hb2
         ·rw [hM] at h;cases h
        clear hdec hD
        have hb1:X.2.2=false:=by simpa using hb1
        go_wp2_with (first
         | ((with_reducible refine hrd.out.mono ?_);rintro e w4 ⟨rfl,ve,vp,hbe⟩
            have c0:=hbe.rd.c0
            have c1:=hbe.rd.c1
            obtain ⟨A1,A2,n1,n2,rfl,rfl,hv⟩:=Did.val hbe hrok
            have hq4:=hXk w4 _ _ hbe.obj
            have hz4:=hbe.far.blk hz3 hgz
            have b4:=b3.trans (hbe.far.below (B:=w.heap.size) hszB hgB)
            rw [hb1] at c1
            rw [hb2] at c0
            have hmay:=zBA X.1 A1 A2 n1 n2 w4 hv
            rw [hM] at hmay
            have hmay:=Lib.hid hmay
            have hO4:=hbe.obj
            have hoe:=hbe.ents
            have hop:=hbe.pars
            have hc72:(objC X.1 (.slice A1 X.1.ents.length n1) (.slice A2 X.1.pars.length n2)).toArray.size=72:=by rw [List.size_toArray,zAC hrok]
            have hcone:=zAz X.1 A1 A2 X.1.ents.length n1 X.1.pars.length n2
            clear hb1 hb2 hM
            clear hrd hbe)
         | ((with_reducible refine hmay.out.mono ?_);rintro e w5 ⟨rfl,hb5⟩
            have hz5:=hz4.below hb5 hz4.lt
            have b5:=bthen b4 b4.size hb5
            have hO5:=hO4.below hb5
            have hoe5:=zAf hoe hb5
            have hop5:=zAf hop hb5
            have hv5:=hv.below hb5
            have hq5:=hXk w5 _ _ hO5
            generalize hcs:(objC X.1 (.slice A1 X.1.ents.length n1) (.slice A2 X.1.pars.length n2)).toArray=cs at *
            have HCS:=Lib.hid hcs
            clear hcs hq4
            clear hmay)
         | (refine wpList_store_row rfl 74 (.tmp 2) (.tmp 67) rfl w.heap.size cs rfl rfl _ _ hz5 (by rw [hc72];exact szObj) (by rw [hc72];rfl) hcone ?_))
        refine bodyPost_ret (zAe rfl _ _ w.heap.size _ _ _ _ rfl (setRow_heap _ _ _ _ _ _ hz5) Tryz.underlying74 rfl (by rw [hc72];exact szObj)) rfl ⟨?_,zAa b5 (Nat.le_refl _) _⟩
        rw [hDn.out]
        exact ⟨A1,A2,n1,n2,by rw [HCS.out];rfl,zCC hrok hoe5 hop5 hzlt _,zAE (own_row hoe5 hzlt _) (Nat.le_of_lt hzlt),zAE (own_row hop5 hzlt _) (Nat.le_of_lt hzlt)⟩
     ·have hDn:Hid (D=none):=by show _=_;rw [hdec.out,if_pos (.inr (.inl hb2))]
      clear hdec hD
      have hb1:X.2.2=false:=by simpa using hb1
      obtain ⟨x,xs,hx⟩ : ∃ x xs,X.2.1=x::xs:=by
       cases hq:X.2.1 with
       | nil=>exact absurd hq hb2
       | cons x xs=>exact ⟨x,xs,rfl⟩
      clear hb2
      go_wp2_with (first
       | ((with_reducible refine hrd.out.mono ?_);rintro e w4 ⟨rfl,ve,vp,hbe⟩
          have c0:=hbe.rd.c0
          have c1:=hbe.rd.c1
          obtain ⟨A1,A2,n1,n2,rfl,rfl,hv⟩:=Did.val hbe hrok
          have hq4:=hXk w4 _ _ hbe.obj
          have hz4:=hbe.far.blk hz3 hgz
          have b4:=b3.trans (hbe.far.below (B:=w.heap.size) hszB hgB)
          rw [hb1] at c1
          rw [hx] at c0
          clear hq4 hv hb1 hx
          clear hrd hbe)
       | (refine wpList_store_row rfl 74 (.tmp 2) (.tmp 66) rfl w.heap.size zObj rfl rfl _ _ hz4 hsz rfl hone ?_))
      refine bodyPost_ret (zAe rfl _ _ w.heap.size _ _ _ _ rfl (setRow_heap _ _ _ _ _ _ hz4) Tryz.underlying74 rfl hsz) rfl ⟨by rw [hDn.out];rfl,zAa b4 (Nat.le_refl _) _⟩
   ·have e4:((c.toNat:Int)==4)=false:=by simp;omega
    rw [if_neg k4] at hrd
    have hrd:=Lib.hid hrd
    clear k2 k3 k4 hne
    by_cases hb1:X.2.2=true
    ·have hDn:Hid (D=none):=by show _=_;rw [hdec.out,if_pos (.inl hb1)]
     clear hdec hD
     go_wp2_with (first
      | ((with_reducible refine hrd.out.mono ?_);rintro e w4 ⟨rfl,ve,vp,hbe⟩
         have c0:=hbe.rd.c0
         have c1:=hbe.rd.c1
         obtain ⟨A1,A2,n1,n2,rfl,rfl,hv⟩:=Did.val hbe hrok
         have hq4:=hXk w4 _ _ hbe.obj
         have hz4:=hbe.far.blk hz3 hgz
         have b4:=b3.trans (hbe.far.below (B:=w.heap.size) hszB hgB)
         rw [hb1] at c1
         clear hq4 hv c0 hb1
         clear hrd hbe)
      | (refine wpList_store_row rfl 74 (.tmp 2) (.tmp 66) rfl w.heap.size zObj rfl rfl _ _ hz4 hsz rfl hone ?_))
     refine bodyPost_ret (zAe rfl _ _ w.heap.size _ _ _ _ rfl (setRow_heap _ _ _ _ _ _ hz4) Tryz.underlying74 rfl hsz) rfl ⟨by rw [hDn.out];rfl,zAa b4 (Nat.le_refl _) _⟩
    ·by_cases hb2:X.2.1=[]
     ·cases hM:mayB X.1 with
      | false=>
        have hDn:Hid (D=none):=by show _=_;rw [hdec.out,if_pos (.inr (.inr hM))]
        clear hdec hD
        have hb1:X.2.2=false:=by simpa using hb1
        go_wp2_with (first
         | ((with_reducible refine hrd.out.mono ?_);rintro e w4 ⟨rfl,ve,vp,hbe⟩
            have c0:=hbe.rd.c0
            have c1:=hbe.rd.c1
            obtain ⟨A1,A2,n1,n2,rfl,rfl,hv⟩:=Did.val hbe hrok
            have hq4:=hXk w4 _ _ hbe.obj
            have hz4:=hbe.far.blk hz3 hgz
            have b4:=b3.trans (hbe.far.below (B:=w.heap.size) hszB hgB)
            rw [hb1] at c1
            rw [hb2] at c0
            have hmay:=zBA X.1 A1 A2 n1 n2 w4 hv
            rw [hM] at hmay
            have hmay:=Lib.hid hmay
            clear hv hb1 hb2 hM
            clear hrd hbe)
         | ((with_reducible refine hmay.out.mono ?_);rintro e w5 ⟨rfl,hb5⟩
            have hz5:=hz4.below hb5 hz4.lt
            have b5:=bthen b4 b4.size hb5
            skip
            clear hmay)
         | (refine wpList_store_row rfl 74 (.tmp 2) (.tmp 66) rfl w.heap.size zObj rfl rfl _ _ hz5 hsz rfl hone ?_))
        refine bodyPost_ret (zAe rfl _ _ w.heap.size _ _ _ _ rfl (setRow_heap _ _ _ _ _ _ hz5) Tryz.underlying74 rfl hsz) rfl ⟨by rw [hDn.out];rfl,zAa b5 (Nat.le_refl _) _⟩
      | true=>
        have hDn:Hid (D=some X.1):=by
         show _=_
         rw [hdec.out,if_neg]
         rintro (h | h | h)
         ·exact hb1 h
         ·exact h hb2
         ·rw [hM] at h;cases h
        clear hdec hD
        have hb1:X.2.2=false:=by simpa using hb1
        go_wp2_with (first
         | ((with_reducible refine hrd.out.mono ?_);rintro e w4 ⟨rfl,ve,vp,hbe⟩
            have c0:=hbe.rd.c0
            have c1:=hbe.rd.c1
            obtain ⟨A1,A2,n1,n2,rfl,rfl,hv⟩:=Did.val hbe hrok
            have hq4:=hXk w4 _ _ hbe.obj
            have hz4:=hbe.far.blk hz3 hgz
            have b4:=b3.trans (hbe.far.below (B:=w.heap.size) hszB hgB)
            rw [hb1] at c1
            rw [hb2] at c0
            have hmay:=zBA X.1 A1 A2 n1 n2 w4 hv
            rw [hM] at hmay
            have hmay:=Lib.hid hmay
            have hO4:=hbe.obj
            have hoe:=hbe.ents
            have hop:=hbe.pars
            have hc72:(objC X.1 (.slice A1 X.1.ents.length n1) (.slice A2 X.1.pars.length n2)).toArray.size=72:=by rw [List.size_toArray,zAC hrok]
            have hcone:=zAz X.1 A1 A2 X.1.ents.length n1 X.1.pars.length n2
            clear hb1 hb2 hM
            clear hrd hbe)
         | ((with_reducible refine hmay.out.mono ?_);rintro e w5 ⟨rfl,hb5⟩
            have hz5:=hz4.below hb5 hz4.lt
            have b5:=bthen b4 b4.size hb5
            have hO5:=hO4.below hb5
            have hoe5:=zAf hoe hb5
            have hop5:=zAf hop hb5
            have hv5:=hv.below hb5
            have hq5:=hXk w5 _ _ hO5
            generalize hcs:(objC X.1 (.slice A1 X.1.ents.length n1) (.slice A2 X.1.pars.length n2)).toArray=cs at *
            have HCS:=Lib.hid hcs
            clear hcs hq4
            clear hmay)
         | (refine wpList_store_row rfl 74 (.tmp 2) (.tmp 67) rfl w.heap.size cs rfl rfl _ _ hz5 (by rw [hc72];exact szObj) (by rw [hc72];rfl) hcone ?_))
        refine bodyPost_ret (zAe rfl _ _ w.heap.size _ _ _ _ rfl (setRow_heap _ _ _ _ _ _ hz5) Tryz.underlying74 rfl (by rw [hc72];exact szObj)) rfl ⟨?_,zAa b5 (Nat.le_refl _) _⟩
        rw [hDn.out]
        exact ⟨A1,A2,n1,n2,by rw [HCS.out];rfl,zCC hrok hoe5 hop5 hzlt _,zAE (own_row hoe5 hzlt _) (Nat.le_of_lt hzlt),zAE (own_row hop5 hzlt _) (Nat.le_of_lt hzlt)⟩
     ·have hDn:Hid (D=none):=by show _=_;rw [hdec.out,if_pos (.inr (.inl hb2))]
      clear hdec hD
      have hb1:X.2.2=false:=by simpa using hb1
      obtain ⟨x,xs,hx⟩ : ∃ x xs,X.2.1=x::xs:=by
       cases hq:X.2.1 with
       | nil=>exact absurd hq hb2
       | cons x xs=>exact ⟨x,xs,rfl⟩
      clear hb2
      go_wp2_with (first
       | ((with_reducible refine hrd.out.mono ?_);rintro e w4 ⟨rfl,ve,vp,hbe⟩
          have c0:=hbe.rd.c0
          have c1:=hbe.rd.c1
          obtain ⟨A1,A2,n1,n2,rfl,rfl,hv⟩:=Did.val hbe hrok
          have hq4:=hXk w4 _ _ hbe.obj
          have hz4:=hbe.far.blk hz3 hgz
          have b4:=b3.trans (hbe.far.below (B:=w.heap.size) hszB hgB)
          rw [hb1] at c1
          rw [hx] at c0
          clear hq4 hv hb1 hx
          clear hrd hbe)
       | (refine wpList_store_row rfl 74 (.tmp 2) (.tmp 66) rfl w.heap.size zObj rfl rfl _ _ hz4 hsz rfl hone ?_))
      refine bodyPost_ret (zAe rfl _ _ w.heap.size _ _ _ _ rfl (setRow_heap _ _ _ _ _ _ hz4) Tryz.underlying74 rfl hsz) rfl ⟨by rw [hDn.out];rfl,zAa b4 (Nat.le_refl _) _⟩
end
theorem zDS (s:Txt) (hs:s.length≤4611686018427387904) (w:World):Calls Tryz.prog 70 #[.string (B s)] w fun e w'=>DecR (decO s) w.heap.size w' e∧Below w.heap.size w w':=by
 have hno:decO s=none→(s=[]∨4096<s.length∨takeP (s.drop 1)=none ∨ ∃ t c q,takeP (s.drop 1)=some (t,c::q))→Calls Tryz.prog 70 #[.string (B s)] w fun e w'=>DecR (decO s) w.heap.size w' e∧Below w.heap.size w w':=fun h1 h2=>by
  rw [h1]
  exact decode_no s hs h2 w
 match s,hs,hno with
 | [],hs,hno=>exact hno rfl (.inl rfl)
 | c::q,hs,hno=>
   by_cases h1:4096<(c::q).length
   ·exact hno (by unfold decO;simp only;rw [if_pos h1]) (.inr (.inl h1))
   ·cases ht:takeP q with
    | none=>exact hno (by unfold decO;simp only [ht];rw [if_neg h1]) (.inr (.inr (.inl ht)))
    | some p=>
      obtain ⟨t,b⟩:=p
      cases b with
      | nil=>exact decode_yes c q t (by simp only [List.length_cons] at h1;omega) ht w
      | cons x b=>exact hno (by unfold decO;simp only [ht];rw [if_neg h1,if_pos (by simp)]) (.inr (.inr (.inr ⟨t,x,b,ht⟩)))
section
def StoV (w:World) (v:Value) (s:List StL):Prop:=(v = .pointer none∧s=[]) ∨ ∃ B p vl,v = .pointer (some ⟨p,0,none⟩)∧StoAt w B p vl s
theorem StoV.below {w w':World} {v:Value} {s:List StL} (h:StoV w v s) (hb:Below w.heap.size w w'):StoV w' v s:=by
 rcases h with h | ⟨B,p,vl,e,h⟩
 ·exact .inl h
 ·exact .inr ⟨B,p,vl,e,h.below hb⟩
theorem StoV.form {w:World} {v:Value} {s:List StL} (h:StoV w v s) : ∃ a,v = .pointer a:=by
 rcases h with ⟨rfl,_⟩ | ⟨B,p,vl,rfl,_⟩<;>exact ⟨_,rfl⟩
theorem StoV.ok {w:World} {v:Value} {s:List StL} (h:StoV w v s):StoOk s:=by
 rcases h with ⟨_,rfl⟩ | ⟨B,p,vl,_,h⟩
 ·exact StoOk.nil
 ·exact h.ok
theorem stoGetV_calls {w:World} {v:Value} {s:List StL} (h:StoV w v s) (n:Txt) (hn:n.length=32) :
 Calls Tryz.prog 42 #[v, .agg (u8s n)] w fun e w'=>e = .returned (getV s n)∧Below w.heap.size w w':=by
 rcases h with ⟨rfl,rfl⟩ | ⟨B,p,vl,rfl,h⟩
 ·exact nilSGet_calls n hn w
 ·exact stoGet_calls h n hn
theorem decodeB_calls (s:Txt) (hs:s.length≤4611686018427387904) (w:World):Calls Tryz.prog 70 #[.string (B s)] w fun e w'=>(∃ cs:Array Value,e = .returned (.tuple #[.agg cs, .int .i64 (if (decO s).isSome then 0 else 2)])∧cs.size=72∧cs.all (·.oneCell')=true)∧Below w.heap.size w w':=by
 refine (zDS s hs w).mono fun e w' ⟨h,hb⟩=>⟨?_,hb⟩
 unfold DecR at h
 cases hd:decO s with
 | none=>
   rw [hd] at h
   exact ⟨_,h,zAu,zCR⟩
 | some o=>
   rw [hd] at h
   obtain ⟨A1,A2,k1,k2,he,hv,_⟩:=h
   exact ⟨_,he,by rw [List.size_toArray,zAC hv.ok],zAz o A1 A2 o.ents.length k1 o.pars.length k2⟩
structure SolB (w:World) (b g:Nat) (vs vt vc:Value) (ts:List Txt) (ns:List Nat):Prop where
 blk:Blk w g 106 #[vs,vt,vc]
 ot:OwnTxs w b vt ts
 oc:OwnNs w b 3 vc ns
 le:b≤g
abbrev SolAt (w:World) (b g:Nat) (vs vt vc:Value) (a:List Ahd):Prop:=SolB w b g vs vt vc (a.map (·.1)) (a.map (·.2))
section
variable {w w' w2:World} {b g:Nat} {vs vt vc v2:Value} {ts:List Txt} {ns:List Nat}
theorem SolB.below (h:SolB w b g vs vt vc ts ns) (hb:Below w.heap.size w w'):SolB w' b g vs vt vc ts ns:=⟨h.blk.below hb h.blk.lt,zAf h.ot hb,zAf h.oc hb,h.le⟩
theorem SolB.c0 (h:SolB w b g vs vt vc ts ns):w.cell? ⟨g,0,none⟩=some vs:=by rw [h.blk.cell];rfl
theorem SolB.c1 (h:SolB w b g vs vt vc ts ns):w.cell? ⟨g,1,none⟩=some vt:=by rw [h.blk.cell];rfl
theorem SolB.c2 (h:SolB w b g vs vt vc ts ns):w.cell? ⟨g,2,none⟩=some vc:=by rw [h.blk.cell];rfl
theorem SolB.fr (h:SolB w b g vs vt vc ts ns) (i:Nat):w.frozen? ⟨g,i,none⟩=false:=h.blk.frozen i
theorem solRow {i:Nat} {u v:Value} {e:TypeId} {k n:Nat} {xs:List Value} (ho:w.ownsRow b e k v n xs) (hg:some g≠v.ownBlock):(w.setCell ⟨g,i,none⟩ u).ownsRow b e k v n xs:=
 Far.own (S:=[some g]) ((Far.refl _ w).set_ (p:=⟨g,i,none⟩) (.inl (List.mem_singleton.2 rfl)) u) ho fun k hk hm=>hg ((List.mem_singleton.1 hm).symm.trans hk.symm)
theorem SolB.grown (h:SolB w b g vs vt vc ts ns) (hg:w.grownBy w2 vt.ownBlock):Blk w2 g 106 #[vs,vt,vc]∧OwnNs w2 b 3 vc ns:=
 ⟨h.blk.grown hg (zAD h.ot h.blk (by decide)),World.ownsRow.kept h.oc hg (zB8 h.oc h.ot (by decide))⟩
theorem SolB.txt (h:SolB w b g vs vt vc ts ns) (hg:w.grownBy w2 vt.ownBlock) {t:Txt} (ho:w2.ownsRow b 9 1 v2 (ts.length+1) (rowsOf txC ts++[.string (B t)])):SolB (w2.setCell ⟨g,1,none⟩ v2) b g vs v2 vc (ts++[t]) ns:=by
 obtain ⟨k1,k2⟩:=h.grown hg
 exact ⟨k1.set_ 1 _,OwnTxs.more (solRow ho (zAD ho k1 (by decide))),solRow k2 (zAD k2 k1 (by decide)),h.le⟩
theorem SolB.grownN (h:SolB w b g vs vt vc ts ns) (hg:w.grownBy w2 vc.ownBlock):Blk w2 g 106 #[vs,vt,vc]∧OwnTxs w2 b vt ts:=
 ⟨h.blk.grown hg (zAD h.oc h.blk (by decide)),World.ownsRow.kept h.ot hg (zB8 h.ot h.oc (by decide))⟩
theorem SolB.num (h:SolB w b g vs vt vc ts ns) (hg:w.grownBy w2 vc.ownBlock) {n:Nat} (ho:w2.ownsRow b 3 1 v2 (ns.length+1) (rowsOf natC ns++[.int .i64 n])):SolB (w2.setCell ⟨g,2,none⟩ v2) b g vs vt v2 ts (ns++[n]):=by
 obtain ⟨k1,k2⟩:=h.grownN hg
 refine ⟨k1.set_ 2 _,solRow k2 (zAD k2 k1 (by decide)),?_,h.le⟩
 unfold OwnNs
 rw [zAo,zAx,List.length_append]
 exact solRow ho (zAD ho k1 (by decide))
end
end
theorem zCu {fn:Func} {t u v x:Tmp} (h:fn.results = #[.tmp t, .tmp u, .tmp v, .tmp x]) (tmps:Array Value) (P:Program) (w:World) :
 (results fn tmps).run P w = .ok (.tuple #[tmps.getD t undef,tmps.getD u undef,tmps.getD v undef,tmps.getD x undef]) w:=by
 simp [results,h]
def headV : Option (Nat×Nat×Txt)→Value
 | some (h,s,r) => .tuple #[.int .u64 h, .int .u64 s, .string (B r), .int .i64 0]
 | none => .tuple #[.int .u64 0, .int .u64 0, .string (B []), .int .i64 2]
set_option maxRecDepth 100000 in
set_option maxHeartbeats 800000 in
theorem head_calls (d:Txt) (hl:d.length≤4611686018427387904) (w:World) :
 Calls Tryz.prog 115 #[.string (B d)] w fun e w'=>e = .returned (headV (headD d)) ∧ ∃ n,w'=w.drewN n:=by
 cases hg:get d with
 | none=>
   have hG:=Lib.hid hg
   have hR:=Lib.hid (headD_non hg)
   clear hg
   go_enter Tryz.func115,Tryz.ntmps115
   go_wp2_with (first
    | ((with_reducible refine (get_non hG.out hl _).mono ?_);rintro e w1 ⟨rfl,nq,rfl⟩))
   (try simp only [Exit.inBlock,Exit.then]);refine bodyPost_ret (zCu rfl _ _ _) rfl ?_
   exact ⟨by rw [hR.out];rfl,nq,rfl⟩
 | some p=>
   obtain ⟨n,k⟩:=p
   have hG:=Lib.hid hg
   have hlr:(d.drop k).length≤4611686018427387904:=by rw [List.length_drop];omega
   cases hg2:get (d.drop k) with
   | none=>
     have hG2:=Lib.hid hg2
     have hR:=Lib.hid (headD_non2 hg hg2)
     clear hg hg2
     go_enter Tryz.func115,Tryz.ntmps115
     go_wp2_with (first
      | ((with_reducible refine (zBd hG.out hl _).mono ?_);rintro e w1 ⟨rfl,nq,rfl⟩)
      | ((with_reducible refine (get_non hG2.out hlr _).mono ?_);rintro e w1 ⟨rfl,nr,rfl⟩))
     (try simp only [Exit.inBlock,Exit.then]);refine bodyPost_ret (zCu rfl _ _ _) rfl ?_
     exact ⟨by rw [hR.out];rfl,_,rfl⟩
   | some p=>
     obtain ⟨s,m⟩:=p
     have hG2:=Lib.hid hg2
     have hR0:=headD_yes hg hg2
     rw [List.drop_drop] at hR0
     have hR:=Lib.hid hR0
     clear hg hg2 hR0
     go_enter Tryz.func115,Tryz.ntmps115
     go_wp2_with (first
      | ((with_reducible refine (zBd hG.out hl _).mono ?_);rintro e w1 ⟨rfl,nq,rfl⟩)
      | ((with_reducible refine (zBd hG2.out hlr _).mono ?_);rintro e w1 ⟨rfl,nr,rfl⟩))
     (try simp only [Exit.inBlock,Exit.then]);refine bodyPost_ret (zCu rfl _ _ _) rfl ?_
     exact ⟨by rw [hR.out];rfl,_,rfl⟩
def stpV : Option (Txt×Txt)→Value
 | some (t,r) => .tuple #[.string (B t), .string (B r)]
 | none => .tuple #[.string (B []), .string (B [])]
set_option maxRecDepth 100000 in
set_option maxHeartbeats 1600000 in
theorem dstep_calls (b d:Txt) (hb:b.length≤4611686018427387904) (hl:d.length≤4611686018427387904) (w:World) :
 Calls Tryz.prog 116 #[.string (B b), .string (B d)] w fun e w'=>e = .returned (stpV (stpD b d)) ∧ ∃ n,w'=w.drewN n:=by
 cases hg:get d with
 | none=>
   have hG:=Lib.hid hg
   have hR:=Lib.hid (stpD_none (b:=b) hg)
   clear hg
   go_enter Tryz.func116,Tryz.ntmps116
   go_wp2_with (first
    | ((with_reducible refine (get_non hG.out hl _).mono ?_);rintro e w1 ⟨rfl,nq,rfl⟩))
   all_goals try (exfalso;omega)
   go_ret2
   exact ⟨by rw [hR.out];rfl,nq,rfl⟩
 | some p=>
   obtain ⟨n,k⟩:=p
   obtain ⟨hn,hk0,hkl⟩:=zAH hg
   have hG:=Lib.hid hg
   have hlr:(d.drop k).length≤4611686018427387904:=by rw [List.length_drop];omega
   by_cases h0:n / 2=0
   ·have hR:=Lib.hid (stpD_zero (b:=b) hg h0)
    have h0i:((n:Int) / 2==0)=true:=by simp;omega
    clear hg h0
    go_enter Tryz.func116,Tryz.ntmps116
    go_wp2_with (first
     | ((with_reducible refine (zBd hG.out hl _).mono ?_);rintro e w1 ⟨rfl,nq,rfl⟩))
    all_goals try (exfalso;omega)
    go_ret2
    exact ⟨by rw [hR.out];rfl,nq,rfl⟩
   ·have h0i:((n:Int) / 2==0)=false:=by simp;omega
    by_cases h2:n%2=0
    ·have h2i:((n:Int)%2==0)=true:=by simp;omega
     have hdl:(d.drop k).length=d.length-k:=List.length_drop
     by_cases h3:(d.drop k).length<n / 2
     ·have hR:=Lib.hid (stpD_short (b:=b) hg h0 h2 h3)
      have hi:((d.length-k:Nat):Int)<(n:Int) / 2:=by omega
      clear hg h2 h0 hkl h3 hdl
      go_enter Tryz.func116,Tryz.ntmps116
      go_wp2_with (first
       | ((with_reducible refine (zBd hG.out hl _).mono ?_);rintro e w1 ⟨rfl,nq,rfl⟩))
      all_goals try (exfalso;omega)
      go_ret2
      exact ⟨by rw [hR.out];rfl,nq,rfl⟩
     ·have hR0:=stpD_text (b:=b) hg h0 h2 (by omega)
      have ee:d.drop (k+n / 2)=(d.drop (k+n / 2)).take (d.length-k-n / 2):=(List.take_of_length_le (by rw [List.length_drop];omega)).symm
      rw [List.drop_drop,ee] at hR0
      clear ee
      have hR:=Lib.hid hR0
      have hi : ¬ ((d.length-k:Nat):Int)<(n:Int) / 2:=by omega
      have hle2:(n:Int) / 2≤((d.length-k:Nat):Int):=by omega
      clear hg h2 h0 hkl hR0 h3 hdl
      go_enter Tryz.func116,Tryz.ntmps116
      go_wp2_with (first
       | ((with_reducible refine (zBd hG.out hl _).mono ?_);rintro e w1 ⟨rfl,nq,rfl⟩))
      all_goals try (exfalso;omega)
      go_quiet (fail)
      go_wp2
      go_ret2
      exact ⟨by rw [hR.out];rfl,_,World.drewN_drewN _ _ _⟩
    ·have h2i:((n:Int)%2==0)=false:=by simp;omega
     cases hg2:get (d.drop k) with
     | none=>
       have hG2:=Lib.hid hg2
       have hR:=Lib.hid (stpD_non2 (b:=b) hg h0 (by omega) hg2)
       clear hg hg2 h2 h0
       go_enter Tryz.func116,Tryz.ntmps116
       go_wp2_with (first
        | ((with_reducible refine (zBd hG.out hl _).mono ?_);rintro e w1 ⟨rfl,nq,rfl⟩)
        | ((with_reducible refine (get_non hG2.out hlr _).mono ?_);rintro e w1 ⟨rfl,nr,rfl⟩))
       all_goals try (exfalso;omega)
       go_ret2
       exact ⟨by rw [hR.out];rfl,_,rfl⟩
     | some p=>
       obtain ⟨p,m⟩:=p
       obtain ⟨hp,hm0,hml⟩:=zAH hg2
       have hG2:=Lib.hid hg2
       by_cases h3:b.length<p
       ·have hR:=Lib.hid (zEf (b:=b) hg h0 (by omega) hg2 (.inl h3))
        have hi:(b.length:Int)<(p:Int):=by omega
        clear hg hg2 h2 h0 h3
        go_enter Tryz.func116,Tryz.ntmps116
        go_wp2_with (first
         | ((with_reducible refine (zBd hG.out hl _).mono ?_);rintro e w1 ⟨rfl,nq,rfl⟩)
         | ((with_reducible refine (zBd hG2.out hlr _).mono ?_);rintro e w1 ⟨rfl,nr,rfl⟩))
        all_goals try (exfalso;omega)
        go_ret2
        exact ⟨by rw [hR.out];rfl,_,rfl⟩
       ·have hi : ¬ (b.length:Int)<(p:Int):=by omega
        have x0:IntKind.u64.wrap ((b.length:Int)-(p:Int))=((b.length-p:Nat):Int):=by
         rw [IntWalk.u64_in _ (by omega)];omega
        by_cases h4:b.length-p<n / 2
        ·have hR:=Lib.hid (zEf (b:=b) hg h0 (by omega) hg2 (.inr h4))
         have hj:((b.length-p:Nat):Int)<(n:Int) / 2:=by omega
         have hj2:(b.length:Int)-(p:Int)<(n:Int) / 2:=by omega
         clear hg hg2 h2 h0 h3 h4
         go_enter Tryz.func116,Tryz.ntmps116
         go_wp2_with (first
          | ((with_reducible refine (zBd hG.out hl _).mono ?_);rintro e w1 ⟨rfl,nq,rfl⟩)
          | ((with_reducible refine (zBd hG2.out hlr _).mono ?_);rintro e w1 ⟨rfl,nr,rfl⟩))
         all_goals try (exfalso;omega)
         go_ret2
         exact ⟨by rw [hR.out];rfl,_,rfl⟩
        ·have hR0:=stpD_copy (b:=b) hg h0 (by omega) hg2 (by omega) (by omega)
         have ee:p+n / 2-p=n / 2:=by omega
         rw [List.drop_drop,←ee] at hR0
         have hR:=Lib.hid hR0
         clear hR0 ee
         have hj : ¬ ((b.length-p:Nat):Int)<(n:Int) / 2:=by omega
         have hj2 : ¬ (b.length:Int)-(p:Int)<(n:Int) / 2:=by omega
         have hle:(p:Int)+(n:Int) / 2≤(b.length:Int):=by omega
         clear hg hg2 h2 h0 h3 h4
         go_enter Tryz.func116,Tryz.ntmps116
         go_wp2_with (first
          | ((with_reducible refine (zBd hG.out hl _).mono ?_);rintro e w1 ⟨rfl,nq,rfl⟩)
          | ((with_reducible refine (zBd hG2.out hlr _).mono ?_);rintro e w1 ⟨rfl,nr,rfl⟩))
         all_goals try (exfalso;omega)
         go_ret2
         exact ⟨by rw [hR.out];rfl,_,rfl⟩
def apV (x:Txt×Nat):Value := .tuple #[.string (B x.1), .int .i64 x.2]
theorem head_non {d:Txt} (h:headD d=none) (hl:d.length≤4611686018427387904) (w:World) :
 Calls Tryz.prog 115 #[.string (B d)] w fun e w'=>e = .returned (.tuple #[.int .u64 0, .int .u64 0, .string (B []), .int .i64 2]) ∧ ∃ n,w'=w.drewN n:=by
 have:=head_calls d hl w;rw [h] at this;exact this
theorem head_yes {d r:Txt} {n s:Nat} (h:headD d=some (n,s,r)) (hl:d.length≤4611686018427387904) (w:World) :
 Calls Tryz.prog 115 #[.string (B d)] w fun e w'=>e = .returned (.tuple #[.int .u64 n, .int .u64 s, .string (B r), .int .i64 0]) ∧ ∃ n,w'=w.drewN n:=by
 have:=head_calls d hl w;rw [h] at this;exact this
theorem dstep_non {b d:Txt} (h:stpD b d=none) (hb:b.length≤4611686018427387904) (hl:d.length≤4611686018427387904) (w:World) :
 Calls Tryz.prog 116 #[.string (B b), .string (B d)] w fun e w'=>e = .returned (.tuple #[.string (B []), .string (B [])]) ∧ ∃ n,w'=w.drewN n:=by
 have:=dstep_calls b d hb hl w;rw [h] at this;exact this
theorem dstep_yes {b d t r:Txt} (h:stpD b d=some (t,r)) (hb:b.length≤4611686018427387904) (hl:d.length≤4611686018427387904) (w:World) :
 Calls Tryz.prog 116 #[.string (B b), .string (B d)] w fun e w'=>e = .returned (.tuple #[.string (B t), .string (B r)]) ∧ ∃ n,w'=w.drewN n:=by
 have:=dstep_calls b d hb hl w;rw [h] at this;exact this
set_option maxRecDepth 100000 in
set_option maxHeartbeats 1600000 in
theorem apply_calls (b d:Txt) (hb:b.length≤70368744177664) (hl:d.length≤70368744177664) (w:World) :
 Calls Tryz.prog 74 #[.string (B b), .string (B d), .int .i64 4096] w fun e w'=>e = .returned (apV (apD b d))∧Below w.heap.size w w':=by
 cases hh:headD d with
 | none=>
   have hH:=Lib.hid hh
   have hR:=Lib.hid (apD_none (b:=b) hh)
   clear hh
   go_enter Tryz.func74,Tryz.ntmps74
   go_wp2_with (first
    | ((with_reducible refine (head_non hH.out (by omega) _).mono ?_);rintro e w1 ⟨rfl,nq,rfl⟩))
   all_goals try (exfalso;omega)
   go_ret2
   exact ⟨by rw [hR.out];rfl,bdrewN (Below.refl _ _) _⟩
 | some p=>
   obtain ⟨h,s,r⟩:=p
   obtain ⟨hn,hs,hr⟩:=headD_bounds hh
   have hH:=Lib.hid hh
   by_cases h6:h=b.length
   ·have h6i:((h:Int) != (b.length:Int))=false:=by simp;omega
    have h6j:((h:Int)==(b.length:Int))=true:=by simp;omega
    by_cases h3:4096<s
    ·have hR:=Lib.hid (apD_big (b:=b) hh h6 h3)
     clear hh h6
     go_enter Tryz.func74,Tryz.ntmps74
     go_wp2_with (first
      | ((with_reducible refine (head_yes hH.out (by omega) _).mono ?_);rintro e w1 ⟨rfl,nq,rfl⟩))
     all_goals try (exfalso;omega)
     go_ret2
     exact ⟨by rw [hR.out];rfl,bdrewN (Below.refl _ _) _⟩
    ·have hR0:=Lib.hid (apD_go (b:=b) hh h6 (by omega))
     have hh6:=Lib.hid h6
     have hs4:s≤4096:=by omega
     generalize hgo:apF r.length b r [] s=goal at hR0
     have hgoal:=Lib.hid hgo
     clear hh h6 hgo
     go_enter Tryz.func74,Tryz.ntmps74
     go_wp2_with (first
      | ((with_reducible refine (head_yes hH.out (by omega) _).mono ?_);rintro e w1 ⟨rfl,nq,rfl⟩))
     all_goals try (exfalso;omega)
     go_loopw [10,12] (fun x v wr => ∃ (fu:Nat) (t out:Txt),x = .string (B t)∧OwnB wr w.heap.size 5 v out∧Hid (apF fu b t out s=goal)∧t.length≤fu∧fu≤r.length∧out.length≤s∧Below w.heap.size w wr) (fun x _ _=>(strOf x).length)
     case atStart=>exact ⟨r.length,r,[],rfl,OwnB.nil _ _ _,hgoal,by omega,by omega,by simp,bdrewN (Below.refl _ _) _⟩
     case round=>
      obtain ⟨fu,t,out,rfl,hown,hun,hf1,hf2,hout,hbel⟩:=hrel
      obtain ⟨wo,rfl⟩ : ∃ wo:World,wo=wr:=⟨_,rfl⟩
      obtain ⟨A,cap,rfl⟩:=hown.form'
      have hbs:=hbel.size
      cases t with
      | nil=>
        have hcv:=Tryz.str_of_own wo hown
        by_cases he:out.length=s
        ·have hR2:Hid (apD b d=(out,0)):=by show _=_;rw [hR0.out,←hun.out,←he,apF_end]
         have hei:((out.length:Int) != (s:Int))=false:=by simp;omega
         have hej:((out.length:Int)==(s:Int))=true:=by simp;omega
         clear he hun
         go_wp2
         all_goals try (exfalso;omega)
         go_ret2
         exact ⟨by rw [hR2.out];rfl,hbel⟩
        ·have hR2:Hid (apD b d=([],2)):=by show _=_;rw [hR0.out,←hun.out,apF_short he]
         have hei:((out.length:Int) != (s:Int))=true:=by simp;omega
         have hej:((out.length:Int)==(s:Int))=false:=by simp;omega
         clear he hun
         go_wp2
         all_goals try (exfalso;omega)
         go_ret2
         exact ⟨by rw [hR2.out];rfl,hbel⟩
      | cons c u=>
        rw [List.length_cons] at hf1
        obtain ⟨fu,rfl⟩ : ∃ g,fu=g+1:=⟨fu-1,by omega⟩
        rcases hrd:stpD b (c::u) with _ | ⟨t,rr⟩
        ·have hRd:=Lib.hid hrd
         have hR2:Hid (apD b d=([],2)):=by show _=_;rw [hR0.out,←hun.out,apF_bad (by simp) hrd]
         clear hrd hun
         go_wp2_with (first
          | ((with_reducible refine (dstep_non hRd.out (by omega) (by rw [List.length_cons];omega) _).mono ?_);rintro e w1 ⟨rfl,nr,rfl⟩))
         all_goals try (exfalso;omega)
         go_ret2
         exact ⟨by rw [hR2.out];rfl,bdrewN hbel _⟩
        ·obtain ⟨q1,q2,q3,q4⟩:=zCZ hrd
         rw [List.length_cons] at q2
         have hRd:=Lib.hid hrd
         have x0:IntKind.u64.wrap ((s:Int)-(out.length:Int))=((s-out.length:Nat):Int):=by
          rw [IntWalk.u64_in _ (by omega)];omega
         have hte:t.isEmpty=false:=by
          cases t with
          | nil=>exact absurd q1 (Nat.lt_irrefl _)
          | cons _ _=>rfl
         by_cases hbig:s-out.length<t.length
         ·have hR2:Hid (apD b d=([],2)):=by show _=_;rw [hR0.out,←hun.out,apF_big (by simp) hrd hbig]
          clear hrd hun
          go_wp2_with (first
           | ((with_reducible refine (dstep_yes hRd.out (by omega) (by rw [List.length_cons];omega) _).mono ?_);rintro e w1 ⟨rfl,nr,rfl⟩))
          all_goals try (exfalso;simp only [List.length_cons] at *;omega)
          go_ret2
          exact ⟨by rw [hR2.out];rfl,bdrewN hbel _⟩
         ·have hR2:Hid (apF fu b rr (out++t) s=goal):=by show _=_;rw [←hun.out];exact (zDt (by simp) hrd (by omega)).symm
          clear hrd hun q4
          have hbd:=bdrewN hbel
          go_wp2_with (first
           | ((with_reducible refine (dstep_yes hRd.out (by omega) (by rw [List.length_cons];omega) _).mono ?_);rintro e w1 ⟨rfl,nr,rfl⟩)
           | (at_builtin;go_must (refine zCW rfl _ _ _ _ rfl _ Tryz.bytesTy Tryz.underlying9 w.heap.size _ _ rfl (hown.drewN _) t rfl (by omega) w (bdrewN hbel _) (by simp;omega) ?_);intro v2 w2 hown2 hbel2 hg2))
          all_goals try (exfalso;simp only [List.length_cons] at *;omega)
          go_roundw
          case rel=>exact ⟨fu,_,_,rfl,hown2,hR2,by omega,by omega,by rw [List.length_append];omega,hbel2⟩
          case measure=>simp [strOf_B];omega
   ·have h6i:((h:Int) != (b.length:Int))=true:=by simp;omega
    have h6j:((h:Int)==(b.length:Int))=false:=by simp;omega
    have hR:=Lib.hid (apD_base (b:=b) hh h6)
    clear hh h6
    go_enter Tryz.func74,Tryz.ntmps74
    go_wp2_with (first
     | ((with_reducible refine (head_yes hH.out (by omega) _).mono ?_);rintro e w1 ⟨rfl,nq,rfl⟩))
    all_goals try (exfalso;omega)
    go_ret2
    exact ⟨by rw [hR.out];rfl,bdrewN (Below.refl _ _) _⟩
section
def sliR (e:TypeId) (Φ:Array Value→Prop) (v:Value) (F:Foot) (w:World):Prop := ∃ g cs,v = .slice (some ⟨g,0,none⟩) 1 1∧F g∧Blk w g e cs∧Φ cs
theorem sliR_stab (e:TypeId) (Φ:Array Value→Prop) (v:Value):Stab (sliR e Φ v):=fun _ _ _ _ hf ha ⟨g,cs,h1,h2,h3,h4⟩=>⟨g,cs,h1,hf g h2,(ha.same g h3.lt h2).trans h3,h4⟩
def appR (B:Nat) (e:TypeId) (size n:Nat) (Ψ:List Value→Prop) (v:Value) (F:Foot) (w:World):Prop := ∃ xs,Ψ xs∧ownR B e size n xs v F w
theorem appR_stab (B:Nat) (e:TypeId) (size n:Nat) (Ψ:List Value→Prop) (v:Value):Stab (appR B e size n Ψ v):=fun F F' w w' hf ha ⟨xs,h1,h2⟩=>⟨xs,h1,zCv B e size n xs v F F' w w' hf ha h2⟩
section
variable {P:Program} {ops:Array Oper} {W:World} {w0:World} {rows:List (Option Nat)} {pres:Pres} {sps:List Sp} {E:Act→Facts→Prop} {i:Nat} {o:Oper} {rest:List Oper} {s:Sp} {ss:List Sp} {a:Act} {D:Facts} {w:World}
theorem does_slice1 {post:Value→World→Prop} {d:Option Tmp} {rt:TypeId} {pos:String} {af:Array Edge} {gd:Option (Nat×Bool)} {x:Operand} {t e:TypeId} {z:Value} {size bytes:Nat} (hT:SliceTy P t e z size bytes) (cs:Array Value) (hcs:cs.size=size) (hsm:size≤1000) (hx:a.eval x = .agg cs)
 (h:post (.slice (some ⟨w.heap.size,0,none⟩) 1 1) (w.alloc (.cells cs e))):doesAt P { dst:=d,op := .buildSlice t 1 #[(0,x)],type:=rt,pos:=pos,after:=af,guard:=gd } a w post:=by
 have e1:((#[(0,x)]:Array (Nat×Operand)).map fun (i,x)=>(i,a.eval x)) = #[(0, .agg cs)]:=by simp [hx]
 have hrun:(Instr.buildSlice t 1 #[(0, .agg cs)]).run P w = .ok (.slice (some ⟨w.heap.size,0,none⟩) 1 1) (w.alloc (.cells cs e)):=by
  obtain ⟨it,hi,hz,hs,hb⟩:=hT.hi
  have h0:=hT.hsz
  refine run_buildSlice w _ _ 1 _ _ it _ hT.ht hi hz (by rw [hs];omega) (by rw [hs];omega) ?_
  rw [hs]
  have:=Great.fill_whole (s:=size) (by omega) [Value.agg cs] ((Array.range (1*size)).map (z.cells[· % z.cells.size]!)) (by
   intro v hv
   simp at hv
   subst hv
   exact hcs) (by simp)
  simpa [Value.cells] using this
 refine zDp (v := .slice (some ⟨w.heap.size,0,none⟩) 1 1) (w':=w.alloc (.cells cs e)) ?_ h
 unfold execOp
 simp only [Sem.run_bind,e1,hrun,Result.andThen_ok]
 rfl
theorem lx_slice1 {d:Option Tmp} {rt:TypeId} {pos:String} {af:Array Edge} {x:Operand} {t e:TypeId} {z:Value} {size bytes:Nat} (hT:SliceTy P t e z size bytes) (Φ:Array Value→Prop) (hsm:size≤1000) (hs:s = .new fun _=>sliR e Φ)
 (h : ∃ v,a.eval x=v∧(∀ w,Far rows w0 w→Have ops pres i D w → ∃ cs:Array Value,v = .agg cs∧cs.size=size∧Φ cs) ∧ ∀ v,LxL P ops w0 rows pres sps E (i+1) rest ss (a.put d v) ((i,sliR e Φ v)::D)) :
 LxL P ops w0 rows pres sps E i ({ dst:=d,op := .buildSlice t 1 #[(0,x)],type:=rt,pos:=pos,after:=af,guard:=none }::rest) (s::ss) a D:=by
 obtain ⟨_,rfl,hc,h⟩:=h
 refine lx_new (fun _=>sliR e Φ) hs (by simp [Region.wanted]) (fun _=>sliR_stab e Φ) (fun w hw hh=>?_) h
 obtain ⟨cs,hx,hcs,hp⟩:=hc w hw hh
 refine does_slice1 hT cs hcs hsm hx ⟨(Below.refl _ _).alloc (Nat.le_refl _) _,fun F _ _ h3=>⟨w.heap.size,cs,rfl,h3 _ (Nat.le_refl _) (by rw [zBk];omega),Blk.new _ _ _,hp⟩⟩
theorem lx_append1 {d:Option Tmp} {rt:TypeId} {pos:String} {af:Array Edge} {sl x:Operand} {t e:TypeId} {z:Value} {size bytes:Nat} (hT:SliceTy P t e z size bytes) (B:Nat) (ve:Value) (n:Nat) (xs:List Value) (Ψ:List Value→Prop) (h63:n+1≤9223372036854775807) (hby:(n+1)*bytes≤140737488355328)
 (hB:B≤w0.heap.size) (hp:(i,ve.ownBlock,fun w=>World.ownsRow w B e size ve n xs)∈pres) (hs:s = .wr fun _=>appR B e size (n+1) Ψ)
 (h : ∃ v1 v2,a.eval sl=v1∧a.eval x=v2∧v1=ve∧(∀ w,Far rows w0 w→Have ops pres i D w → ∃ g cs,v2 = .slice (some ⟨g,0,none⟩) 1 1∧Blk w g e cs∧cs.size=size∧(∀ u∈cs.toList,u.oneCell'=true)∧Ψ (xs++cs.toList)) ∧ ∀ v,LxL P ops w0 rows pres sps E (i+1) rest ss (a.put d v) ((i,appR B e size (n+1) Ψ v)::D)) :
 LxL P ops w0 rows pres sps E i ({ dst:=d,op := .call { callee := .builtin .append,args := #[sl,x],argTypes := #[t,t] },type:=rt,pos:=pos,after:=af,guard:=none }::rest) (s::ss) a D:=by
 obtain ⟨_,_,rfl,rfl,hv,hc,h⟩:=h
 refine lx_wr ve.ownBlock _ (fun _=>appR B e size (n+1) Ψ) hs hp (by simp [Region.wanted]) (fun _=>appR_stab B e size (n+1) Ψ) (fun w hw hh hown=>?_) h
 obtain ⟨g,cs,hx,hk,hcs,h1,hps⟩:=hc w hw hh
 obtain ⟨it,i1,i2,i3,i4⟩:=hT.hi
 have hbase:B≤w.heap.size:=Nat.le_trans hB hw.size
 obtain ⟨v',w',hrun,hown',hg,_,hat⟩:=run_append_own_at (P:=P) w B t rt e it z size bytes hT.ht i1 i2 i3 i4 hT.hzs hT.hsz ve n xs hown ⟨g,0,none⟩ 1 1 cs.toList (by simp [hcs]) (zCV hk) h1 (by simp only [maxLen];omega) hby hbase
 refine zDp (v:=v') (w':=w') ?_ ⟨hg,fun F _ hF2 hF3=>⟨_,hps,hown',fun k hk=>?_⟩⟩
 ·unfold execOp
  simp only [resolve,invoke,builtin,Sem.run_bind,Sem.run_pure,Result.andThen_ok,List.map_toArray,List.map_cons,List.map_nil,hv,hx,hrun]
 rcases hat with hat | hat
 ·rw [hat] at hk;exact hF2 k hk.symm
 ·rw [hat] at hk
  injection hk with hk
  subst hk
  exact hF3 _ (Nat.le_refl _) (World.ownsRow.lt hown' _ hat).2
theorem does_put {post:Value→World→Prop} {rt:TypeId} {pos:String} {af:Array Edge} {gd:Option (Nat×Bool)} {x y:Operand} {T T':TypeId} {g off n c:Nat} {A:Option Addr} {cs:Array Value} (hsz : ∀ w,(sizeOf T).run P w = .ok 1 w) (hx:a.eval x = .pointer (some ⟨g,off,none⟩)) (hy:a.eval y = .slice A n c) (hk:Blk w g T' cs) (ho:off<cs.size)
 (h:post undef (w.setCell ⟨g,off,none⟩ (.slice A n c))):doesAt P { dst:=none,op := .store T x y,type:=rt,pos:=pos,after:=af,guard:=gd } a w post:=by
 have hf:=hk.frozen off
 have hc:w.cell? ⟨g,off,none⟩=some cs[off]:=by rw [hk.cell,Array.getElem?_eq_getElem ho]
 unfold doesAt Oper.wp execOp
 simp only [hx,hy]
 go_simp
 exact ⟨_,h⟩
def putR (g off:Nat) (T:TypeId) (cs:Array Value) (ρ:List Value) (_:Value) (F:Foot) (w:World):Prop:=F g∧Blk w g T (cs.setIfInBounds off (ρ.getD 1 undef))
theorem putR_stab (g off:Nat) (T:TypeId) (cs:Array Value) (ρ:List Value) (v:Value):Stab (putR g off T cs ρ v):=fun _ _ _ _ hf ha ⟨h1,h2⟩=>⟨hf g h1,(ha.same g h2.lt h1).trans h2⟩
theorem lx_put {rt:TypeId} {pos:String} {af:Array Edge} {x y:Operand} {T:TypeId} (g off:Nat) (cs:Array Value) (T':TypeId) (hsz : ∀ w,(sizeOf T).run P w = .ok 1 w) (ho:off<cs.size) (hp:(i,some g,fun w=>Blk w g T' cs)∈pres) (hs:s = .wr (putR g off T' cs))
 (h : ∃ v1 v2,a.eval x=v1∧a.eval y=v2∧v1 = .pointer (some ⟨g,off,none⟩)∧(∀ w,Far rows w0 w→Have ops pres i D w → ∃ A n c,v2 = .slice A n c)∧LxL P ops w0 rows pres sps E (i+1) rest ss a ((i,fun F w=>F g∧Blk w g T' (cs.setIfInBounds off v2))::D)) :
 LxL P ops w0 rows pres sps E i ({ dst:=none,op := .store T x y,type:=rt,pos:=pos,after:=af,guard:=none }::rest) (s::ss) a D:=by
 obtain ⟨_,_,rfl,rfl,hx,hc,h⟩:=h
 refine lx_wr (some g) _ (putR g off T' cs) hs hp (by simp [Region.wanted]) (putR_stab g off T' cs) (fun w hw hh hk=>?_) (fun v=>h)
 obtain ⟨A,n,c,hy⟩:=hc w hw hh
 refine does_put hsz hx hy hk ho ⟨⟨rfl,rfl,rfl,by simp,fun k hk2 hn=>Below.heap_setCell _ _ _ _ fun e=>hn (by rw [e])⟩,fun F _ h2 _=>⟨h2 g rfl,?_⟩⟩
 show Blk _ g T' (cs.setIfInBounds off (a.eval y))
 rw [hy]
 exact hk.set_ off _
end
def aggR (Φ:Array Value→Prop) (v:Value):Prop := ∃ cs,v = .agg cs∧Φ cs
section
variable {P:Program} {ops:Array Oper} {w0:World} {rows:List (Option Nat)} {pres:Pres} {sps:List Sp} {E:Act→Facts→Prop} {i:Nat} {rest:List Oper} {s:Sp} {ss:List Sp} {a:Act} {D:Facts} {w:World}
theorem does_build {post:Value→World→Prop} {d:Option Tmp} {T rt:TypeId} {pos:String} {af:Array Edge} {gd:Option (Nat×Bool)} {fs:Array (Nat×Operand)} (vals:List (Nat×Value)) (cs:Array Value) (hb:P.built T vals=some cs)
 (hv:(fs.map fun (i,x)=>(i,a.eval x)).toList=vals) (h:post (.agg cs) w):doesAt P { dst:=d,op := .build T fs,type:=rt,pos:=pos,after:=af,guard:=gd } a w post:=by
 unfold doesAt
 exact wp_build _ _ rfl (by rw [hv,hb];rfl) (by rw [hv,hb];exact ⟨_,rfl,h⟩)
theorem lx_build3 {d:Option Tmp} {T rt:TypeId} {pos:String} {af:Array Edge} {i0 i1 i2:Nat} {x0 x1 x2:Operand} (Φ:Array Value→Prop) (hs:s = .new fun _ v _ _=>aggR Φ v)
 (h : ∃ v0 v1 v2,a.eval x0=v0∧a.eval x1=v1∧a.eval x2=v2∧(∀ w,Far rows w0 w→Have ops pres i D w → ∃ cs,P.built T [(i0,v0),(i1,v1),(i2,v2)]=some cs∧Φ cs) ∧ ∀ v,LxL P ops w0 rows pres sps E (i+1) rest ss (a.put d v) ((i,fun _ _=>aggR Φ v)::D)) :
 LxL P ops w0 rows pres sps E i ({ dst:=d,op := .build T #[(i0,x0),(i1,x1),(i2,x2)],type:=rt,pos:=pos,after:=af,guard:=none }::rest) (s::ss) a D:=by
 obtain ⟨v0,v1,v2,h0,h1,h2,hc,h⟩:=h
 refine lx_new (fun _ v _ _=>aggR Φ v) hs (by simp [Region.wanted]) (fun _=>zBf (aggR Φ)) (fun w hw hh=>?_) h
 obtain ⟨cs,hb,hp⟩:=hc w hw hh
 exact does_build [(i0,v0),(i1,v1),(i2,v2)] cs hb (by simp [h0,h1,h2]) ⟨Below.refl _ _,fun _ _ _ _=>⟨cs,rfl,hp⟩⟩
end
theorem preOk2 {w:World} {B:Nat} {e T:TypeId} {size n g i j:Nat} {v:Value} {xs:List Value} {cs:Array Value} (h1:w.ownsRow B e size v n xs) (h2:Blk w g T cs) (hne:e≠T) :
 PreOk w [(i,v.ownBlock,fun w=>World.ownsRow w B e size v n xs),(j,some g,fun w=>Blk w g T cs)]:=by
 have hd:=zAD h1 h2 hne
 refine PreOk.cons (PreOk.cons (PreOk.nil w) (fun q hq=>by simp at hq) (fun k hk=>?_) h2 fun w' _ hs=>?_) (fun q hq k hk=>?_) (fun k hk=>(World.ownsRow.lt h1 k hk).2) h1 fun w' _ hs=>zCk h1 hs
 ·injection hk with hk;subst hk;exact h2.lt
 ·exact (hs g rfl).trans h2
 ·rw [List.mem_singleton] at hq
  subst hq
  intro e
  injection e with e
  subst e
  exact hd hk.symm
theorem rows2 {B i j g:Nat} {v:Value} {p q:World→Prop} (h1 : ∀ k,v.ownBlock=some k→B≤k) (h2:B≤g) : ∀ k,some k∈rowsOfP [(i,v.ownBlock,p),(j,some g,q)]→B≤k:=fun k hk=>by
 simp only [rowsOfP,List.map_cons,List.map_nil,List.mem_cons,List.not_mem_nil,or_false] at hk
 rcases hk with hk | hk
 ·exact h1 k hk.symm
 ·injection hk with hk;omega
end
section
theorem Tryz.natTyR : SliceTy Tryz.prog 104 3 (.int .i64 0) 1 8:=⟨Tryz.underlying104,info_parts (by kernel_rfl),rfl,by omega⟩
def basV : Ahd ⊕ Nat→Value
 | .inl (t,n) => .tuple #[.string (B t), .int .i64 n, .int .i64 0]
 | .inr e => .tuple #[.string (B []), .int .i64 0, .int .i64 e]
theorem SolAt.form {w:World} {b g:Nat} {vs vt vc:Value} {a:List Ahd} (h:SolAt w b g vs vt vc a) : ∃ A1 c1 A2 c2,vt = .slice A1 a.length c1∧vc = .slice A2 a.length c2∧(0<a.length → ∃ g1 o1 g2 o2,A1=some ⟨g1,o1,none⟩∧A2=some ⟨g2,o2,none⟩ ∧ ∀ (i:Nat) (t:Ahd),a[i]?=some t → ∀ W,Below w.heap.size w W→W.cell? ⟨g1,o1+i,none⟩=some (.string (B t.1))∧W.cell? ⟨g2,o2+i,none⟩=some (.int .i64 t.2)):=by
 obtain ⟨A1,c1,rfl,_,_,h1⟩:=OwnTxs.txs h.ot
 obtain ⟨A2,c2,rfl,_,_,h2⟩:=SliceAt.of_own (natK _) h.oc
 rw [List.length_map] at h1 h2 ⊢
 rw [List.length_map]
 refine ⟨A1,c1,A2,c2,rfl,rfl,fun h0=>?_⟩
 obtain ⟨g1,o1,rfl,l1,k1⟩:=h1 h0
 obtain ⟨g2,o2,rfl,l2,k2⟩:=h2 h0
 refine ⟨g1,o1,g2,o2,rfl,rfl,fun i t ht W hW=>⟨?_,?_⟩⟩
 ·have:=(zAb (k1 i t.1 (by rw [List.getElem?_map,ht];rfl)) l1 hW) 0 _ rfl
  simpa using this
 ·have:=(zAb (k2 i t.2 (by rw [List.getElem?_map,ht];rfl)) l2 hW) 0 _ rfl
  simpa using this
attribute [local go_sem ↓] ldvI_eq
set_option maxRecDepth 100000 in
set_option maxHeartbeats 2000000 in
theorem solBase_calls {w:World} {B g:Nat} {vs vt vc:Value} {a:List Ahd} {s:List StL} (h:SolAt w B g vs vt vc a) (hs:StoV w vs s) (hal:a.length≤1000000) (hok:AhdOk a) (x:PItL) (hx:x.base.length=32) (hbk:x.back≤9223372036854775807) :
 Calls Tryz.prog 73 #[.pointer (some ⟨g,0,none⟩), .agg (pitC x).toArray] w fun e w'=>e = .returned (basV (baseR s a x))∧Below w.heap.size w w':=by
 obtain ⟨W1,hW1⟩ : ∃ W1,w.alloc (.cells (pitC x).toArray 30)=W1:=⟨_,rfl⟩
 have x1:Blk W1 w.heap.size 30 (pitC x).toArray:=by rw [←hW1];exact Blk.new _ _ _
 have b1:Below w.heap.size w W1:=by rw [←hW1];exact (Below.refl _ _).alloc (Nat.le_refl _) _
 have hr:=fun W (hW:Below W1.heap.size W1 W)=>(by have:=zAj (x1.below hW x1.lt);rwa [List.toList_toArray] at this:W.rangeAt w.heap.size 0 (pitC x))
 have d0:=fun W (hW:Below W1.heap.size W1 W)=>zEl (hr W hW)
 have d1:=fun W (hW:Below W1.heap.size W1 W)=>pit_back (hr W hW)
 have e0:=d0 W1 (Below.refl _ _)
 have hc:=fun W (hW:Below W1.heap.size W1 W)=>h.below (bthen b1 b1.size hW)
 have f0:=fun W (hW:Below W1.heap.size W1 W)=>(hc W hW).c0
 have f1:=(h.below b1).c1
 have f2:=(h.below b1).c2
 obtain ⟨p,hp⟩:=hs.form
 by_cases k2:x.kind=2
 ·have hR:=zDB (s:=s) (a:=a) k2
  have d2:=fun W (hW:Below W1.heap.size W1 W)=>zCL (pit_base (hr W hW)) hx
  have hget:=fun W (hW:Below W1.heap.size W1 W)=>stoGetV_calls (hs.below (bthen b1 b1.size hW)) x.base hx
  have ki:(x.kind==2)=true:=by simp [k2]
  unfold getV at hget
  clear hr d0 d1 f1 f2 k2 hx
  subst hp
  cases hg:getS s x.base with
  | none=>
    rw [hg] at hR
    simp only [hg] at hget
    have hR:=Lib.hid hR
    clear hg h hs x1 hc
    go_enter Tryz.func73,Tryz.ntmps73
    go_wp2_with (fail)
    refine zAw 12 (by kernel_rfl) (by kernel_rfl) (by kernel_rfl) (by kernel_rfl) ?_
    simp only [exSp]
    iterate 12 apply Exists.intro
    repeat
     first
      | ((with_reducible apply lx0_ex)
         ·(go_simp;done)
         apply Exists.intro
         apply And.intro
         ·apply Eq.refl
         apply And.intro
         ·intro W hW hD
          have r0:=f0 W hW
          have r1:=d2 W hW
          have r2:=hget W hW
          go_simp
          first
           | rfl
           | (with_reducible exact r2)
         simp only [Act.put,zA,zB,zC])
      | ((with_reducible apply zAZ)
         ·(first | rfl | (go_simp;done))
         ·apply Eq.refl
         simp only [Act.put,zA,zB,zC])
    refine lx0_nil ?_ fun w5 hW5 hD5=>?_
    ·exact List.nodup_nil
    go_wp2_with (fail)
    go_ret3
    exact ⟨by rw [hR.out];rfl,bthen b1 b1.size hW5⟩
  | some en=>
    rw [hg] at hR
    simp only [hg] at hget
    have hR:=Lib.hid hR
    clear hg h hs x1 hc
    go_enter Tryz.func73,Tryz.ntmps73
    go_wp2_with (fail)
    refine zAw 12 (by kernel_rfl) (by kernel_rfl) (by kernel_rfl) (by kernel_rfl) ?_
    simp only [exSp]
    iterate 12 apply Exists.intro
    repeat
     first
      | ((with_reducible apply lx0_ex)
         ·(go_simp;done)
         apply Exists.intro
         apply And.intro
         ·apply Eq.refl
         apply And.intro
         ·intro W hW hD
          have r0:=f0 W hW
          have r1:=d2 W hW
          have r2:=hget W hW
          go_simp
          first
           | rfl
           | (with_reducible exact r2)
         simp only [Act.put,zA,zB,zC])
      | ((with_reducible apply zAZ)
         ·(first | rfl | (go_simp;done))
         ·apply Eq.refl
         simp only [Act.put,zA,zB,zC])
    refine lx0_nil ?_ fun w5 hW5 hD5=>?_
    ·exact List.nodup_nil
    go_wp2_with (fail)
    go_ret3
    exact ⟨by rw [hR.out];rfl,bthen b1 b1.size hW5⟩
 ·have ki:(x.kind==2)=false:=by simp [k2]
  obtain ⟨A1,c1,A2,c2,rfl,rfl,hcel⟩:=SolAt.form (h.below b1)
  have e1:=d1 W1 (Below.refl _ _)
  have g0:=f0 W1 (Below.refl _ _)
  by_cases hb:x.kind≠1∨x.back<1∨(a.length:Int)<x.back
  ·have hR:=Lib.hid (baseR_bad (s:=s) k2 hb)
   have hbi:x.kind=1→1≤x.back→IntKind.i64.wrap ((a.length:Int)-x.back)<0:=fun q1 q2=>by rw [IntWalk.i64_in _ (by omega)];omega
   have hn:=Lib.hid hb
   obtain ⟨Z,hZ⟩ : ∃ Z,IntKind.i64.wrap ((a.length:Int)-x.back)=Z:=⟨_,rfl⟩
   rw [hZ] at hbi
   have q1:(x.kind != 1)=decide (x.kind≠1):=by by_cases q:x.kind=1<;>simp [q]
   clear hr d0 d1 f0 hc h hs hok x1 hcel hb k2 hbk
   by_cases n1:x.kind=1
   ·by_cases n2:x.back<1
    ·have q3:decide (x.kind≠1)=false:=by simp [n1]
     clear n1 hbi
     go_enter Tryz.func73,Tryz.ntmps73
     go_wp2_with (fail)
     go_quiet (fail)
     go_wp2_with (fail)
     all_goals try (exfalso;omega)
     go_ret3
     exact ⟨by rw [hR.out];rfl,bdrewN b1 _⟩
    ·have q3:decide (x.kind≠1)=false:=by simp [n1]
     have q4:=hbi n1 (by omega)
     clear n1 hbi
     go_enter Tryz.func73,Tryz.ntmps73
     go_wp2_with (fail)
     go_quiet (fail)
     go_wp2_with (fail)
     all_goals try (exfalso;omega)
     go_ret3
     exact ⟨by rw [hR.out];rfl,bdrewN b1 _⟩
   ·have q3:decide (x.kind≠1)=true:=by simp [n1]
    clear n1 hbi
    go_enter Tryz.func73,Tryz.ntmps73
    go_wp2_with (fail)
    go_quiet (fail)
    go_wp2_with (fail)
    all_goals try (exfalso;omega)
    go_ret3
    exact ⟨by rw [hR.out];rfl,bdrewN b1 _⟩
  ·have n1:x.kind=1:=Classical.byContradiction fun q=>hb (.inl q)
   have n2:1≤x.back:=by omega
   have n3:x.back≤(a.length:Int):=by omega
   have hpos:0<a.length:=by omega
   obtain ⟨g1,o1,g2,o2,rfl,rfl,hat⟩:=hcel hpos
   have hlt:a.length-x.back.toNat<a.length:=by omega
   obtain ⟨t,ht⟩ : ∃ t,a[a.length-x.back.toNat]?=some t:=⟨_,List.getElem?_eq_getElem hlt⟩
   have hR0:=baseR_ofs (s:=s) (t:=t.1) (n:=t.2) n1 n2 n3 ht
   obtain ⟨Q,hQ⟩ : ∃ Q,a.length-x.back.toNat=Q:=⟨_,rfl⟩
   rw [hQ] at ht hlt
   have hw0:IntKind.i64.wrap ((a.length:Int)-x.back)=(Q:Int):=by rw [IntWalk.i64_in _ (by omega)];omega
   obtain ⟨u1,u2⟩:=hat Q t ht W1 (Below.refl _ _)
   have q1:(x.kind != 1)=false:=by simp [n1]
   have q2 : ¬ x.back<1:=by omega
   have q3:(Q:Int)<(a.length:Int):=by omega
   have q5:=(hok t (List.mem_of_getElem? ht)).2
   clear hr d0 d1 f0 hc h hs hok x1 hat hb k2 hbk hQ ht hlt n1 n3 hpos hcel
   by_cases h8:8≤t.2
   ·have hR:=Lib.hid (hR0.trans (if_pos h8))
    have q6:(8:Int)≤(t.2:Int):=by omega
    clear hR0 h8
    go_enter Tryz.func73,Tryz.ntmps73
    go_wp2_with (fail)
    go_quiet (fail)
    go_wp2_with (fail)
    all_goals try (exfalso;omega)
    go_ret3
    exact ⟨by rw [hR.out];rfl,bdrewN b1 _⟩
   ·have hR:=Lib.hid (hR0.trans (if_neg h8))
    have q6 : ¬ (8:Int)≤(t.2:Int):=by omega
    have hw1:IntKind.i64.wrap ((t.2:Int)+1)=((t.2+1:Nat):Int):=by rw [IntWalk.i64_in _ (by omega)];omega
    clear hR0 h8
    go_enter Tryz.func73,Tryz.ntmps73
    go_wp2_with (fail)
    go_quiet (fail)
    go_wp2_with (fail)
    all_goals try (exfalso;omega)
    go_quiet (fail)
    go_wp2_with (fail)
    go_ret3
    exact ⟨by rw [hR.out];rfl,bdrewN (bdrewN b1 _) _⟩
end
section
attribute [local go_sem ↓] ldvP_eq
def AddR (r:Ahd ⊕ Nat) (b g:Nat) (vs:Value) (a:List Ahd) (e:Ending) (w':World):Prop:=match r with
 | .inr n=>e = .returned (.int .i64 n)
 | .inl t=>e = .returned (.int .i64 0) ∧ ∃ vt vc,SolAt w' b g vs vt vc (a++[t])
theorem baseR_err {s:List StL} {a:List Ahd} {x:PItL} {n:Nat} (h:baseR s a x = .inr n):n≠0:=by
 unfold baseR at h
 split at h
 ·split at h
  ·cases h;decide
  ·cases h
 ·split at h
  ·cases h;decide
  ·split at h
   ·cases h;decide
   ·split at h
    ·cases h;decide
    ·cases h
def MidR (s:List StL) (a:List Ahd) (x:PItL) (t:Ahd):Prop:=oneR s a x=(if (decO t.1).isSome then .inl t else .inr 2)∧t.1.length≤1000000
set_option maxRecDepth 100000 in
set_option maxHeartbeats 4000000 in
theorem solAdd_calls {w:World} {b g:Nat} {vs vt vc:Value} {a:List Ahd} {s:List StL} (h:SolAt w b g vs vt vc a) (hs:StoV w vs s) (hal:a.length≤1000000) (hok:AhdOk a) (x:PItL) (hx:x.base.length=32) (hbk:x.back≤9223372036854775807) (hdl:x.data.length≤1000000) (hB:b≤w.heap.size) :
 Calls Tryz.prog 39 #[.pointer (some ⟨g,0,none⟩), .agg (pitC x).toArray] w fun e w'=>AddR (oneR s a x) b g vs a e w'∧Below b w w':=by
 obtain ⟨W1,hW1⟩ : ∃ W1,w.alloc (.cells (pitC x).toArray 30)=W1:=⟨_,rfl⟩
 have x1:Blk W1 w.heap.size 30 (pitC x).toArray:=by rw [←hW1];exact Blk.new _ _ _
 have b1:Below w.heap.size w W1:=by rw [←hW1];exact (Below.refl _ _).alloc (Nat.le_refl _) _
 have hr:=fun W (hW:Below W1.heap.size W1 W)=>(by have:=zAj (x1.below hW x1.lt);rwa [List.toList_toArray] at this:W.rangeAt w.heap.size 0 (pitC x))
 have d3:=fun W (hW:Below W1.heap.size W1 W)=>pit_data hx (hr W hW)
 have d0:=zEl (hr W1 (Below.refl _ _))
 have dx:=run_ldvP (hr W1 (Below.refl _ _)) hx
 have d31:=d3 W1 (Below.refl _ _)
 have h1:=h.below b1
 have hbase:=Lib.hid (solBase_calls h1 (hs.below b1) hal hok x hx hbk)
 have hsok:=hs.ok
 have hdec:=fun (t:Txt) (ht:t.length≤1000000) W=>decodeB_calls t (by omega) W
 obtain ⟨CX,hCX⟩ : ∃ CX,(pitC x).toArray=CX:=⟨_,rfl⟩
 rw [hCX] at hbase dx hW1 ⊢
 have hal2:(a.map (·.1)).length≤1000000:=by rw [List.length_map];exact hal
 have hal3:(a.map (·.2)).length≤1000000:=by rw [List.length_map];exact hal
 have hm1 : ∀ t:Ahd,(a++[t]).map (·.1)=a.map (·.1)++[t.1]:=fun t=>by rw [List.map_append];rfl
 have hm2 : ∀ t:Ahd,(a++[t]).map (·.2)=a.map (·.2)++[t.2]:=fun t=>by rw [List.map_append];rfl
 have hfin : ∀ (t:Ahd) W v1 v2,SolB W b g vs v1 v2 (a.map (·.1)++[t.1]) (a.map (·.2)++[t.2])→SolAt W b g vs v1 v2 (a++[t]):=fun t W v1 v2 q=>by unfold SolAt;rw [hm1,hm2];exact q
 obtain ⟨L1,hL1⟩ : ∃ L,a.map (·.1)=L:=⟨_,rfl⟩
 obtain ⟨L2,hL2⟩ : ∃ L,a.map (·.2)=L:=⟨_,rfl⟩
 unfold SolAt at h1
 rw [hL1] at h1 hal2
 rw [hL2] at h1 hal3
 simp only [hL1,hL2] at hfin
 have hfin:=Lib.hid hfin
 have bB:=b1.mono hB
 have hle1:b≤W1.heap.size:=Nat.le_trans hB b1.size
 clear hm1 hm2 hCX hL1 hL2 h hs x1 hr hx hbk
 go_enter Tryz.func39,Tryz.ntmps39
 go_upto_if 16 with (fail)
 go_cut [5,6] from 7 (fun s5 s6 wx => ∃ t:Ahd,s5 = .string (B t.1)∧s6 = .int .i64 t.2∧Hid (MidR s a x t)∧Below W1.heap.size W1 wx)
 case first=>
  by_cases k0:x.kind=0
  ·have ki:(x.kind != 0)=false:=by simp [k0]
   have hR:Hid (MidR s a x (x.data,0)):=Lib.hid ⟨oneR_full k0,hdl⟩
   clear k0 hbase
   go_wp2_with (fail)
   go_meet
   case rel=>exact ⟨(x.data,0),rfl,rfl,hR,Below.refl _ _⟩
  ·have ki:(x.kind != 0)=true:=by simp [k0]
   rcases hb:baseR s a x with ⟨t,n⟩ | n
   ·have hbs:=Lib.hid (show Calls Tryz.prog 73 #[.pointer (some ⟨g,0,none⟩), .agg CX] W1 fun e w'=>e = .returned (.tuple #[.string (B t), .int .i64 n, .int .i64 0])∧Below W1.heap.size W1 w' from by have:=hbase.out;rw [hb] at this;exact this)
    have hR0:=zCq k0 hb
    obtain ⟨hbl,hn8⟩:=baseR_ok hsok hok hb
    have hap:=fun W=>apply_calls t x.data (by omega) (by omega) W
    have hapl:=apD_len t x.data
    unfold apV at hap
    by_cases h2:(apD t x.data).2=0
    ·rw [if_neg (by simpa using h2)] at hR0
     have hR:Hid (MidR s a x ((apD t x.data).1,n)):=Lib.hid ⟨hR0,by show (apD t x.data).1.length≤_;omega⟩
     simp only [h2] at hap
     generalize (apD t x.data).1=T at *
     clear k0 hbase hb hR0 h2
     go_wp2_with (first
      | ((with_reducible refine hbs.out.mono ?_);rintro e w2 ⟨rfl,hb2⟩
         have q2:=d3 _ hb2)
      | ((with_reducible refine (hap _).mono ?_);rintro e w3 ⟨rfl,hb3⟩
         have hb3':=bthen hb2 hb2.size hb3))
     go_meet
     case rel=>exact ⟨(T,n),rfl,rfl,hR,hb3'⟩
    ·rw [if_pos h2] at hR0
     have hne:(((apD t x.data).2:Int) != 0)=true:=by simp;omega
     generalize (apD t x.data).1=T at *
     generalize (apD t x.data).2=c at *
     have hR:=Lib.hid hR0
     clear k0 hbase hb hR0 h2
     go_wp2_with (first
      | ((with_reducible refine hbs.out.mono ?_);rintro e w2 ⟨rfl,hb2⟩
         have q2:=d3 _ hb2)
      | ((with_reducible refine (hap _).mono ?_);rintro e w3 ⟨rfl,hb3⟩
         have hb3':=bthen hb2 hb2.size hb3))
     go_ret
     exact ⟨by rw [hR.out];rfl,bB.trans (hb3'.mono hle1)⟩
   ·have hbs:=Lib.hid (show Calls Tryz.prog 73 #[.pointer (some ⟨g,0,none⟩), .agg CX] W1 fun e w'=>e = .returned (.tuple #[.string (B []), .int .i64 0, .int .i64 n])∧Below W1.heap.size W1 w' from by have:=hbase.out;rw [hb] at this;exact this)
    have hR:=Lib.hid (zEm k0 hb)
    have hne:((n:Int) != 0)=true:=by have:=baseR_err hb;simp;omega
    clear k0 hbase hb
    go_wp2_with (first
     | ((with_reducible refine hbs.out.mono ?_);rintro e w2 ⟨rfl,hb2⟩))
    go_ret
    exact ⟨by rw [hR.out];rfl,bB.trans (hb2.mono hle1)⟩
 case rest=>
  obtain ⟨t,rfl,rfl,hmid,hbc⟩:=hcut
  obtain ⟨hone,htl⟩:=hmid.out
  have hde:=Lib.hid (hdec t.1 htl wc)
  have hbw:=bB.trans (hbc.mono hle1)
  have hc:=h1.below hbc
  have hlec:b≤wc.heap.size:=Nat.le_trans hle1 hbc.size
  clear hbase hdec hmid h1 hbc d0 dx d31 d3 b1 hW1
  by_cases hdo:(decO t.1).isSome=true
  ·rw [if_pos hdo] at hone
   simp only [if_pos hdo] at hde
   have hR:=Lib.hid hone
   clear hone hdo
   have hc1:(#[Value.string (B t.1)]:Array Value).size=1*1:=rfl
   have hc2 : ∀ u∈(#[Value.string (B t.1)]:Array Value).toList,u.oneCell'=true:=by intro u hu;rw [show u = .string (B t.1) by simpa using hu];rfl
   have hc3:(#[Value.int .i64 (t.2:Int)]:Array Value).size=1*1:=rfl
   have hc4 : ∀ u∈(#[Value.int .i64 (t.2:Int)]:Array Value).toList,u.oneCell'=true:=by intro u hu;rw [show u = .int .i64 (t.2:Int) by simpa using hu];rfl
   have m1:L1.length+1≤9223372036854775807:=by omega
   have m2:(L1.length+1)*16≤140737488355328:=by omega
   have m3:L2.length+1≤9223372036854775807:=by omega
   have m4:(L2.length+1)*8≤140737488355328:=by omega
   go_upto_region 13 with (first
    | ((with_reducible refine hde.out.mono ?_);rintro e w2 ⟨⟨cs,rfl,hcs,hcall⟩,hb2⟩)
    | ((with_reducible refine lit_new 74 (.tmp 10) (.tmp 41) cs 72 szObj hcs hcall _ ?_ ?_ ?_ ?_)
       ·first | exact hcs | exact zAu | rfl
       ·rfl
       ·rfl
       intro w3 hk3 hb3))
   have hb3':=bthen hb2 hb2.size hb3
   have h3:=hc.below hb3'
   have hb0:=hbw.trans (hb3'.mono hlec)
   have hle3:b≤w3.heap.size:=Nat.le_trans hlec hb3'.size
   clear hb2 hb3 hb3' hk3 hc hbw hde
   obtain ⟨A1,k1,rfl⟩:=zAm h3.ot
   have c1:=h3.c1
   go_upto_region 14 with (first
    | (at_builtin
       (with_reducible refine zAl (.tmp 49) (.tmp 51) 1 _ Tryz.txTy h3.ot #[.string (B t.1)] hc1 hc2 m1 m2 hle3 ?_ ?_ ?_);rfl;rfl
       intro v2 w4 hv2 hb4 hg4 hn4
       clear hn4
       obtain ⟨A2,k2,rfl⟩:=zAm hv2
       have p1:=(h3.grown hg4).1.cell 1
       have p2:=(h3.grown hg4).1.frozen 1))
   have h5:=h3.txt hg4 hv2
   have hb5:Below b w3 (w4.setCell ⟨g,1,none⟩ (.slice A2 (L1.length+1) k2)):=hb4.setCell (p:=⟨g,1,none⟩) h3.le _
   have hb05:=hb0.trans hb5
   have hle5:b≤(w4.setCell ⟨g,1,none⟩ (.slice A2 (L1.length+1) k2)).heap.size:=Nat.le_trans hle3 hb5.size
   generalize w4.setCell ⟨g,1,none⟩ (.slice A2 (L1.length+1) k2)=w5 at *
   clear hv2 hb4 hg4 p1 p2 hb0 hb5 c1 h3
   obtain ⟨A3,k3,rfl⟩:=zAm h5.oc
   have c2:=h5.c2
   go_wp2_with (first
    | (at_builtin
       (with_reducible refine zAl (.tmp 59) (.tmp 61) 1 _ Tryz.natTyR h5.oc #[.int .i64 (t.2:Int)] hc3 hc4 m3 m4 hle5 ?_ ?_ ?_);rfl;rfl
       intro v6 w6 hv6 hb6 hg6 hn6
       clear hn6
       obtain ⟨A6,k6,rfl⟩:=zAm hv6
       have p1:=(h5.grownN hg6).1.cell 2
       have p2:=(h5.grownN hg6).1.frozen 2))
   have h7:=hfin.out t _ _ _ (h5.num hg6 hv6)
   have hb7:Below b w5 (w6.setCell ⟨g,2,none⟩ (.slice A6 (L2.length+1) k6)):=hb6.setCell (p:=⟨g,2,none⟩) h5.le _
   go_ret
   exact ⟨by rw [hR.out];exact ⟨rfl,_,_,h7⟩,hb05.trans hb7⟩
  ·rw [if_neg hdo] at hone
   simp only [if_neg hdo] at hde
   have hR:=Lib.hid hone
   clear hone hdo
   go_wp2_with (first
    | ((with_reducible refine hde.out.mono ?_);rintro e w2 ⟨⟨cs,rfl,hcs,hcall⟩,hb2⟩)
    | ((with_reducible refine lit_new 74 (.tmp 10) (.tmp 41) cs 72 szObj hcs hcall _ ?_ ?_ ?_ ?_)
       ·first | exact hcs | exact zAu | rfl
       ·rfl
       ·rfl
       intro w3 hk3 hb3))
   have hb3':=bthen hb2 hb2.size hb3
   go_ret
   exact ⟨by rw [hR.out];rfl,hbw.trans (hb3'.mono hlec)⟩
end
section
attribute [local go_sem ↓] ldvP_eq
structure PitOk (x:PItL):Prop where
 base:x.base.length=32
 back:x.back≤9223372036854775807
 data:x.data.length≤1000000
def RslR (r:List Ahd ⊕ Nat) (b:Nat) (e:Ending) (w':World):Prop := ∃ v,e = .returned (.tuple #[v, .int .i64 (resV r).2])∧OwnTxs w' b v (resV r).1
theorem built_sol (a:Option Addr):Tryz.prog.built 106 [(0, .pointer a)]=some #[.pointer a, .slice none 0 0, .slice none 0 0]:=by kernel_rfl
theorem oneR_err0 {s:List StL} {a:List Ahd} {x:PItL} {n:Nat} (h:oneR s a x = .inr n):n≠0:=by
 unfold oneR at h
 split at h
 ·split at h
  ·cases h
  ·cases h;decide
 ·split at h
  ·rename_i hb;cases h;exact baseR_err hb
  ·split at h
   ·cases h;assumption
   ·split at h
    ·cases h
    ·cases h;decide
set_option maxRecDepth 100000 in
set_option maxHeartbeats 4000000 in
theorem zBI (l:List PItL) (hok : ∀ x∈l,PitOk x) (hl:l.length≤1000000) (s:List StL) (va vs:Value) (w:World) (hva:Pits w va l) (hs:StoV w vs s) :
 Calls Tryz.prog 10 #[va,vs] w fun e w'=>RslR (resR s l []) w.heap.size e w'∧Below w.heap.size w w':=by
 obtain ⟨p,rfl⟩:=hs.form
 have hbt:=fun W=>run_build (P:=Tryz.prog) W _ _ _ (built_sol p)
 obtain ⟨W1,hW1⟩ : ∃ W1,w.alloc (.cells #[.pointer p, .slice none 0 0, .slice none 0 0] 106)=W1:=⟨_,rfl⟩
 have x1:Blk W1 w.heap.size 106 #[.pointer p, .slice none 0 0, .slice none 0 0]:=by rw [←hW1];exact Blk.new _ _ _
 have b1:Below w.heap.size w W1:=by rw [←hW1];exact (Below.refl _ _).alloc (Nat.le_refl _) _
 have h1:SolAt W1 w.heap.size w.heap.size (.pointer p) (.slice none 0 0) (.slice none 0 0) []:=⟨x1,World.ownsRow_nil _ _ _ _,World.ownsRow_nil _ _ _ _,Nat.le_refl _⟩
 have h35z:(pitC zPit).toArray.size=35:=zAG (by kernel_rfl)
 have hsok:=hs.ok
 obtain ⟨A,capa,rfl,ha1,ha2,hata⟩:=hva
 generalize hgo:resR s l []=R
 have hgo:Hid (resR s (l.drop 0) []=R):=hgo
 clear x1
 go_enter Tryz.func10,Tryz.ntmps10
 go_wp2_with (fail)
 go_loopg [15] l.length (fun f v15 wr => ∃ (k:Nat) (a:List Ahd) (vt vc:Value),v15 = .int .i64 k∧k+f=l.length∧Hid (resR s (l.drop k) a=R)∧a.length≤k∧AhdOk a∧SolAt wr w.heap.size w.heap.size (.pointer p) vt vc a∧Below w.heap.size w wr)
 case atStart=>exact ⟨0,[],_,_,rfl,by omega,hgo,by simp,fun t ht=>by simp at ht,h1,b1⟩
 case round=>
  obtain ⟨k,a,vt,vc,rfl,hkf,hun,hak,haok,hsol,hbel⟩:=hrel
  clear hgo h1 b1 hW1
  have hbs:=hbel.size
  cases gk with
  | zero=>
    obtain rfl:k=l.length:=by omega
    rw [List.drop_length] at hun
    have hR:Hid (R = .inl a):=Lib.hid (by rw [←hun.out];rfl)
    have c1:=hsol.c1
    have ho:=hsol.ot
    clear hun hata hsol
    go_wp2_with (fail)
    all_goals try (exfalso;omega)
    go_ret2
    exact ⟨⟨_,by rw [hR.out];rfl,by rw [hR.out];exact ho⟩,hbel⟩
  | succ f=>
    have hki:(k:Int)<(l.length:Int):=by omega
    obtain ⟨ga,oa,rfl,hga,hca⟩:=hata (by omega)
    obtain ⟨x,hx⟩ : ∃ x,l[k]?=some x:=⟨_,List.getElem?_eq_getElem (by omega)⟩
    have hxok:=hok x (List.mem_of_getElem? hx)
    have hdr:l.drop k=x::l.drop (k+1):=by
     obtain ⟨hlt,he⟩:=List.getElem?_eq_some_iff.1 hx
     rw [List.drop_eq_getElem_cons hlt,he]
    rw [hdr] at hun
    have dx:=run_ldvP (zAb (hca k x hx) hga hbel) hxok.base
    have h35:(pitC x).toArray.size=35:=zAG hxok.base
    have hone:=zB0 x
    have hnew : ∀ W g,Blk W g 30 (pitC x).toArray→(ldvP ⟨g,0,none⟩).run Tryz.prog W = .ok (.agg (pitC x).toArray) W:=fun W g hb=>PitB.load ⟨hb,hxok.base⟩
    have hadd:=fun W (hW:Below wr.heap.size wr W)=>solAdd_calls (hsol.below hW) (hs.below (bthen hbel hbs hW)) (by omega) haok x hxok.base hxok.back hxok.data (Nat.le_trans hbs hW.size)
    have hok1:=fun t (h:oneR s a x = .inl t)=>oneR_ok hsok haok h
    obtain ⟨CX,hCX⟩ : ∃ CX,(pitC x).toArray=CX:=⟨_,rfl⟩
    rw [hCX] at dx h35 hone
    simp only [hCX] at hnew hadd
    clear hCX hdr hx hca hata hxok hsol
    rcases ho:oneR s a x with t | n
    ·rw [resR_step ho] at hun
     have hadd : ∀ W,Below wr.heap.size wr W→Calls Tryz.prog 39 #[.pointer (some ⟨w.heap.size,0,none⟩), .agg CX] W fun e w'=>(e = .returned (.int .i64 0) ∧ ∃ vt vc,SolAt w' w.heap.size w.heap.size (.pointer p) vt vc (a++[t]))∧Below w.heap.size W w':=fun W hW=>by have:=hadd W hW;rw [ho] at this;exact this
     have hok2:=haok.snoc (hok1 t ho)
     have hak2:(a++[t]).length≤k+1:=by rw [List.length_append,List.length_singleton];omega
     have hok2:=Lib.hid hok2
     clear hok1 ho haok
     generalize a++[t]=a2 at *
     go_wp2_with (first
      | ((with_reducible refine lit_new 30 (.tmp 8) (.tmp 18) CX 35 szPit h35 hone _ ?_ ?_ ?_ ?_)
         ·first | exact h35 | exact h35z | rfl
         ·rfl
         ·rfl
         intro w3 hk3 hb3
         have q3:=hnew _ _ hk3)
      | ((with_reducible refine (hadd _ hb3).mono ?_);rintro e w4 ⟨⟨rfl,vt4,vc4,hs4⟩,hb4⟩
         have hb4':=hbel.trans ((hb3.mono hbs).trans hb4)))
     all_goals try (exfalso;omega)
     go_roundg f
     case rel=>exact ⟨k+1,a2,_,_,by go_num,by omega,hun,hak2,hok2.out,hs4,hb4'⟩
     case measure=>omega
    ·rw [resR_err ho] at hun
     have hadd : ∀ W,Below wr.heap.size wr W→Calls Tryz.prog 39 #[.pointer (some ⟨w.heap.size,0,none⟩), .agg CX] W fun e w'=>e = .returned (.int .i64 n)∧Below w.heap.size W w':=fun W hW=>by have:=hadd W hW;rw [ho] at this;exact this
     have hne:((n:Int) != 0)=true:=by have:=oneR_err0 ho;simp;omega
     clear hok1 ho haok
     go_wp2_with (first
      | ((with_reducible refine lit_new 30 (.tmp 8) (.tmp 18) CX 35 szPit h35 hone _ ?_ ?_ ?_ ?_)
         ·first | exact h35 | exact h35z | rfl
         ·rfl
         ·rfl
         intro w3 hk3 hb3
         have q3:=hnew _ _ hk3)
      | ((with_reducible refine (hadd _ hb3).mono ?_);rintro e w4 ⟨rfl,hb4⟩
         have hb4':=hbel.trans ((hb3.mono hbs).trans hb4)))
     all_goals try (exfalso;omega)
     go_ret2
     exact ⟨⟨_,by rw [←hun.out];rfl,by rw [←hun.out];exact World.ownsRow_nil _ _ _ _⟩,hb4'⟩
end
set_option maxRecDepth 100000 in
set_option maxHeartbeats 4000000 in
theorem refApply_calls (b d:Txt) (hb:b.length≤70368744177664) (hl:d.length≤70368744177664) (w:World) :
 Calls Tryz.prog 76 #[.string (B b), .string (B d), .int .i64 4096] w fun e w'=>e = .returned (apV (apD b d))∧Below w.heap.size w w':=by
 cases hg:get d with
 | none=>
   have hG:=Lib.hid hg
   have hR:=Lib.hid (apD_none (b:=b) (headD_non hg))
   clear hg
   go_enter Tryz.func76,Tryz.ntmps76
   go_wp2_with (first
    | ((with_reducible refine (zCF hG.out (by omega) _).mono ?_);rintro e w1 ⟨rfl,rfl⟩))
   all_goals try (exfalso;omega)
   go_ret2
   exact ⟨by rw [hR.out];rfl,Below.refl _ _⟩
 | some p=>
 obtain ⟨h,k⟩:=p
 obtain ⟨hn,hk0,hkl⟩:=zAH hg
 have hG:=Lib.hid hg
 have hdl:(d.drop k).length≤4611686018427387904:=by rw [List.length_drop];omega
 have hki:((k:Int)==0)=false:=by simp;omega
 cases hg2:get (d.drop k) with
 | none=>
   have hG2:=Lib.hid hg2
   have hR:=Lib.hid (apD_none (b:=b) (headD_non2 hg hg2))
   clear hg hg2
   go_enter Tryz.func76,Tryz.ntmps76
   go_wp2_with (first
    | ((with_reducible refine (zAt hG.out (by omega) _).mono ?_);rintro e w1 ⟨rfl,rfl⟩)
    | ((with_reducible refine (zCF hG2.out hdl _).mono ?_);rintro e w1 ⟨rfl,rfl⟩))
   all_goals try (exfalso;omega)
   go_ret2
   exact ⟨by rw [hR.out];rfl,Below.refl _ _⟩
 | some p=>
 obtain ⟨s,m⟩:=p
 obtain ⟨hs,hm0,hml⟩:=zAH hg2
 rw [List.length_drop] at hml
 have hG2:=Lib.hid hg2
 have hmi:((m:Int)==0)=false:=by simp;omega
 have hh:=headD_yes hg hg2
 rw [List.drop_drop] at hh
 clear hg hg2
 by_cases h6:h=b.length
 ·have h6i:((h:Int) != (b.length:Int))=false:=by simp;omega
  have h6j:((h:Int)==(b.length:Int))=true:=by simp;omega
  by_cases h3:4096<s
  ·have hR:=Lib.hid (apD_big (b:=b) hh h6 h3)
   clear hh h6
   go_enter Tryz.func76,Tryz.ntmps76
   go_wp2_with (first
    | ((with_reducible refine (zAt hG.out (by omega) _).mono ?_);rintro e w1 ⟨rfl,rfl⟩)
    | ((with_reducible refine (zAt hG2.out hdl _).mono ?_);rintro e w1 ⟨rfl,rfl⟩))
   all_goals try (exfalso;omega)
   go_ret2
   exact ⟨by rw [hR.out];rfl,Below.refl _ _⟩
  ·have hR0:=Lib.hid (apD_go (b:=b) hh h6 (by omega))
   have hh6:=Lib.hid h6
   have hs4:s≤4096:=by omega
   generalize hgo:apF (d.drop (k+m)).length b (d.drop (k+m)) [] s=goal at hR0
   have hgoal:=Lib.hid hgo
   have hkm:k+m≤d.length:=by omega
   have hkl2:(d.drop (k+m)).length=d.length-(k+m):=List.length_drop
   clear hh h6 hgo
   go_enter Tryz.func76,Tryz.ntmps76
   go_wp2_with (first
    | ((with_reducible refine (zAt hG.out (by omega) _).mono ?_);rintro e w1 ⟨rfl,rfl⟩)
    | ((with_reducible refine (zAt hG2.out hdl _).mono ?_);rintro e w1 ⟨rfl,rfl⟩))
   all_goals try (exfalso;omega)
   go_loopw [12,13] (fun v q wr => ∃ (fu p:Nat) (out:Txt),q = .int .i64 p∧v = .string (B out)∧p≤d.length∧Hid (apF fu b (d.drop p) out s=goal)∧d.length≤p+fu∧out.length≤s∧Below w.heap.size w wr) (fun _ q _=>d.length-(intOf q).toNat)
   case atStart=>exact ⟨_,k+m,[],by go_num,rfl,by omega,hgoal,by omega,by simp,Below.refl _ _⟩
   case round=>
    obtain ⟨fu,p,out,rfl,rfl,hpl,hun,hf1,hout,hbel⟩:=hrel
    have hbs:=hbel.size
    by_cases hlt:p<d.length
    ·obtain ⟨fu,rfl⟩ : ∃ g,fu=g+1:=⟨fu-1,by omega⟩
     have hdl:(d.drop p).length≤4611686018427387904:=by rw [List.length_drop];omega
     have hdn:Hid (d.drop p≠[]):=by intro h;have:=congrArg List.length h;rw [List.length_drop] at this;simp at this;omega
     have hbad:Hid (stpD b (d.drop p)=none→apD b d=([],2)):=fun hh=>by rw [hR0.out,←hun.out,apF_bad hdn.out hh]
     have hbig:Hid (∀ t r,stpD b (d.drop p)=some (t,r)→s-out.length<t.length→apD b d=([],2)):=fun t r hh h2=>by rw [hR0.out,←hun.out,apF_big hdn.out hh h2]
     have hgo:Hid (∀ t r,stpD b (d.drop p)=some (t,r)→t.length≤s-out.length→apF fu b r (out++t) s=goal):=fun t r hh h2=>by rw [←hun.out,zDt hdn.out hh h2]
     have x0:IntKind.u64.wrap ((s:Int)-(out.length:Int))=((s-out.length:Nat):Int):=by
      rw [IntWalk.u64_in _ (by omega)];omega
     clear hun hkl2 hkm hgoal hR0 hkl hml
     rcases hg:get (d.drop p) with _ | ⟨n,k2⟩
     ·have hG3:=Lib.hid hg
      have hR2:=Lib.hid (hbad.out (stpD_none hg))
      clear hg hbad hbig hgo
      go_wp2_with (first
       | ((with_reducible refine (zCF hG3.out hdl _).mono ?_);rintro e w1 ⟨rfl,rfl⟩))
      all_goals try (exfalso;omega)
      go_ret2
      exact ⟨by rw [hR2.out];rfl,hbel⟩
     ·obtain ⟨hn3,hk3,hkl3⟩:=zAH hg
      rw [List.length_drop] at hkl3
      have hk3i:((k2:Int)==0)=false:=by simp;omega
      have hG3:=Lib.hid hg
      by_cases h0:n / 2=0
      ·have hR2:=Lib.hid (hbad.out (stpD_zero hg h0))
       have hn2:(n:Int)<2:=by omega
       clear hg hbad hbig hgo h0
       go_wp2_with (first
        | ((with_reducible refine (zAt hG3.out hdl _).mono ?_);rintro e w1 ⟨rfl,rfl⟩))
       all_goals try (exfalso;omega)
       go_ret2
       exact ⟨by rw [hR2.out];rfl,hbel⟩
      ·have hn2 : ¬ (n:Int)<2:=by omega
       have e1:((d.drop p).drop k2)=d.drop (p+k2):=by rw [List.drop_drop]
       have e2:(d.drop (p+k2)).length=d.length-(p+k2):=List.length_drop
       by_cases h2:n%2=0
       ·have h2i:((n:Int)%2==0)=true:=by simp;omega
        by_cases h4:d.length-(p+k2)<n / 2
        ·have hR2:=Lib.hid (hbad.out (stpD_short hg h0 h2 (by rw [e1,e2];exact h4)))
         have hq:Hid ((d.drop (p+k2)).length=d.length-(p+k2)):=Lib.hid e2
         clear hg hbad hbig hgo h0 h2 e1 e2
         go_wp2_with (first
          | ((with_reducible refine (zAt hG3.out hdl _).mono ?_);rintro e w1 ⟨rfl,rfl⟩))
         all_goals try (exfalso;omega)
         go_ret2
         exact ⟨by rw [hR2.out];rfl,hbel⟩
        ·have hst:=stpD_text (b:=b) hg h0 h2 (by rw [e1,e2];omega)
         rw [e1] at hst
         have hlt2:((d.drop (p+k2)).take (n / 2)).length=n / 2:=by rw [List.length_take,e2];omega
         by_cases h5:s-out.length<n / 2
         ·have hR2:=Lib.hid (hbig.out _ _ hst (by rw [hlt2];exact h5))
          clear hg hbad hbig hgo h0 h2 e1 e2 hst hlt2
          go_wp2_with (first
           | ((with_reducible refine (zAt hG3.out hdl _).mono ?_);rintro e w1 ⟨rfl,rfl⟩))
          all_goals try (exfalso;omega)
          go_ret2
          exact ⟨by rw [hR2.out];rfl,hbel⟩
         ·have hR2:=Lib.hid (hgo.out _ _ hst (by rw [hlt2];omega))
          have hlo:(out++(d.drop (p+k2)).take (n / 2)).length≤s:=by rw [List.length_append,hlt2];omega
          have x1:(B (d.drop (p+k2))).extract 0 (n / 2)=B ((d.drop (p+k2)).take (n / 2)):=zCy _ _
          rw [List.drop_drop] at hR2
          clear hg hbad hbig hgo h0 h2 e1 hst hlt2
          go_wp2_with (first
           | ((with_reducible refine (zAt hG3.out hdl _).mono ?_);rintro e w1 ⟨rfl,rfl⟩))
          all_goals try (exfalso;omega)
          go_roundw
          case rel=>exact ⟨fu,p+k2+n / 2,_,by go_num,rfl,by omega,hR2,by omega,hlo,hbel⟩
          case measure=>simp [intOf];omega
       ·have h2i:((n:Int)%2==0)=false:=by simp;omega
        have hdl2:(d.drop (p+k2)).length≤4611686018427387904:=by omega
        rcases hg4:get (d.drop (p+k2)) with _ | ⟨q,m2⟩
        ·have hG4:=Lib.hid hg4
         have hR2:=Lib.hid (hbad.out (stpD_non2 hg h0 (by omega) (by rw [e1];exact hg4)))
         clear hg hg4 hbad hbig hgo h0 h2 e1 e2
         go_wp2_with (first
          | ((with_reducible refine (zAt hG3.out hdl _).mono ?_);rintro e w1 ⟨rfl,rfl⟩)
          | ((with_reducible refine (zCF hG4.out hdl2 _).mono ?_);rintro e w1 ⟨rfl,rfl⟩))
         all_goals try (exfalso;omega)
         go_ret2
         exact ⟨by rw [hR2.out];rfl,hbel⟩
        ·obtain ⟨hq3,hm3,hml3⟩:=zAH hg4
         rw [e2] at hml3
         have hm3i:((m2:Int)==0)=false:=by simp;omega
         have hG4:=Lib.hid hg4
         by_cases h4:b.length<q
         ·have hR2:=Lib.hid (hbad.out (zEf hg h0 (by omega) (by rw [e1];exact hg4) (.inl h4)))
          clear hg hg4 hbad hbig hgo h0 h2 e1 e2
          go_wp2_with (first
           | ((with_reducible refine (zAt hG3.out hdl _).mono ?_);rintro e w1 ⟨rfl,rfl⟩)
           | ((with_reducible refine (zAt hG4.out hdl2 _).mono ?_);rintro e w1 ⟨rfl,rfl⟩))
          all_goals try (exfalso;omega)
          go_ret2
          exact ⟨by rw [hR2.out];rfl,hbel⟩
         ·have x3:IntKind.u64.wrap ((b.length:Int)-(q:Int))=((b.length-q:Nat):Int):=by
           rw [IntWalk.u64_in _ (by omega)];omega
          by_cases h5:b.length-q<n / 2
          ·have hR2:=Lib.hid (hbad.out (zEf hg h0 (by omega) (by rw [e1];exact hg4) (.inr h5)))
           clear hg hg4 hbad hbig hgo h0 h2 e1 e2
           go_wp2_with (first
            | ((with_reducible refine (zAt hG3.out hdl _).mono ?_);rintro e w1 ⟨rfl,rfl⟩)
            | ((with_reducible refine (zAt hG4.out hdl2 _).mono ?_);rintro e w1 ⟨rfl,rfl⟩))
           all_goals try (exfalso;omega)
           go_ret2
           exact ⟨by rw [hR2.out];rfl,hbel⟩
          ·have hst:=stpD_copy (b:=b) hg h0 (by omega) (by rw [e1];exact hg4) (by omega) (by omega)
           rw [e1,List.drop_drop] at hst
           have hlt2:((b.drop q).take (n / 2)).length=n / 2:=by rw [List.length_take,List.length_drop];omega
           by_cases h7:s-out.length<n / 2
           ·have hR2:=Lib.hid (hbig.out _ _ hst (by rw [hlt2];exact h7))
            clear hg hg4 hbad hbig hgo h0 h2 e1 e2 hst hlt2
            go_wp2_with (first
             | ((with_reducible refine (zAt hG3.out hdl _).mono ?_);rintro e w1 ⟨rfl,rfl⟩)
             | ((with_reducible refine (zAt hG4.out hdl2 _).mono ?_);rintro e w1 ⟨rfl,rfl⟩))
            all_goals try (exfalso;omega)
            go_ret2
            exact ⟨by rw [hR2.out];rfl,hbel⟩
           ·have hR2:=Lib.hid (hgo.out _ _ hst (by rw [hlt2];omega))
            have hlo:(out++(b.drop q).take (n / 2)).length≤s:=by rw [List.length_append,hlt2];omega
            have x1:(B b).extract q (q+n / 2)=B ((b.drop q).take (n / 2)):=by rw [zAR];rw [Nat.add_sub_cancel_left]
            clear hg hg4 hbad hbig hgo h0 h2 e1 e2 hst hlt2
            go_wp2_with (first
             | ((with_reducible refine (zAt hG3.out hdl _).mono ?_);rintro e w1 ⟨rfl,rfl⟩)
             | ((with_reducible refine (zAt hG4.out hdl2 _).mono ?_);rintro e w1 ⟨rfl,rfl⟩))
            all_goals try (exfalso;omega)
            go_roundw
            case rel=>exact ⟨fu,p+k2+m2,_,by go_num,rfl,by omega,hR2,by omega,hlo,hbel⟩
            case measure=>simp [intOf];omega
    ·obtain rfl:p=d.length:=by omega
     rw [List.drop_length] at hun
     by_cases he:out.length=s
     ·have hR2:Hid (apD b d=(out,0)):=by show _=_;rw [hR0.out,←hun.out,←he,apF_end]
      have hei:((out.length:Int) != (s:Int))=false:=by simp;omega
      have hej:((out.length:Int)==(s:Int))=true:=by simp;omega
      clear he hun
      go_wp2
      all_goals try (exfalso;omega)
      go_ret2
      exact ⟨by rw [hR2.out];rfl,hbel⟩
     ·have hR2:Hid (apD b d=([],2)):=by show _=_;rw [hR0.out,←hun.out,apF_short he]
      have hei:((out.length:Int) != (s:Int))=true:=by simp;omega
      have hej:((out.length:Int)==(s:Int))=false:=by simp;omega
      clear he hun
      go_wp2
      all_goals try (exfalso;omega)
      go_ret2
      exact ⟨by rw [hR2.out];rfl,hbel⟩
 ·have h6i:((h:Int) != (b.length:Int))=true:=by simp;omega
  have h6j:((h:Int)==(b.length:Int))=false:=by simp;omega
  have hR:=Lib.hid (apD_base (b:=b) hh h6)
  clear hh h6
  go_enter Tryz.func76,Tryz.ntmps76
  go_wp2_with (first
   | ((with_reducible refine (zAt hG.out (by omega) _).mono ?_);rintro e w1 ⟨rfl,rfl⟩)
   | ((with_reducible refine (zAt hG2.out hdl _).mono ?_);rintro e w1 ⟨rfl,rfl⟩))
  all_goals try (exfalso;omega)
  go_ret2
  exact ⟨by rw [hR.out];rfl,Below.refl _ _⟩
def idP (s:Txt) (k:Nat):Txt:=s.take k++List.replicate (32-k) 0
theorem idP_len {s:Txt} {k:Nat} (h1:k≤32) (h2:k≤s.length):(idP s k).length=32:=by unfold idP;simp;omega
theorem idP_set {s:Txt} {k:Nat} (h1:k<32) (h2:k<s.length):(idP s k).set k s[k]=idP s (k+1):=by
 unfold idP
 have hk:(s.take k).length=k:=by rw [List.length_take];omega
 have e:s.take (k+1)=s.take k++[s[k]]:=by rw [List.take_add_one,List.getElem?_eq_getElem h2];rfl
 rw [List.set_append_right _ _ (by omega),hk,Nat.sub_self,e,List.append_assoc,show 32-k=(32-(k+1))+1 from by omega,List.replicate_succ]
 rfl
theorem idP_end {s:Txt} {k:Nat} (h:k=32∨k=s.length) (h1:k≤32) (h2:k≤s.length):idP s k=idG s:=by
 unfold idP idG
 rcases h with rfl | rfl
 ·rw [show 32-s.length=0 from by omega]
 ·rw [List.take_of_length_le (Nat.le_refl _),List.take_of_length_le h1]
theorem idP_zero (s:Txt):idP s 0=noId:=by unfold idP noId;simp
theorem zCc : Tryz.prog.built 28 []=some (u8s noId):=by kernel_rfl
theorem zeroIdV (W:World):(zeroValue 28).run Tryz.prog W = .ok (.agg (u8s noId)) W:=by
 have h:(Tryz.prog.info? 28).map (·.zero)=some (some (.agg (u8s noId))):=by kernel_rfl
 obtain ⟨i,h1,h2⟩:=Option.map_eq_some_iff.1 h
 simp [zeroValue,typeInfo,h1,h2]
set_option maxRecDepth 100000 in
set_option maxHeartbeats 2000000 in
theorem zDn (s:Txt) (hs:s.length≤4611686018427387904) (w:World):Calls Tryz.prog 87 #[.string (B s)] w fun e w'=>e = .returned (.agg (u8s (idG s)))∧Below w.heap.size w w':=by
 have hzv:=zeroIdV
 have hrb:=fun W=>run_build (P:=Tryz.prog) W _ _ _ zCc
 have hZ0:=Lib.hid (idP_zero s)
 have hzl:(u8s noId).size=32:=by rw [zAh,zAc]
 have hone:=u8s_one noId
 have hZ1:u8s (idP s 0)=u8s noId:=by rw [idP_zero]
 generalize u8s noId=Z at *
 obtain ⟨W1,hW1⟩ : ∃ W1,w.alloc (.cells Z 28)=W1:=⟨_,rfl⟩
 have hx1:Blk W1 w.heap.size 28 Z:=by rw [←hW1];exact Blk.new _ _ _
 have b1:Below w.heap.size w W1:=by rw [←hW1];exact (Below.refl _ _).alloc (Nat.le_refl _) _
 have hs1:w.heap.size<W1.heap.size:=by rw [←hW1];simp
 have hHz:=Lib.hid hZ1
 clear hZ1
 go_enter Tryz.func87,Tryz.ntmps87
 go_wp2_with (first
  | ((with_reducible refine lit_new 28 (.tmp 3) (.tmp 5) Z 32 sz32 hzl hone _ ?_ ?_ ?_ ?_)
     ·exact hzl
     ·rfl
     ·rfl
     intro W2 hb2 hbl2
     have hx2:=hx1.below hbl2 hx1.lt
     have b2:=bthen b1 (Nat.le_of_lt hs1) hbl2
     clear hx1 b1))
 have hb2:Blk W2 W1.heap.size 28 (u8s (idP s 0)):=by rw [hHz.out];exact hb2
 clear hW1 hrb hzv
 generalize W1.heap.size=g at *
 go_loopw [4] (fun vi wr => ∃ k:Nat,vi = .int .i64 k∧k≤32∧k≤s.length∧Blk wr g 28 (u8s (idP s k))∧Blk wr w.heap.size 28 Z∧Below w.heap.size w wr) (fun vi _=>32-(intOf vi).toNat)
 case atStart=>exact ⟨0,rfl,by omega,by omega,hb2,hx2,b2⟩
 case round=>
  obtain ⟨k,rfl,hk1,hk2,hbk,hxk,hbel⟩:=hrel
  have hl32:=idP_len hk1 hk2
  by_cases hgo:k<32∧k<s.length
  ·obtain ⟨i1,i2⟩:=hgo
   have j1:(k:Int)<32:=by omega
   have j2:(k:Int)<(s.length:Int):=by omega
   obtain ⟨c,hc⟩ : ∃ c,s[k]=c:=⟨_,rfl⟩
   have c1:wr.cell? ⟨g,k,none⟩=some (.int .u8 (((idP s k).getD k 0).toNat:Nat)):=by rw [hbk.cell,u8s_get _ _ (by omega)]
   have f1:=hbk.frozen k
   have hb':=hbk.set_ k (.int .u8 (c.toNat:Nat))
   have he:Hid ((u8s (idP s k)).setIfInBounds k (.int .u8 (c.toNat:Nat))=u8s (idP s (k+1))):=by
    show _=_
    rw [u8s_set _ _ _ c.toNat_lt,←idP_set i1 i2,hc]
    congr 2
    simp
   rw [he.out] at hb'
   have hx':=hxk.far (p:=⟨g,k,none⟩) (by simp;omega) (.int .u8 (c.toNat:Nat))
   have hbel':=hbel.setCell (p:=⟨g,k,none⟩) (Nat.le_of_lt hs1) (.int .u8 (c.toNat:Nat))
   clear hbk hxk hbel he
   go_wp2_with (fail)
   all_goals try (exfalso;omega)
   go_roundw
   case rel=>exact ⟨k+1,by go_num,by omega,by omega,hb',hx',hbel'⟩
   case measure=>simp [intOf];omega
  ·have hend:Hid (idP s k=idG s):=idP_end (by omega) hk1 hk2
   rw [hend.out] at hbk
   have hsz:(Tryz.prog.info? 28).map (·.size)=some (u8s (idG s)).size:=by rw [zAh,idG_len];exact sz32
   have hone2:=u8s_one (idG s)
   have h32:(u8s (idG s)).size=32:=by rw [zAh,idG_len]
   obtain ⟨D,hD⟩ : ∃ D,Hid (u8s (idG s)=D):=⟨_,Lib.hid rfl⟩
   rw [hD.out] at hbk hsz hone2 h32
   by_cases i1:k<32
   ·have j1:(k:Int)<32:=by omega
    have j2 : ¬ (k:Int)<(s.length:Int):=by omega
    go_wp2_with (first
     | (refine wpList_load_row rfl 28 (.tmp 3) rfl g rfl _ _ _ _ hbk Tryz.underlying28 rfl hsz ?_)
     | (refine wpList_store_row rfl 28 (.tmp 2) (.tmp 21) rfl w.heap.size D rfl rfl _ _ hxk hsz (by rw [hzl,h32]) hone2 ?_))
    all_goals try (exfalso;omega)
    exact bodyPost_ret (results_cell_row rfl _ _ w.heap.size _ _ _ _ rfl (setRow_heap _ _ _ _ _ _ hxk) Tryz.underlying28 rfl hsz) rfl ⟨by rw [hD.out],zAa hbel (Nat.le_refl _) _⟩
   ·have j1 : ¬ (k:Int)<32:=by omega
    go_wp2_with (first
     | (refine wpList_load_row rfl 28 (.tmp 3) rfl g rfl _ _ _ _ hbk Tryz.underlying28 rfl hsz ?_)
     | (refine wpList_store_row rfl 28 (.tmp 2) (.tmp 21) rfl w.heap.size D rfl rfl _ _ hxk hsz (by rw [hzl,h32]) hone2 ?_))
    all_goals try (exfalso;omega)
    exact bodyPost_ret (results_cell_row rfl _ _ w.heap.size _ _ _ _ rfl (setRow_heap _ _ _ _ _ _ hxk) Tryz.underlying28 rfl hsz) rfl ⟨by rw [hD.out],zAa hbel (Nat.le_refl _) _⟩
set_option maxRecDepth 100000 in
set_option maxHeartbeats 1000000 in
theorem zAY (s:Txt) (n:Nat) (hs:s.length≤4611686018427387904) (hn:n≤4611686018427387904) (w:World):Calls Tryz.prog 86 #[.string (B s), .int .i64 n] w fun e w'=>e = .returned (.string (B (s.drop n))) ∧ ∃ q,w'=w.drewN q:=by
 by_cases h:s.length≤n
 ·have hi:(s.length:Int)≤(n:Int):=by omega
  have hd:s.drop n=[]:=List.drop_eq_nil_of_le h
  rw [hd]
  clear hd
  go_enter Tryz.func86,Tryz.ntmps86
  go_wp2
  all_goals try (exfalso;omega)
  go_ret
  exact ⟨rfl,0,rfl⟩
 ·have hi : ¬ (s.length:Int)≤(n:Int):=by omega
  have hle:n≤s.length:=by omega
  have hlei:(n:Int)≤(s.length:Int):=by omega
  have x2:(B s).extract n s.length=B (s.drop n):=zB5 s n
  go_enter Tryz.func86,Tryz.ntmps86
  go_wp2
  all_goals try (exfalso;omega)
  go_ret
  exact ⟨rfl,0,rfl⟩
end Go.Proofs.YtodebknbchaccaaGreatDoor
