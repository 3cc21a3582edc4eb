/- Texts of this claim, laid together: RdD, RdE, GsW, DocW, Sto, StitIn, StoW, Fold, StoB, StoO, DocO, IdSm, DocI, HexP. -/
import Derived.Test.YtbhdfaadedlcfaaGreatDoorMf
import Derived.Shelf.RegionOpenPlain
import Derived.Lib.Overlaps
import Derived.Great.FillDense
import Derived.Lib.Bytealg
namespace Go.Proofs.YtbhdfaadedlcfaaGreatDoor
open Go.RowKit
section
attribute [local go_sem ↓] ldvO_eq
theorem rKind_lt (r:Rd):(rKind r).1<256:=by
 unfold rKind
 split
 ·show (0:Nat)<256
  omega
 ·exact UInt8.toNat_lt _
theorem rEnt_ok (r:Rd) (h:r.1.length≤1000000):EntOk (rEnt r).1:=by
 have h1:=rKind_lt r
 have h2:=zDX (rKind r).2
 have h3:=zEV r
 exact ⟨rId_len _,by show (rText (rKind r).2).1.length≤_;omega,by show _≤((rKind r).1:Int);omega,by show ((rKind r).1:Int)≤_;omega⟩
theorem rEnt_le (r:Rd):(rEnt r).2.1.length≤r.1.length:=Nat.le_trans (rId_le _) (Nat.le_trans (rText_le _) (zEV _))
theorem rTree_ok : ∀ (f:Nat) (r:Rd) (acc:List EntL),r.1.length≤1000000→(∀ e∈acc,EntOk e) → ∀ e∈(rTree f r acc).1,EntOk e
 | 0,r,acc,_,h=>h
 | f+1,r,acc,hl,h=>by
   rw [rTree]
   split
   ·exact h
   ·refine rTree_ok f _ _ (Nat.le_trans (rEnt_le r) hl) ?_
    intro e he
    rcases List.mem_append.1 he with he | he
    ·exact h e he
    ·obtain rfl:=List.mem_singleton.1 he
     exact rEnt_ok r hl
theorem readO_ok (k:Nat) (hk:k<256) (r:Rd) (hr:r.1.length≤100000):ObjOk (readO k r).1:=by
 have hs:=readO_sound k r
 have h0:([]:Txt).length≤9223372036854775807:=by simp
 have hkk:=zC6 k r
 refine ⟨hs.tree,hs.target,?_,hs.pars,?_,?_,?_,hs.time,by rw [hkk];omega,by rw [hkk];omega,?_,?_⟩
 all_goals
  unfold readO
  split
  ·first
    | exact rTree_ok _ _ _ (by omega) (by simp)
    | exact h0
    | (show (-9223372036854775808:Int)≤0;omega)
    | (show (0:Int)≤9223372036854775807;omega)
  ·split
   ·first
     | exact h0
     | (intro e he;cases he;done)
     | (refine Nat.le_trans (zDX _) ?_
        rw [zDC]
        refine Nat.le_trans (Nat.le_trans (rNum_le _) (Nat.le_trans (rPars_le _ _ _) ?_)) (Nat.le_trans hr (by omega))
        rw [zDC]
        exact Nat.le_trans (rNum_le _) (rId_le _))
     | (show (-9223372036854775808:Int)≤0;omega)
     | (show (0:Int)≤9223372036854775807;omega)
   ·split
    ·first
      | exact h0
      | (intro e he;cases he;done)
      | (refine Nat.le_trans (zDX _) (Nat.le_trans (Nat.le_trans (rId_le _) (zEV _)) (by omega)))
      | (have:=rKind_lt r;show (-9223372036854775808:Int)≤((rKind r).1:Int);omega)
      | (have:=rKind_lt r;show ((rKind r).1:Int)≤9223372036854775807;omega)
    ·first
      | exact h0
      | (intro e he;cases he;done)
      | (show (rBytes r.1.length r).1.length≤_
         rcases bytes_or (n:=r.1.length) r with h | h
         ·rw [h];exact h0
         ·rw [h];omega)
      | (show (-9223372036854775808:Int)≤0;omega)
      | (show (0:Int)≤9223372036854775807;omega)
theorem zBu (k:Int):Tryz.prog.built 59 [(0, .int .i64 k)]=some (objC ⟨k,[],[],noId,[],0,[],noId,0,[]⟩ (.slice none 0 0) (.slice none 0 0)).toArray:=by kernel_rfl
theorem built_rd (t:Txt):Tryz.prog.built 141 [(0, .string (B t))]=some #[.string (B t), .bool false]:=by kernel_rfl
def DecR (x:Option ObjL) (B:Nat) (w':World) (e:Ending):Prop:=match x with
 | some o => ∃ A1 A2 k1 k2,e = .returned (.tuple #[.agg (objC o (.slice A1 o.ents.length k1) (.slice A2 o.pars.length k2)).toArray, .int .i64 0])∧ObjV w' (.slice A1 o.ents.length k1) (.slice A2 o.pars.length k2) o∧OwnEnts w' B (.slice A1 o.ents.length k1) o.ents∧OwnIds w' B (.slice A2 o.pars.length k2) o.pars
 | none=>e = .returned (.tuple #[.agg zObj, .int .i64 2])
theorem Did.val {w w':World} {gO gR:Nat} {x:ObjL×Rd} {ve vp:Value} (h:Been w gO gR w.heap.size x.1 x.2 ve vp w') (ho:ObjOk x.1) : ∃ A1 A2 k1 k2,ve = .slice A1 x.1.ents.length k1∧vp = .slice A2 x.1.pars.length k2∧ObjV w' ve vp x.1:=by
 have he:Ents w' ve x.1.ents:=SliceAt.of_own (fun e h=>zBw (ho.ents e h)) h.ents
 have hp:Ids w' vp x.1.pars:=SliceAt.of_own (fun e h=>idC_len (ho.pars e h)) h.pars
 have he':=he
 have hp':=hp
 obtain ⟨A1,k1,e1,_⟩:=he'
 obtain ⟨A2,k2,e2,_⟩:=hp'
 exact ⟨A1,A2,k1,k2,e1,e2,ho,he,hp⟩
theorem own_row {w:World} {B g:Nat} {e:TypeId} {k m:Nat} {v:Value} {zs:List Value} (h:w.ownsRow B e k v m zs) (hg:g<B) (cs:Array Value):(w.setRow g cs).ownsRow B e k v m zs:=
 Far.own (S:=[some g]) (Far.row (Far.refl _ w) (.inl (by simp)) cs) h fun q hq=>by
  have:=(World.ownsRow.lt h q hq).1
  simp;omega
theorem zCD {w:World} {B g:Nat} {ve vp:Value} {o:ObjL} (ho:ObjOk o) (he:OwnEnts w B ve o.ents) (hp:OwnIds w B vp o.pars) (hg:g<B) (cs:Array Value):ObjV (w.setRow g cs) ve vp o:=
 ⟨ho,SliceAt.of_own (fun e h=>zBw (ho.ents e h)) (own_row he hg cs),SliceAt.of_own (fun e h=>idC_len (ho.pars e h)) (own_row hp hg cs)⟩
theorem zAr (o:ObjL) (A1 A2:Option Addr) (a b c d:Nat):(objC o (.slice A1 a b) (.slice A2 c d)).toArray.all (·.oneCell')=true:=by
 refine all_oneCell_toArray ?_
 intro v hv
 unfold objC at hv
 simp only [List.mem_cons,List.mem_append] at hv
 have h8 : ∀ l:Txt,v∈(u8s l).toList→v.oneCell'=true:=fun l h=>u8v_one l v (by simpa [u8s] using h)
 rcases hv with rfl | rfl | rfl | hv | rfl | rfl | rfl | hv | rfl | rfl | hv
 ·rfl
 ·rfl
 ·rfl
 ·exact h8 _ hv
 ·rfl
 ·rfl
 ·rfl
 ·exact h8 _ hv
 ·rfl
 ·rfl
 ·cases hv
set_option maxRecDepth 100000 in
set_option maxHeartbeats 2000000 in
theorem decode_no (s:Txt) (hs:s.length≤4611686018427387904) (h:s=[]∨4096<s.length∨takeP (s.drop 1)=none ∨ ∃ t c q,takeP (s.drop 1)=some (t,c::q)) (w:World) :
 Calls Tryz.prog 47 #[.string (B s)] w fun e w'=>e = .returned (.tuple #[.agg zObj, .int .i64 2])∧Below w.heap.size w w':=by
 have hzv:=zeroObj
 obtain ⟨W0,hW0⟩ : ∃ W0,w.alloc (.cells zObj 59)=W0:=⟨_,rfl⟩
 have hz0:Blk W0 w.heap.size 59 zObj:=by rw [←hW0];exact Blk.new _ _ _
 have b0:Below w.heap.size w W0:=by rw [←hW0];exact (Below.refl _ _).alloc (Nat.le_refl _) _
 have hrb:=fun W=>run_build (P:=Tryz.prog) W _ _ _ zBt
 have hone:=zCd
 have hsz:=zE0
 by_cases h1:s=[]∨4096<s.length
 ·clear h
  rcases h1 with rfl | h1
  ·go_enter Tryz.func47,Tryz.ntmps47
   go_wp2_with (first
    | (refine wpList_store_row rfl 59 (.tmp 2) (.tmp 17) rfl w.heap.size zObj rfl rfl _ _ hz0 hsz rfl hone ?_))
   refine bodyPost_ret (zAe rfl _ _ w.heap.size _ _ _ _ rfl (setRow_heap _ _ _ _ _ _ hz0) Tryz.underlying59 rfl hsz) rfl ⟨rfl,zAa b0 (Nat.le_refl _) _⟩
  ·match s,h1,hs with
   | c::q,h1,hs=>
     simp only [List.length_cons] at h1 hs
     have i1:(4096:Int)<(q.length:Int)+1:=by omega
     go_enter Tryz.func47,Tryz.ntmps47
     go_wp2_with (first
      | (refine wpList_store_row rfl 59 (.tmp 2) (.tmp 17) rfl w.heap.size zObj rfl rfl _ _ hz0 hsz rfl hone ?_))
     refine bodyPost_ret (zAe rfl _ _ w.heap.size _ _ _ _ rfl (setRow_heap _ _ _ _ _ _ hz0) Tryz.underlying59 rfl hsz) rfl ⟨rfl,zAa b0 (Nat.le_refl _) _⟩
 ·match s,h1,hs,h with
  | [],h1,_,_=>exact absurd (.inl rfl) h1
  | c::q,h1,hs,h=>
    simp only [List.length_cons,List.drop_succ_cons,List.drop_zero,reduceCtorEq,false_or] at h1 hs h
    have hex:(B (c::q)).extract 1 (q.length+1)=B q:=by
     rw [zAV]
     simp
    have i1 : ¬ (4096:Int)<((q.length:Int)+1):=by omega
    have ht:=zEb q (by omega) W0
    rcases h with h | h | ⟨t,c2,q2,h⟩
    ·omega
    ·rw [zDa h] at ht
     have ht:=Lib.hid ht
     clear h h1
     go_enter Tryz.func47,Tryz.ntmps47
     go_wp2_with (first
      | ((with_reducible refine ht.out.mono ?_);rintro e w1 ⟨rfl,nq,rfl⟩
         have hz1:=hz0.drewN nq)
      | (refine wpList_store_row rfl 59 (.tmp 2) (.tmp 31) rfl w.heap.size zObj rfl rfl _ _ hz1 hsz rfl hone ?_))
     refine bodyPost_ret (zAe rfl _ _ w.heap.size _ _ _ _ rfl (setRow_heap _ _ _ _ _ _ hz1) Tryz.underlying59 rfl hsz) rfl ⟨rfl,zAa (bdrewN b0 nq) (Nat.le_refl _) _⟩
    ·rw [zCu h] at ht
     have ht:=Lib.hid ht
     clear h h1
     go_enter Tryz.func47,Tryz.ntmps47
     go_wp2_with (first
      | ((with_reducible refine ht.out.mono ?_);rintro e w1 ⟨rfl,nq,rfl⟩
         have hz1:=hz0.drewN nq)
      | (refine wpList_store_row rfl 59 (.tmp 2) (.tmp 31) rfl w.heap.size zObj rfl rfl _ _ hz1 hsz rfl hone ?_))
     refine bodyPost_ret (zAe rfl _ _ w.heap.size _ _ _ _ rfl (setRow_heap _ _ _ _ _ _ hz1) Tryz.underlying59 rfl hsz) rfl ⟨rfl,zAa (bdrewN b0 nq) (Nat.le_refl _) _⟩
set_option maxRecDepth 100000 in
set_option maxHeartbeats 4000000 in
theorem decode_yes (c:UInt8) (q t:Txt) (hs:q.length≤4095) (h:takeP q=some (t,[])) (w:World) :
 Calls Tryz.prog 47 #[.string (B (c::q))] w fun e w'=>DecR (decO (c::q)) w.heap.size w' e∧Below w.heap.size w w':=by
 have hzv:=zeroObj
 obtain ⟨W0,hW0⟩ : ∃ W0,w.alloc (.cells zObj 59)=W0:=⟨_,rfl⟩
 have hz0:Blk W0 w.heap.size 59 zObj:=by rw [←hW0];exact Blk.new _ _ _
 have b0:Below w.heap.size w W0:=by rw [←hW0];exact (Below.refl _ _).alloc (Nat.le_refl _) _
 have hrb:=fun W=>run_build (P:=Tryz.prog) W _ _ _ zBt
 have hone:=zCd
 have hsz:=zE0
 have hex:(B (c::q)).extract 1 (q.length+1)=B q:=by
  rw [zAV]
  simp
 have i1 : ¬ (4096:Int)<((q.length:Int)+1):=by omega
 have hlt:t.length≤100000:=by
  have:=zCr h
  rw [this] at hs
  unfold textE at hs
  simp only [List.length_append] at hs
  omega
 have ht:=zEb q (by omega) W0
 rw [zCu h] at ht
 have ht:=Lib.hid ht
 have hdec:Hid (decO (c::q)=if (readO c.toNat (t,false)).2.2=true∨(readO c.toNat (t,false)).2.1≠[]∨mayB (readO c.toNat (t,false)).1=false then none else some (readO c.toNat (t,false)).1):=by
  show _=_
  unfold decO
  simp only [h]
  rw [if_neg (by simp only [List.length_cons];omega),if_neg (by simp)]
 have hk256:c.toNat<256:=c.toNat_lt
 have hc0:0≤(c.toNat:Int):=by omega
 have hc1:(c.toNat:Int)<256:=by omega
 have hrok:=readO_ok c.toNat hk256 (t,false) hlt
 have hbd:=zBu (c.toNat:Int)
 have hbr:=built_rd t
 have e72:(objC ⟨c.toNat,[],[],noId,[],0,[],noId,0,[]⟩ (.slice none 0 0) (.slice none 0 0)).toArray.size=72:=by rw [List.size_toArray];unfold objC;simp only [List.length_cons,List.length_append,u8s_len,zAg,List.length_nil]
 have eone:(objC ⟨c.toNat,[],[],noId,[],0,[],noId,0,[]⟩ (.slice none 0 0) (.slice none 0 0)).toArray.all (·.oneCell')=true:=by kernel_rfl
 obtain ⟨D,hD⟩ : ∃ D,Hid (decO (c::q)=D):=⟨_,Lib.hid rfl⟩
 rw [hD.out] at hdec ⊢
 have hread:Hid (∀ W gO gR,gO≠gR→ObjB W gO (nObj c.toNat) (.slice none 0 0) (.slice none 0 0)→RdB W gR (t,false)→Calls Tryz.prog (if c.toNat=2 then 76 else if c.toNat=3 then 77 else if c.toNat=4 then 78 else 75) #[.pointer (some ⟨gR,0,none⟩), .pointer (some ⟨gO,0,none⟩)] W fun e w'=>e = .returned (.tuple #[])∧Did W gO gR W.heap.size (readO c.toNat (t,false)) w'):=fun W gO gR hne hO hR=>by
  unfold readO
  split
  ·exact tree_calls c.toNat (t,false) hlt gO gR hne W hO hR
  ·split
   ·exact commit_calls c.toNat (t,false) hlt gO gR hne W hO hR
   ·split
    ·exact tag_calls c.toNat (t,false) hlt gO gR hne W hO hR
    ·exact blob_calls c.toNat (t,false) hlt gO gR hne W hO hR
 generalize hX:readO c.toNat (t,false)=X at *
 clear hX h
 go_enter Tryz.func47,Tryz.ntmps47
 go_upto_region 9 with (first
  | ((with_reducible refine ht.out.mono ?_);rintro e w1 ⟨rfl,nq,rfl⟩
     have hz1:=hz0.drewN nq
     have b1:=bdrewN b0 nq
     clear ht)
  | ((with_reducible refine zAL hbd ?_ ?_);rfl)
  | ((with_reducible refine zAL hbr ?_ ?_);rfl)
  | ((with_reducible refine lit_new 59 (.tmp 7) (.tmp 35) (objC ⟨c.toNat,[],[],noId,[],0,[],noId,0,[]⟩ (.slice none 0 0) (.slice none 0 0)).toArray 72 szObj e72 eone _ ?_ ?_ ?_ ?_);rfl;rfl;rfl;intro W2 hb2 hbl2
     have hz2:=hz1.below hbl2 hz1.lt
     have b2:=bthen b1 b1.size hbl2
     clear hz1 b1))
 have hO2:ObjB W2 W0.heap.size (nObj c.toNat) (.slice none 0 0) (.slice none 0 0):=⟨hb2,zAg,zAg⟩
 obtain ⟨W3,hW3⟩ : ∃ W3,W2.alloc (.cells #[.string (B t), .bool false] 141)=W3:=⟨_,rfl⟩
 have hR3:RdB W3 W2.heap.size (t,false):=by rw [←hW3];exact Blk.new _ _ _
 have hb3:Below W2.heap.size W2 W3:=by rw [←hW3];exact (Below.refl _ _).alloc (Nat.le_refl _) _
 have hO3:=hO2.below hb3
 have hz3:=hz2.below hb3 hz2.lt
 have b3:=bthen b2 b2.size hb3
 have hb2:Blk W2 W0.heap.size 59 _:=hb2
 have hne:W0.heap.size≠W2.heap.size:=by have:=hb2.lt;omega
 have hsO:w.heap.size<W0.heap.size:=by rw [←hW0];simp
 have hsR:w.heap.size<W2.heap.size:=by have:=hb2.lt;omega
 have hrd:=hread.out W3 _ _ hne hO3 hR3
 have ck:W3.cell? ⟨W0.heap.size,0,none⟩=some (.int .i64 c.toNat):=hO3.kind
 clear hO2 hb2 hz2 b2 hb3 hread hO3 hR3
 rw [hW3]
 clear hW3 hW0 hz0 b0
 generalize W2.heap.size=gR at *
 generalize W0.heap.size=gO at *
 clear ht hbd hbr e72 eone
 have hXk : ∀ W ve vp,ObjB W gO X.1 ve vp→(ldvO ⟨gO,0,none⟩).run Tryz.prog W = .ok (.agg (objC X.1 ve vp).toArray) W:=fun W ve vp h=>zAT h hrok
 have hzlt:w.heap.size<W3.heap.size:=hz3.lt
 have hgz:some w.heap.size ∉ [some gO,some gR]:=by simp;omega
 have hgB : ∀ k,some k∈[some gO,some gR]→w.heap.size≤k:=fun k hk=>by simp at hk;omega
 have hszB:w.heap.size≤W3.heap.size:=Nat.le_of_lt hzlt
 by_cases k2:c.toNat=2
 ·have e2:((c.toNat:Int)==2)=true:=by simp;omega
  rw [if_pos k2] at hrd
  have hrd:=Lib.hid hrd
  clear k2 hne
  by_cases hb1:X.2.2=true
  ·have hDn:Hid (D=none):=by show _=_;rw [hdec.out,if_pos (.inl hb1)]
   clear hdec hD
   go_wp2_with (first
    | ((with_reducible refine hrd.out.mono ?_);rintro e w4 ⟨rfl,ve,vp,hbe⟩
       have c0:=hbe.rd.c0
       have c1:=hbe.rd.c1
       obtain ⟨A1,A2,n1,n2,rfl,rfl,hv⟩:=Did.val hbe hrok
       have hq4:=hXk w4 _ _ hbe.obj
       have hz4:=hbe.far.blk hz3 hgz
       have b4:=b3.trans (hbe.far.below (B:=w.heap.size) hszB hgB)
       rw [hb1] at c1
       clear hq4 hv c0 hb1
       clear hrd hbe)
    | (refine wpList_store_row rfl 59 (.tmp 2) (.tmp 66) rfl w.heap.size zObj rfl rfl _ _ hz4 hsz rfl hone ?_))
   refine bodyPost_ret (zAe rfl _ _ w.heap.size _ _ _ _ rfl (setRow_heap _ _ _ _ _ _ hz4) Tryz.underlying59 rfl hsz) rfl ⟨by rw [hDn.out];rfl,zAa b4 (Nat.le_refl _) _⟩
  ·by_cases hb2:X.2.1=[]
   ·cases hM:mayB X.1 with
    | false=>
      have hDn:Hid (D=none):=by show _=_;rw [hdec.out,if_pos (.inr (.inr hM))]
      clear hdec hD
      have hb1:X.2.2=false:=by simpa using hb1
      go_wp2_with (first
       | ((with_reducible refine hrd.out.mono ?_);rintro e w4 ⟨rfl,ve,vp,hbe⟩
          have c0:=hbe.rd.c0
          have c1:=hbe.rd.c1
          obtain ⟨A1,A2,n1,n2,rfl,rfl,hv⟩:=Did.val hbe hrok
          have hq4:=hXk w4 _ _ hbe.obj
          have hz4:=hbe.far.blk hz3 hgz
          have b4:=b3.trans (hbe.far.below (B:=w.heap.size) hszB hgB)
          rw [hb1] at c1
          rw [hb2] at c0
          have hmay:=zBJ X.1 A1 A2 n1 n2 w4 hv
          rw [hM] at hmay
          have hmay:=Lib.hid hmay
          clear hv hb1 hb2 hM
          clear hrd hbe)
       | ((with_reducible refine hmay.out.mono ?_);rintro e w5 ⟨rfl,hb5⟩
          have hz5:=hz4.below hb5 hz4.lt
          have b5:=bthen b4 b4.size hb5
          skip
          clear hmay)
       | (refine wpList_store_row rfl 59 (.tmp 2) (.tmp 66) rfl w.heap.size zObj rfl rfl _ _ hz5 hsz rfl hone ?_))
      refine bodyPost_ret (zAe rfl _ _ w.heap.size _ _ _ _ rfl (setRow_heap _ _ _ _ _ _ hz5) Tryz.underlying59 rfl hsz) rfl ⟨by rw [hDn.out];rfl,zAa b5 (Nat.le_refl _) _⟩
    | true=>
      have hDn:Hid (D=some X.1):=by
       show _=_
       rw [hdec.out,if_neg]
       rintro (h | h | h)
       ·exact hb1 h
       ·exact h hb2
       ·rw [hM] at h;cases h
      clear hdec hD
      have hb1:X.2.2=false:=by simpa using hb1
      go_wp2_with (first
       | ((with_reducible refine hrd.out.mono ?_);rintro e w4 ⟨rfl,ve,vp,hbe⟩
          have c0:=hbe.rd.c0
          have c1:=hbe.rd.c1
          obtain ⟨A1,A2,n1,n2,rfl,rfl,hv⟩:=Did.val hbe hrok
          have hq4:=hXk w4 _ _ hbe.obj
          have hz4:=hbe.far.blk hz3 hgz
          have b4:=b3.trans (hbe.far.below (B:=w.heap.size) hszB hgB)
          rw [hb1] at c1
          rw [hb2] at c0
          have hmay:=zBJ X.1 A1 A2 n1 n2 w4 hv
          rw [hM] at hmay
          have hmay:=Lib.hid hmay
          have hO4:=hbe.obj
          have hoe:=hbe.ents
          have hop:=hbe.pars
          have hc72:(objC X.1 (.slice A1 X.1.ents.length n1) (.slice A2 X.1.pars.length n2)).toArray.size=72:=by rw [List.size_toArray,zAv hrok]
          have hcone:=zAr X.1 A1 A2 X.1.ents.length n1 X.1.pars.length n2
          clear hb1 hb2 hM
          clear hrd hbe)
       | ((with_reducible refine hmay.out.mono ?_);rintro e w5 ⟨rfl,hb5⟩
          have hz5:=hz4.below hb5 hz4.lt
          have b5:=bthen b4 b4.size hb5
          have hO5:=hO4.below hb5
          have hoe5:=zAf hoe hb5
          have hop5:=zAf hop hb5
          have hv5:=hv.below hb5
          have hq5:=hXk w5 _ _ hO5
          generalize hcs:(objC X.1 (.slice A1 X.1.ents.length n1) (.slice A2 X.1.pars.length n2)).toArray=cs at *
          have HCS:=Lib.hid hcs
          clear hcs hq4
          clear hmay)
       | (refine wpList_store_row rfl 59 (.tmp 2) (.tmp 67) rfl w.heap.size cs rfl rfl _ _ hz5 (by rw [hc72];exact szObj) (by rw [hc72];rfl) hcone ?_))
      refine bodyPost_ret (zAe rfl _ _ w.heap.size _ _ _ _ rfl (setRow_heap _ _ _ _ _ _ hz5) Tryz.underlying59 rfl (by rw [hc72];exact szObj)) rfl ⟨?_,zAa b5 (Nat.le_refl _) _⟩
      rw [hDn.out]
      exact ⟨A1,A2,n1,n2,by rw [HCS.out];rfl,zCD hrok hoe5 hop5 hzlt _,zAw (own_row hoe5 hzlt _) (Nat.le_of_lt hzlt),zAw (own_row hop5 hzlt _) (Nat.le_of_lt hzlt)⟩
   ·have hDn:Hid (D=none):=by show _=_;rw [hdec.out,if_pos (.inr (.inl hb2))]
    clear hdec hD
    have hb1:X.2.2=false:=by simpa using hb1
    obtain ⟨x,xs,hx⟩ : ∃ x xs,X.2.1=x::xs:=by
     cases hq:X.2.1 with
     | nil=>exact absurd hq hb2
     | cons x xs=>exact ⟨x,xs,rfl⟩
    clear hb2
    go_wp2_with (first
     | ((with_reducible refine hrd.out.mono ?_);rintro e w4 ⟨rfl,ve,vp,hbe⟩
        have c0:=hbe.rd.c0
        have c1:=hbe.rd.c1
        obtain ⟨A1,A2,n1,n2,rfl,rfl,hv⟩:=Did.val hbe hrok
        have hq4:=hXk w4 _ _ hbe.obj
        have hz4:=hbe.far.blk hz3 hgz
        have b4:=b3.trans (hbe.far.below (B:=w.heap.size) hszB hgB)
        rw [hb1] at c1
        rw [hx] at c0
        clear hq4 hv hb1 hx
        clear hrd hbe)
     | (refine wpList_store_row rfl 59 (.tmp 2) (.tmp 66) rfl w.heap.size zObj rfl rfl _ _ hz4 hsz rfl hone ?_))
    refine bodyPost_ret (zAe rfl _ _ w.heap.size _ _ _ _ rfl (setRow_heap _ _ _ _ _ _ hz4) Tryz.underlying59 rfl hsz) rfl ⟨by rw [hDn.out];rfl,zAa b4 (Nat.le_refl _) _⟩
 ·have e2:((c.toNat:Int)==2)=false:=by simp;omega
  rw [if_neg k2] at hrd
  by_cases k3:c.toNat=3
  ·have e3:((c.toNat:Int)==3)=true:=by simp;omega
   rw [if_pos k3] at hrd
   have hrd:=Lib.hid hrd
   clear k2 k3 hne
   by_cases hb1:X.2.2=true
   ·have hDn:Hid (D=none):=by show _=_;rw [hdec.out,if_pos (.inl hb1)]
    clear hdec hD
    go_wp2_with (first
     | ((with_reducible refine hrd.out.mono ?_);rintro e w4 ⟨rfl,ve,vp,hbe⟩
        have c0:=hbe.rd.c0
        have c1:=hbe.rd.c1
        obtain ⟨A1,A2,n1,n2,rfl,rfl,hv⟩:=Did.val hbe hrok
        have hq4:=hXk w4 _ _ hbe.obj
        have hz4:=hbe.far.blk hz3 hgz
        have b4:=b3.trans (hbe.far.below (B:=w.heap.size) hszB hgB)
        rw [hb1] at c1
        clear hq4 hv c0 hb1
        clear hrd hbe)
     | (refine wpList_store_row rfl 59 (.tmp 2) (.tmp 66) rfl w.heap.size zObj rfl rfl _ _ hz4 hsz rfl hone ?_))
    refine bodyPost_ret (zAe rfl _ _ w.heap.size _ _ _ _ rfl (setRow_heap _ _ _ _ _ _ hz4) Tryz.underlying59 rfl hsz) rfl ⟨by rw [hDn.out];rfl,zAa b4 (Nat.le_refl _) _⟩
   ·by_cases hb2:X.2.1=[]
    ·cases hM:mayB X.1 with
     | false=>
       have hDn:Hid (D=none):=by show _=_;rw [hdec.out,if_pos (.inr (.inr hM))]
       clear hdec hD
       have hb1:X.2.2=false:=by simpa using hb1
       go_wp2_with (first
        | ((with_reducible refine hrd.out.mono ?_);rintro e w4 ⟨rfl,ve,vp,hbe⟩
           have c0:=hbe.rd.c0
           have c1:=hbe.rd.c1
           obtain ⟨A1,A2,n1,n2,rfl,rfl,hv⟩:=Did.val hbe hrok
           have hq4:=hXk w4 _ _ hbe.obj
           have hz4:=hbe.far.blk hz3 hgz
           have b4:=b3.trans (hbe.far.below (B:=w.heap.size) hszB hgB)
           rw [hb1] at c1
           rw [hb2] at c0
           have hmay:=zBJ X.1 A1 A2 n1 n2 w4 hv
           rw [hM] at hmay
           have hmay:=Lib.hid hmay
           clear hv hb1 hb2 hM
           clear hrd hbe)
        | ((with_reducible refine hmay.out.mono ?_);rintro e w5 ⟨rfl,hb5⟩
           have hz5:=hz4.below hb5 hz4.lt
           have b5:=bthen b4 b4.size hb5
           skip
           clear hmay)
        | (refine wpList_store_row rfl 59 (.tmp 2) (.tmp 66) rfl w.heap.size zObj rfl rfl _ _ hz5 hsz rfl hone ?_))
       refine bodyPost_ret (zAe rfl _ _ w.heap.size _ _ _ _ rfl (setRow_heap _ _ _ _ _ _ hz5) Tryz.underlying59 rfl hsz) rfl ⟨by rw [hDn.out];rfl,zAa b5 (Nat.le_refl _) _⟩
     | true=>
       have hDn:Hid (D=some X.1):=by
        show _=_
        rw [hdec.out,if_neg]
        rintro (h | h | h)
        ·exact hb1 h
        ·exact h hb2
        ·rw [hM] at h;cases h
       clear hdec hD
       have hb1:X.2.2=false:=by simpa using hb1
       go_wp2_with (first
        | ((with_reducible refine hrd.out.mono ?_);rintro e w4 ⟨rfl,ve,vp,hbe⟩
           have c0:=hbe.rd.c0
           have c1:=hbe.rd.c1
           obtain ⟨A1,A2,n1,n2,rfl,rfl,hv⟩:=Did.val hbe hrok
           have hq4:=hXk w4 _ _ hbe.obj
           have hz4:=hbe.far.blk hz3 hgz
           have b4:=b3.trans (hbe.far.below (B:=w.heap.size) hszB hgB)
           rw [hb1] at c1
           rw [hb2] at c0
           have hmay:=zBJ X.1 A1 A2 n1 n2 w4 hv
           rw [hM] at hmay
           have hmay:=Lib.hid hmay
           have hO4:=hbe.obj
           have hoe:=hbe.ents
           have hop:=hbe.pars
           have hc72:(objC X.1 (.slice A1 X.1.ents.length n1) (.slice A2 X.1.pars.length n2)).toArray.size=72:=by rw [List.size_toArray,zAv hrok]
           have hcone:=zAr X.1 A1 A2 X.1.ents.length n1 X.1.pars.length n2
           clear hb1 hb2 hM
           clear hrd hbe)
        | ((with_reducible refine hmay.out.mono ?_);rintro e w5 ⟨rfl,hb5⟩
           have hz5:=hz4.below hb5 hz4.lt
           have b5:=bthen b4 b4.size hb5
           have hO5:=hO4.below hb5
           have hoe5:=zAf hoe hb5
           have hop5:=zAf hop hb5
           have hv5:=hv.below hb5
           have hq5:=hXk w5 _ _ hO5
           generalize hcs:(objC X.1 (.slice A1 X.1.ents.length n1) (.slice A2 X.1.pars.length n2)).toArray=cs at *
           have HCS:=Lib.hid hcs
           clear hcs hq4
           clear hmay)
        | (refine wpList_store_row rfl 59 (.tmp 2) (.tmp 67) rfl w.heap.size cs rfl rfl _ _ hz5 (by rw [hc72];exact szObj) (by rw [hc72];rfl) hcone ?_))
       refine bodyPost_ret (zAe rfl _ _ w.heap.size _ _ _ _ rfl (setRow_heap _ _ _ _ _ _ hz5) Tryz.underlying59 rfl (by rw [hc72];exact szObj)) rfl ⟨?_,zAa b5 (Nat.le_refl _) _⟩
       rw [hDn.out]
       exact ⟨A1,A2,n1,n2,by rw [HCS.out];rfl,zCD hrok hoe5 hop5 hzlt _,zAw (own_row hoe5 hzlt _) (Nat.le_of_lt hzlt),zAw (own_row hop5 hzlt _) (Nat.le_of_lt hzlt)⟩
    ·have hDn:Hid (D=none):=by show _=_;rw [hdec.out,if_pos (.inr (.inl hb2))]
     clear hdec hD
     have hb1:X.2.2=false:=by simpa using hb1
     obtain ⟨x,xs,hx⟩ : ∃ x xs,X.2.1=x::xs:=by
      cases hq:X.2.1 with
      | nil=>exact absurd hq hb2
      | cons x xs=>exact ⟨x,xs,rfl⟩
     clear hb2
     go_wp2_with (first
      | ((with_reducible refine hrd.out.mono ?_);rintro e w4 ⟨rfl,ve,vp,hbe⟩
         have c0:=hbe.rd.c0
         have c1:=hbe.rd.c1
         obtain ⟨A1,A2,n1,n2,rfl,rfl,hv⟩:=Did.val hbe hrok
         have hq4:=hXk w4 _ _ hbe.obj
         have hz4:=hbe.far.blk hz3 hgz
         have b4:=b3.trans (hbe.far.below (B:=w.heap.size) hszB hgB)
         rw [hb1] at c1
         rw [hx] at c0
         clear hq4 hv hb1 hx
         clear hrd hbe)
      | (refine wpList_store_row rfl 59 (.tmp 2) (.tmp 66) rfl w.heap.size zObj rfl rfl _ _ hz4 hsz rfl hone ?_))
     refine bodyPost_ret (zAe rfl _ _ w.heap.size _ _ _ _ rfl (setRow_heap _ _ _ _ _ _ hz4) Tryz.underlying59 rfl hsz) rfl ⟨by rw [hDn.out];rfl,zAa b4 (Nat.le_refl _) _⟩
  ·have e3:((c.toNat:Int)==3)=false:=by simp;omega
   rw [if_neg k3] at hrd
   by_cases k4:c.toNat=4
   ·have e4:((c.toNat:Int)==4)=true:=by simp;omega
    rw [if_pos k4] at hrd
    have hrd:=Lib.hid hrd
    clear k2 k3 k4 hne
    by_cases hb1:X.2.2=true
    ·have hDn:Hid (D=none):=by show _=_;rw [hdec.out,if_pos (.inl hb1)]
     clear hdec hD
     go_wp2_with (first
      | ((with_reducible refine hrd.out.mono ?_);rintro e w4 ⟨rfl,ve,vp,hbe⟩
         have c0:=hbe.rd.c0
         have c1:=hbe.rd.c1
         obtain ⟨A1,A2,n1,n2,rfl,rfl,hv⟩:=Did.val hbe hrok
         have hq4:=hXk w4 _ _ hbe.obj
         have hz4:=hbe.far.blk hz3 hgz
         have b4:=b3.trans (hbe.far.below (B:=w.heap.size) hszB hgB)
         rw [hb1] at c1
         clear hq4 hv c0 hb1
         clear hrd hbe)
      | (refine wpList_store_row rfl 59 (.tmp 2) (.tmp 66) rfl w.heap.size zObj rfl rfl _ _ hz4 hsz rfl hone ?_))
     refine bodyPost_ret (zAe rfl _ _ w.heap.size _ _ _ _ rfl (setRow_heap _ _ _ _ _ _ hz4) Tryz.underlying59 rfl hsz) rfl ⟨by rw [hDn.out];rfl,zAa b4 (Nat.le_refl _) _⟩
    ·by_cases hb2:X.2.1=[]
     ·cases hM:mayB X.1 with
      | false=>
        have hDn:Hid (D=none):=by show _=_;rw [hdec.out,if_pos (.inr (.inr hM))]
        clear hdec hD
        have hb1:X.2.2=false:=by simpa using hb1
        go_wp2_with (first
         | ((with_reducible refine hrd.out.mono ?_);rintro e w4 ⟨rfl,ve,vp,hbe⟩
            have c0:=hbe.rd.c0
            have c1:=hbe.rd.c1
            obtain ⟨A1,A2,n1,n2,rfl,rfl,hv⟩:=Did.val hbe hrok
            have hq4:=hXk w4 _ _ hbe.obj
            have hz4:=hbe.far.blk hz3 hgz
            have b4:=b3.trans (hbe.far.below (B:=w.heap.size) hszB hgB)
            rw [hb1] at c1
            rw [hb2] at c0
            have hmay:=zBJ X.1 A1 A2 n1 n2 w4 hv
            rw [hM] at hmay
            have hmay:=Lib.hid hmay
            clear hv hb1 hb2 hM
            clear hrd hbe)
         | ((with_reducible refine hmay.out.mono ?_);rintro e w5 ⟨rfl,hb5⟩
            have hz5:=hz4.below hb5 hz4.lt
            have b5:=bthen b4 b4.size hb5
            skip
            clear hmay)
         | (refine wpList_store_row rfl 59 (.tmp 2) (.tmp 66) rfl w.heap.size zObj rfl rfl _ _ hz5 hsz rfl hone ?_))
        refine bodyPost_ret (zAe rfl _ _ w.heap.size _ _ _ _ rfl (setRow_heap _ _ _ _ _ _ hz5) Tryz.underlying59 rfl hsz) rfl ⟨by rw [hDn.out];rfl,zAa b5 (Nat.le_refl _) _⟩
      | true=>
        have hDn:Hid (D=some X.1):=by
         show _=_
         rw [hdec.out,if_neg]
         rintro (h | h | h)
         ·exact hb1 h
         ·exact h hb2
         ·rw [hM] at h;cases h
        clear hdec hD
        have hb1:X.2.2=false:=by simpa using hb1
        go_wp2_with (first
         | ((with_reducible refine hrd.out.mono ?_);rintro e w4 ⟨rfl,ve,vp,hbe⟩
            have c0:=hbe.rd.c0
            have c1:=hbe.rd.c1
            obtain ⟨A1,A2,n1,n2,rfl,rfl,hv⟩:=Did.val hbe hrok
            have hq4:=hXk w4 _ _ hbe.obj
            have hz4:=hbe.far.blk hz3 hgz
            have b4:=b3.trans (hbe.far.below (B:=w.heap.size) hszB hgB)
            rw [hb1] at c1
            rw [hb2] at c0
            have hmay:=zBJ X.1 A1 A2 n1 n2 w4 hv
            rw [hM] at hmay
            have hmay:=Lib.hid hmay
            have hO4:=hbe.obj
            have hoe:=hbe.ents
            have hop:=hbe.pars
            have hc72:(objC X.1 (.slice A1 X.1.ents.length n1) (.slice A2 X.1.pars.length n2)).toArray.size=72:=by rw [List.size_toArray,zAv hrok]
            have hcone:=zAr X.1 A1 A2 X.1.ents.length n1 X.1.pars.length n2
            clear hb1 hb2 hM
            clear hrd hbe)
         | ((with_reducible refine hmay.out.mono ?_);rintro e w5 ⟨rfl,hb5⟩
            have hz5:=hz4.below hb5 hz4.lt
            have b5:=bthen b4 b4.size hb5
            have hO5:=hO4.below hb5
            have hoe5:=zAf hoe hb5
            have hop5:=zAf hop hb5
            have hv5:=hv.below hb5
            have hq5:=hXk w5 _ _ hO5
            generalize hcs:(objC X.1 (.slice A1 X.1.ents.length n1) (.slice A2 X.1.pars.length n2)).toArray=cs at *
            have HCS:=Lib.hid hcs
            clear hcs hq4
            clear hmay)
         | (refine wpList_store_row rfl 59 (.tmp 2) (.tmp 67) rfl w.heap.size cs rfl rfl _ _ hz5 (by rw [hc72];exact szObj) (by rw [hc72];rfl) hcone ?_))
        refine bodyPost_ret (zAe rfl _ _ w.heap.size _ _ _ _ rfl (setRow_heap _ _ _ _ _ _ hz5) Tryz.underlying59 rfl (by rw [hc72];exact szObj)) rfl ⟨?_,zAa b5 (Nat.le_refl _) _⟩
        rw [hDn.out]
        exact ⟨A1,A2,n1,n2,by rw [HCS.out];rfl,zCD hrok hoe5 hop5 hzlt _,zAw (own_row hoe5 hzlt _) (Nat.le_of_lt hzlt),zAw (own_row hop5 hzlt _) (Nat.le_of_lt hzlt)⟩
     ·have hDn:Hid (D=none):=by show _=_;rw [hdec.out,if_pos (.inr (.inl hb2))]
      clear hdec hD
      have hb1:X.2.2=false:=by simpa using hb1
      obtain ⟨x,xs,hx⟩ : ∃ x xs,X.2.1=x::xs:=by
       cases hq:X.2.1 with
       | nil=>exact absurd hq hb2
       | cons x xs=>exact ⟨x,xs,rfl⟩
      clear hb2
      go_wp2_with (first
       | ((with_reducible refine hrd.out.mono ?_);rintro e w4 ⟨rfl,ve,vp,hbe⟩
          have c0:=hbe.rd.c0
          have c1:=hbe.rd.c1
          obtain ⟨A1,A2,n1,n2,rfl,rfl,hv⟩:=Did.val hbe hrok
          have hq4:=hXk w4 _ _ hbe.obj
          have hz4:=hbe.far.blk hz3 hgz
          have b4:=b3.trans (hbe.far.below (B:=w.heap.size) hszB hgB)
          rw [hb1] at c1
          rw [hx] at c0
          clear hq4 hv hb1 hx
          clear hrd hbe)
       | (refine wpList_store_row rfl 59 (.tmp 2) (.tmp 66) rfl w.heap.size zObj rfl rfl _ _ hz4 hsz rfl hone ?_))
      refine bodyPost_ret (zAe rfl _ _ w.heap.size _ _ _ _ rfl (setRow_heap _ _ _ _ _ _ hz4) Tryz.underlying59 rfl hsz) rfl ⟨by rw [hDn.out];rfl,zAa b4 (Nat.le_refl _) _⟩
   ·have e4:((c.toNat:Int)==4)=false:=by simp;omega
    rw [if_neg k4] at hrd
    have hrd:=Lib.hid hrd
    clear k2 k3 k4 hne
    by_cases hb1:X.2.2=true
    ·have hDn:Hid (D=none):=by show _=_;rw [hdec.out,if_pos (.inl hb1)]
     clear hdec hD
     go_wp2_with (first
      | ((with_reducible refine hrd.out.mono ?_);rintro e w4 ⟨rfl,ve,vp,hbe⟩
         have c0:=hbe.rd.c0
         have c1:=hbe.rd.c1
         obtain ⟨A1,A2,n1,n2,rfl,rfl,hv⟩:=Did.val hbe hrok
         have hq4:=hXk w4 _ _ hbe.obj
         have hz4:=hbe.far.blk hz3 hgz
         have b4:=b3.trans (hbe.far.below (B:=w.heap.size) hszB hgB)
         rw [hb1] at c1
         clear hq4 hv c0 hb1
         clear hrd hbe)
      | (refine wpList_store_row rfl 59 (.tmp 2) (.tmp 66) rfl w.heap.size zObj rfl rfl _ _ hz4 hsz rfl hone ?_))
     refine bodyPost_ret (zAe rfl _ _ w.heap.size _ _ _ _ rfl (setRow_heap _ _ _ _ _ _ hz4) Tryz.underlying59 rfl hsz) rfl ⟨by rw [hDn.out];rfl,zAa b4 (Nat.le_refl _) _⟩
    ·by_cases hb2:X.2.1=[]
     ·cases hM:mayB X.1 with
      | false=>
        have hDn:Hid (D=none):=by show _=_;rw [hdec.out,if_pos (.inr (.inr hM))]
        clear hdec hD
        have hb1:X.2.2=false:=by simpa using hb1
        go_wp2_with (first
         | ((with_reducible refine hrd.out.mono ?_);rintro e w4 ⟨rfl,ve,vp,hbe⟩
            have c0:=hbe.rd.c0
            have c1:=hbe.rd.c1
            obtain ⟨A1,A2,n1,n2,rfl,rfl,hv⟩:=Did.val hbe hrok
            have hq4:=hXk w4 _ _ hbe.obj
            have hz4:=hbe.far.blk hz3 hgz
            have b4:=b3.trans (hbe.far.below (B:=w.heap.size) hszB hgB)
            rw [hb1] at c1
            rw [hb2] at c0
            have hmay:=zBJ X.1 A1 A2 n1 n2 w4 hv
            rw [hM] at hmay
            have hmay:=Lib.hid hmay
            clear hv hb1 hb2 hM
            clear hrd hbe)
         | ((with_reducible refine hmay.out.mono ?_);rintro e w5 ⟨rfl,hb5⟩
            have hz5:=hz4.below hb5 hz4.lt
            have b5:=bthen b4 b4.size hb5
            skip
            clear hmay)
         | (refine wpList_store_row rfl 59 (.tmp 2) (.tmp 66) rfl w.heap.size zObj rfl rfl _ _ hz5 hsz rfl hone ?_))
        refine bodyPost_ret (zAe rfl _ _ w.heap.size _ _ _ _ rfl (setRow_heap _ _ _ _ _ _ hz5) Tryz.underlying59 rfl hsz) rfl ⟨by rw [hDn.out];rfl,zAa b5 (Nat.le_refl _) _⟩
      | true=>
        have hDn:Hid (D=some X.1):=by
         show _=_
         rw [hdec.out,if_neg]
         rintro (h | h | h)
         ·exact hb1 h
         ·exact h hb2
         ·rw [hM] at h;cases h
        clear hdec hD
        have hb1:X.2.2=false:=by simpa using hb1
        go_wp2_with (first
         | ((with_reducible refine hrd.out.mono ?_);rintro e w4 ⟨rfl,ve,vp,hbe⟩
            have c0:=hbe.rd.c0
            have c1:=hbe.rd.c1
            obtain ⟨A1,A2,n1,n2,rfl,rfl,hv⟩:=Did.val hbe hrok
            have hq4:=hXk w4 _ _ hbe.obj
            have hz4:=hbe.far.blk hz3 hgz
            have b4:=b3.trans (hbe.far.below (B:=w.heap.size) hszB hgB)
            rw [hb1] at c1
            rw [hb2] at c0
            have hmay:=zBJ X.1 A1 A2 n1 n2 w4 hv
            rw [hM] at hmay
            have hmay:=Lib.hid hmay
            have hO4:=hbe.obj
            have hoe:=hbe.ents
            have hop:=hbe.pars
            have hc72:(objC X.1 (.slice A1 X.1.ents.length n1) (.slice A2 X.1.pars.length n2)).toArray.size=72:=by rw [List.size_toArray,zAv hrok]
            have hcone:=zAr X.1 A1 A2 X.1.ents.length n1 X.1.pars.length n2
            clear hb1 hb2 hM
            clear hrd hbe)
         | ((with_reducible refine hmay.out.mono ?_);rintro e w5 ⟨rfl,hb5⟩
            have hz5:=hz4.below hb5 hz4.lt
            have b5:=bthen b4 b4.size hb5
            have hO5:=hO4.below hb5
            have hoe5:=zAf hoe hb5
            have hop5:=zAf hop hb5
            have hv5:=hv.below hb5
            have hq5:=hXk w5 _ _ hO5
            generalize hcs:(objC X.1 (.slice A1 X.1.ents.length n1) (.slice A2 X.1.pars.length n2)).toArray=cs at *
            have HCS:=Lib.hid hcs
            clear hcs hq4
            clear hmay)
         | (refine wpList_store_row rfl 59 (.tmp 2) (.tmp 67) rfl w.heap.size cs rfl rfl _ _ hz5 (by rw [hc72];exact szObj) (by rw [hc72];rfl) hcone ?_))
        refine bodyPost_ret (zAe rfl _ _ w.heap.size _ _ _ _ rfl (setRow_heap _ _ _ _ _ _ hz5) Tryz.underlying59 rfl (by rw [hc72];exact szObj)) rfl ⟨?_,zAa b5 (Nat.le_refl _) _⟩
        rw [hDn.out]
        exact ⟨A1,A2,n1,n2,by rw [HCS.out];rfl,zCD hrok hoe5 hop5 hzlt _,zAw (own_row hoe5 hzlt _) (Nat.le_of_lt hzlt),zAw (own_row hop5 hzlt _) (Nat.le_of_lt hzlt)⟩
     ·have hDn:Hid (D=none):=by show _=_;rw [hdec.out,if_pos (.inr (.inl hb2))]
      clear hdec hD
      have hb1:X.2.2=false:=by simpa using hb1
      obtain ⟨x,xs,hx⟩ : ∃ x xs,X.2.1=x::xs:=by
       cases hq:X.2.1 with
       | nil=>exact absurd hq hb2
       | cons x xs=>exact ⟨x,xs,rfl⟩
      clear hb2
      go_wp2_with (first
       | ((with_reducible refine hrd.out.mono ?_);rintro e w4 ⟨rfl,ve,vp,hbe⟩
          have c0:=hbe.rd.c0
          have c1:=hbe.rd.c1
          obtain ⟨A1,A2,n1,n2,rfl,rfl,hv⟩:=Did.val hbe hrok
          have hq4:=hXk w4 _ _ hbe.obj
          have hz4:=hbe.far.blk hz3 hgz
          have b4:=b3.trans (hbe.far.below (B:=w.heap.size) hszB hgB)
          rw [hb1] at c1
          rw [hx] at c0
          clear hq4 hv hb1 hx
          clear hrd hbe)
       | (refine wpList_store_row rfl 59 (.tmp 2) (.tmp 66) rfl w.heap.size zObj rfl rfl _ _ hz4 hsz rfl hone ?_))
      refine bodyPost_ret (zAe rfl _ _ w.heap.size _ _ _ _ rfl (setRow_heap _ _ _ _ _ _ hz4) Tryz.underlying59 rfl hsz) rfl ⟨by rw [hDn.out];rfl,zAa b4 (Nat.le_refl _) _⟩
end
theorem zEw (s:Txt) (hs:s.length≤4611686018427387904) (w:World):Calls Tryz.prog 47 #[.string (B s)] w fun e w'=>DecR (decO s) w.heap.size w' e∧Below w.heap.size w w':=by
 have hno:decO s=none→(s=[]∨4096<s.length∨takeP (s.drop 1)=none ∨ ∃ t c q,takeP (s.drop 1)=some (t,c::q))→Calls Tryz.prog 47 #[.string (B s)] w fun e w'=>DecR (decO s) w.heap.size w' e∧Below w.heap.size w w':=fun h1 h2=>by
  rw [h1]
  exact decode_no s hs h2 w
 match s,hs,hno with
 | [],hs,hno=>exact hno rfl (.inl rfl)
 | c::q,hs,hno=>
   by_cases h1:4096<(c::q).length
   ·exact hno (by unfold decO;simp only;rw [if_pos h1]) (.inr (.inl h1))
   ·cases ht:takeP q with
    | none=>exact hno (by unfold decO;simp only [ht];rw [if_neg h1]) (.inr (.inr (.inl ht)))
    | some p=>
      obtain ⟨t,b⟩:=p
      cases b with
      | nil=>exact decode_yes c q t (by simp only [List.length_cons] at h1;omega) ht w
      | cons x b=>exact hno (by unfold decO;simp only [ht];rw [if_neg h1,if_pos (by simp)]) (.inr (.inr (.inr ⟨t,x,b,ht⟩)))
theorem small_enc {o:ObjL} {t:Txt} (h:encO o=some t):Small o:=by
 have h1:o.data.length≤4096:=Nat.le_of_not_lt fun hc=>by rw [enc_data hc] at h;cases h
 have h2:o.text.length≤4096:=Nat.le_of_not_lt fun hc=>by rw [enc_text hc] at h;cases h
 have hm:mayB o=true:=by
  unfold encO at h
  split at h
  ·rename_i hc;exact hc.1
  ·cases h
 have ha:=zCN hm
 unfold aloneB at ha
 have z:([]:Txt).length≤100:=by simp
 rcases zCE hm with hk | hk | hk | hk
 ·rw [hk] at ha
  simp at ha
  obtain ⟨c1,c2,c3,c4⟩:=zBe ha.1.2
  obtain ⟨t1,t2,t3⟩:=tag_all ha.2
  have e1:=zBm ha.1.1
  exact ⟨by rw [e1];simp,by rw [e1];simp,by rw [c2];simp,by omega,by omega,by rw [t3];simp⟩
 ·rw [hk] at ha
  simp at ha
  obtain ⟨c1,c2,c3,c4⟩:=zBe ha.1.2
  obtain ⟨t1,t2,t3⟩:=tag_all ha.2
  have hf:entsB o.ents=true:=by
   unfold mayB at hm
   rw [if_pos hk] at hm
   simp at hm
   exact hm.2
  have hfine:=zDF hf
  exact ⟨by omega,fun e he=>by have:=zC8 (hfine.2 e he).1;omega,by rw [c2];simp,by omega,by omega,by rw [t3];simp⟩
 ·have hp8:o.pars.length≤8:=by
   unfold mayB at hm
   rw [if_neg (by omega),if_pos hk] at hm
   simp at hm
   exact hm.2
  rw [hk] at ha
  simp at ha
  obtain ⟨t1,t2,t3⟩:=tag_all ha.2
  have e2:=zBm ha.1.2
  exact ⟨by rw [e2];simp,by rw [e2];simp,by omega,by omega,by omega,by rw [t3];simp⟩
 ·have hfn:nameB o.name=true:=by
   unfold mayB at hm
   rw [if_neg (by omega),if_neg (by omega),if_pos hk] at hm
   simp at hm
   exact hm.2
  rw [hk] at ha
  simp at ha
  obtain ⟨c1,c2,c3,c4⟩:=zBe ha.2
  have e2:=zBm ha.1.2
  have:=zC8 hfn
  exact ⟨by rw [e2];simp,by rw [e2];simp,by rw [c2];simp,by omega,by omega,by omega⟩
def idP (s:Txt) (k:Nat):Txt:=s.take k++List.replicate (32-k) 0
theorem idP_len {s:Txt} {k:Nat} (h1:k≤32) (h2:k≤s.length):(idP s k).length=32:=by unfold idP;simp;omega
theorem idP_set {s:Txt} {k:Nat} (h1:k<32) (h2:k<s.length):(idP s k).set k s[k]=idP s (k+1):=by
 unfold idP
 have hk:(s.take k).length=k:=by rw [List.length_take];omega
 have e:s.take (k+1)=s.take k++[s[k]]:=by rw [List.take_add_one,List.getElem?_eq_getElem h2];rfl
 rw [List.set_append_right _ _ (by omega),hk,Nat.sub_self,e,List.append_assoc,show 32-k=(32-(k+1))+1 from by omega,List.replicate_succ]
 rfl
theorem idP_end {s:Txt} {k:Nat} (h:k=32∨k=s.length) (h1:k≤32) (h2:k≤s.length):idP s k=idG s:=by
 unfold idP idG
 rcases h with rfl | rfl
 ·rw [show 32-s.length=0 from by omega]
 ·rw [List.take_of_length_le (Nat.le_refl _),List.take_of_length_le h1]
theorem idP_zero (s:Txt):idP s 0=noId:=by unfold idP noId;simp
theorem zBS : Tryz.prog.built 46 []=some (u8s noId):=by kernel_rfl
theorem zeroIdV (W:World):(zeroValue 46).run Tryz.prog W = .ok (.agg (u8s noId)) W:=by
 have h:(Tryz.prog.info? 46).map (·.zero)=some (some (.agg (u8s noId))):=by kernel_rfl
 obtain ⟨i,h1,h2⟩:=Option.map_eq_some_iff.1 h
 simp [zeroValue,typeInfo,h1,h2]
set_option maxRecDepth 100000 in
set_option maxHeartbeats 2000000 in
theorem zD0 (s:Txt) (hs:s.length≤4611686018427387904) (w:World):Calls Tryz.prog 121 #[.string (B s)] w fun e w'=>e = .returned (.agg (u8s (idG s)))∧Below w.heap.size w w':=by
 have hzv:=zeroIdV
 have hrb:=fun W=>run_build (P:=Tryz.prog) W _ _ _ zBS
 have hZ0:=Lib.hid (idP_zero s)
 have hzl:(u8s noId).size=32:=by rw [zAj,zAg]
 have hone:=u8s_one noId
 have hZ1:u8s (idP s 0)=u8s noId:=by rw [idP_zero]
 generalize u8s noId=Z at *
 obtain ⟨W1,hW1⟩ : ∃ W1,w.alloc (.cells Z 46)=W1:=⟨_,rfl⟩
 have hx1:Blk W1 w.heap.size 46 Z:=by rw [←hW1];exact Blk.new _ _ _
 have b1:Below w.heap.size w W1:=by rw [←hW1];exact (Below.refl _ _).alloc (Nat.le_refl _) _
 have hs1:w.heap.size<W1.heap.size:=by rw [←hW1];simp
 have hHz:=Lib.hid hZ1
 clear hZ1
 go_enter Tryz.func121,Tryz.ntmps121
 go_wp2_with (first
  | ((with_reducible refine lit_new 46 (.tmp 3) (.tmp 5) Z 32 sz32 hzl hone _ ?_ ?_ ?_ ?_)
     ·exact hzl
     ·rfl
     ·rfl
     intro W2 hb2 hbl2
     have hx2:=hx1.below hbl2 hx1.lt
     have b2:=bthen b1 (Nat.le_of_lt hs1) hbl2
     clear hx1 b1))
 have hb2:Blk W2 W1.heap.size 46 (u8s (idP s 0)):=by rw [hHz.out];exact hb2
 clear hW1 hrb hzv
 generalize W1.heap.size=g at *
 go_loopw [4] (fun vi wr => ∃ k:Nat,vi = .int .i64 k∧k≤32∧k≤s.length∧Blk wr g 46 (u8s (idP s k))∧Blk wr w.heap.size 46 Z∧Below w.heap.size w wr) (fun vi _=>32-(intOf vi).toNat)
 case atStart=>exact ⟨0,rfl,by omega,by omega,hb2,hx2,b2⟩
 case round=>
  obtain ⟨k,rfl,hk1,hk2,hbk,hxk,hbel⟩:=hrel
  have hl32:=idP_len hk1 hk2
  by_cases hgo:k<32∧k<s.length
  ·obtain ⟨i1,i2⟩:=hgo
   have j1:(k:Int)<32:=by omega
   have j2:(k:Int)<(s.length:Int):=by omega
   obtain ⟨c,hc⟩ : ∃ c,s[k]=c:=⟨_,rfl⟩
   have c1:wr.cell? ⟨g,k,none⟩=some (.int .u8 (((idP s k).getD k 0).toNat:Nat)):=by rw [hbk.cell,u8s_get _ _ (by omega)]
   have f1:=hbk.frozen k
   have hb':=hbk.set_ k (.int .u8 (c.toNat:Nat))
   have he:Hid ((u8s (idP s k)).setIfInBounds k (.int .u8 (c.toNat:Nat))=u8s (idP s (k+1))):=by
    show _=_
    rw [u8s_set _ _ _ c.toNat_lt,←idP_set i1 i2,hc]
    congr 2
    simp
   rw [he.out] at hb'
   have hx':=hxk.far (p:=⟨g,k,none⟩) (by simp;omega) (.int .u8 (c.toNat:Nat))
   have hbel':=hbel.setCell (p:=⟨g,k,none⟩) (Nat.le_of_lt hs1) (.int .u8 (c.toNat:Nat))
   clear hbk hxk hbel he
   go_wp2_with (fail)
   all_goals try (exfalso;omega)
   go_roundw
   case rel=>exact ⟨k+1,by go_num,by omega,by omega,hb',hx',hbel'⟩
   case measure=>simp [intOf];omega
  ·have hend:Hid (idP s k=idG s):=idP_end (by omega) hk1 hk2
   rw [hend.out] at hbk
   have hsz:(Tryz.prog.info? 46).map (·.size)=some (u8s (idG s)).size:=by rw [zAj,idG_len];exact sz32
   have hone2:=u8s_one (idG s)
   have h32:(u8s (idG s)).size=32:=by rw [zAj,idG_len]
   obtain ⟨D,hD⟩ : ∃ D,Hid (u8s (idG s)=D):=⟨_,Lib.hid rfl⟩
   rw [hD.out] at hbk hsz hone2 h32
   by_cases i1:k<32
   ·have j1:(k:Int)<32:=by omega
    have j2 : ¬ (k:Int)<(s.length:Int):=by omega
    go_wp2_with (first
     | (refine wpList_load_row rfl 46 (.tmp 3) rfl g rfl _ _ _ _ hbk Tryz.underlying46 rfl hsz ?_)
     | (refine wpList_store_row rfl 46 (.tmp 2) (.tmp 21) rfl w.heap.size D rfl rfl _ _ hxk hsz (by rw [hzl,h32]) hone2 ?_))
    all_goals try (exfalso;omega)
    exact bodyPost_ret (results_cell_row rfl _ _ w.heap.size _ _ _ _ rfl (setRow_heap _ _ _ _ _ _ hxk) Tryz.underlying46 rfl hsz) rfl ⟨by rw [hD.out],zAa hbel (Nat.le_refl _) _⟩
   ·have j1 : ¬ (k:Int)<32:=by omega
    go_wp2_with (first
     | (refine wpList_load_row rfl 46 (.tmp 3) rfl g rfl _ _ _ _ hbk Tryz.underlying46 rfl hsz ?_)
     | (refine wpList_store_row rfl 46 (.tmp 2) (.tmp 21) rfl w.heap.size D rfl rfl _ _ hxk hsz (by rw [hzl,h32]) hone2 ?_))
    all_goals try (exfalso;omega)
    exact bodyPost_ret (results_cell_row rfl _ _ w.heap.size _ _ _ _ rfl (setRow_heap _ _ _ _ _ _ hxk) Tryz.underlying46 rfl hsz) rfl ⟨by rw [hD.out],zAa hbel (Nat.le_refl _) _⟩
set_option maxRecDepth 100000 in
set_option maxHeartbeats 1000000 in
theorem zAY (s:Txt) (n:Nat) (hs:s.length≤4611686018427387904) (hn:n≤4611686018427387904) (w:World):Calls Tryz.prog 120 #[.string (B s), .int .i64 n] w fun e w'=>e = .returned (.string (B (s.drop n))) ∧ ∃ q,w'=w.drewN q:=by
 by_cases h:s.length≤n
 ·have hi:(s.length:Int)≤(n:Int):=by omega
  have hd:s.drop n=[]:=List.drop_eq_nil_of_le h
  rw [hd]
  clear hd
  go_enter Tryz.func120,Tryz.ntmps120
  go_wp2
  all_goals try (exfalso;omega)
  go_ret
  exact ⟨rfl,0,rfl⟩
 ·have hi : ¬ (s.length:Int)≤(n:Int):=by omega
  have hle:n≤s.length:=by omega
  have hlei:(n:Int)≤(s.length:Int):=by omega
  have x2:(B s).extract n s.length=B (s.drop n):=zCg s n
  go_enter Tryz.func120,Tryz.ntmps120
  go_wp2
  all_goals try (exfalso;omega)
  go_ret
  exact ⟨rfl,0,rfl⟩
section
structure DiL where
 st:StL
 o:ObjL
 ve:Value
 vp:Value
def ditC (e:DiL):List Value:=(u8s e.st.id).toList ++ .string (B e.st.text)::objC e.o e.ve e.vp
structure DitOk (w:World) (e:DiL):Prop where
 dec:decO e.st.text=some e.o
 id:e.st.id.length=32
 ok:ObjOk e.o
 oe:OwnEnts w 0 e.ve e.o.ents
 op:OwnIds w 0 e.vp e.o.pars
theorem DitOk.val {w:World} {e:DiL} (h:DitOk w e):ObjV w e.ve e.vp e.o:=⟨h.ok,SliceAt.of_own (fun x hx=>zBw (h.ok.ents x hx)) h.oe,SliceAt.of_own (fun x hx=>idC_len (h.ok.pars x hx)) h.op⟩
theorem DitOk.below {w w':World} {e:DiL} (h:DitOk w e) (hb:Below w.heap.size w w'):DitOk w' e:=⟨h.dec,h.id,h.ok,zAf h.oe hb,zAf h.op hb⟩
theorem DitOk.forms {w:World} {e:DiL} (h:DitOk w e) : ∃ A1 A2 k1 k2,e.ve = .slice A1 e.o.ents.length k1∧e.vp = .slice A2 e.o.pars.length k2:=by
 obtain ⟨A1,k1,e1,_⟩:=h.val.ents
 obtain ⟨A2,k2,e2,_⟩:=h.val.pars
 exact ⟨A1,A2,k1,k2,e1,e2⟩
theorem zC0 {w:World} {e:DiL} (h:DitOk w e):(ditC e).length=105:=by
 unfold ditC
 rw [List.length_append,zAI,h.id,List.length_cons,zAv h.val.ok]
theorem ditC_one {w:World} {e:DiL} (h:DitOk w e) : ∀ u∈ditC e,u.oneCell'=true:=by
 obtain ⟨A1,A2,k1,k2,e1,e2⟩:=h.forms
 intro u hu
 unfold ditC at hu
 rw [e1,e2] at hu
 rcases List.mem_append.1 hu with hu | hu
 ·exact u8v_one e.st.id u (by simpa [u8s] using hu)
 ·rcases List.mem_cons.1 hu with rfl | hu
  ·rfl
  ·have:=Array.all_eq_true_iff_forall_mem.1 (zAr e.o A1 A2 e.o.ents.length k1 e.o.pars.length k2) u (by simpa using hu)
   exact this
def zDit : Value := .agg ((u8s noId).toList ++ .string (B [])::objC zeroO (.slice none 0 0) (.slice none 0 0)).toArray
theorem Tryz.ditTy : SliceTy Tryz.prog 26 70 zDit 105 232:=⟨Tryz.underlying26,info_parts (by kernel_rfl),by kernel_rfl,by omega⟩
theorem szDit : (Tryz.prog.info? 70).map (·.size)=some 105:=by kernel_rfl
section
variable {w:World} {g o:Nat} {e:DiL}
theorem dit_id (h:w.rangeAt g o (ditC e)):w.rangeAt g o (u8s e.st.id).toList:=fun j u hu=>h j u (by
 unfold ditC
 rw [List.getElem?_append_left (List.getElem?_eq_some_iff.1 hu).1]
 exact hu)
theorem dit_rest (h:w.rangeAt g o (ditC e)) (hid:e.st.id.length=32):w.rangeAt g (o+32) (.string (B e.st.text)::objC e.o e.ve e.vp):=fun j u hu=>by
 have:=h (32+j) u (by
  unfold ditC
  rw [List.getElem?_append_right (by rw [zAI,hid];omega),zAI,hid,Nat.add_sub_cancel_left]
  exact hu)
 rwa [←Nat.add_assoc] at this
theorem dit_text (h:w.rangeAt g o (ditC e)) (hid:e.st.id.length=32):w.cell? ⟨g,o+32,none⟩=some (.string (B e.st.text)):=by
 have:=dit_rest h hid 0 _ rfl
 rwa [Nat.add_zero] at this
theorem dit_obj (h:w.rangeAt g o (ditC e)) (hid:e.st.id.length=32):w.rangeAt g (o+33) (objC e.o e.ve e.vp):=fun j u hu=>by
 have:=dit_rest h hid (1+j) u (by
  rw [show 1+j=j+1 from by omega,List.getElem?_cons_succ]
  exact hu)
 rwa [show o+32+(1+j)=o+33+j from by omega] at this
theorem dit_kind (h:w.rangeAt g o (ditC e)) (hid:e.st.id.length=32):w.cell? ⟨g,o+33,none⟩=some (.int .i64 e.o.kind):=by
 have:=dit_obj h hid 0 _ rfl
 rwa [Nat.add_zero] at this
end
abbrev OwnDits (w:World) (B:Nat) (v:Value) (l:List DiL):Prop:=w.ownsRow B 70 105 v l.length (rowsOf ditC l)
structure DocSt (w:World) (vm:Value) (es:List DiL):Prop where
 own:OwnDits w 0 vm es
 each : ∀ e∈es,DitOk w e
 ok:StoOk (es.map (·.st))
theorem DocSt.at_ {w:World} {vm:Value} {es:List DiL} (h:DocSt w vm es):SliceAt w 105 ditC vm es:=SliceAt.of_own (fun e he=>zC0 (h.each e he)) h.own
theorem DocSt.below {w w':World} {vm:Value} {es:List DiL} (h:DocSt w vm es) (hb:Below w.heap.size w w'):DocSt w' vm es:=⟨zAf h.own hb,fun e he=>(h.each e he).below hb,h.ok⟩
theorem DocSt.few {w:World} {vm:Value} {es:List DiL} (h:DocSt w vm es):es.length≤500000:=by have:=h.ok.few;rwa [List.length_map] at this
def AtR (es:List DiL) (n:Txt) (e:Ending):Prop:=(∃ (k:Nat) (x:DiL),e = .returned (.int .i64 k)∧es[k]?=some x∧getS (es.map (·.st)) n=some x.st)∨(e = .returned (.int .i64 (-1))∧getS (es.map (·.st)) n=none)
theorem getS_drop {s:List StL} {k:Nat} {x:StL} {n:Txt} (hx:s[k]?=some x):getS (s.drop k) n=if x.id=n then some x else getS (s.drop (k+1)) n:=by
 have hlt:=(List.getElem?_eq_some_iff.1 hx).1
 have he:=(List.getElem?_eq_some_iff.1 hx).2
 rw [List.drop_eq_getElem_cons hlt,he]
 unfold getS
 rw [List.find?_cons]
 by_cases h:x.id=n
 ·rw [if_pos h];simp [h]
 ·rw [if_neg h]
  have:(x.id==n)=false:=by simpa using h
  rw [this]
set_option maxRecDepth 100000 in
set_option maxHeartbeats 2000000 in
theorem zCz {w:World} {vm:Value} {es:List DiL} (h:DocSt w vm es) (n:Txt) (hn:n.length=32) :
 Calls Tryz.prog 33 #[.agg #[vm], .agg (u8s n)] w fun e w'=>AtR es n e∧Below w.heap.size w w':=by
 have hfew:=h.few
 have heach:=h.each
 obtain ⟨A,cap,rfl,hcap1,hcap2,hat⟩:=h.at_
 obtain ⟨W1,hW1⟩ : ∃ W1,w.alloc (.cells #[.slice A es.length cap] 28)=W1:=⟨_,rfl⟩
 have s1:Blk W1 w.heap.size 28 #[.slice A es.length cap]:=by rw [←hW1];exact Blk.new _ _ _
 have b1:Below w.heap.size w W1:=by rw [←hW1];exact (Below.refl _ _).alloc (Nat.le_refl _) _
 obtain ⟨W2,hW2⟩ : ∃ W2,W1.alloc (.cells (u8s n) 46)=W2:=⟨_,rfl⟩
 have n2:Blk W2 W1.heap.size 46 (u8s n):=by rw [←hW2];exact Blk.new _ _ _
 have bb2:Below W1.heap.size W1 W2:=by rw [←hW2];exact (Below.refl _ _).alloc (Nat.le_refl _) _
 have s2:=s1.below bb2 s1.lt
 have b2:=bthen b1 b1.size bb2
 have hG0:Hid (getS ((es.map (·.st)).drop 0) n=getS (es.map (·.st)) n):=rfl
 have hsI:(Tryz.prog.info? 46).map (·.size)=some (u8s n).toList.length:=by rw [zAI,hn];exact sz32
 have hag:Value.agg (u8s n) = .agg (u8s n).toList.toArray:=by rw [Array.toArray_toList]
 unfold AtR
 generalize getS (es.map (·.st)) n=G at *
 clear h
 go_enter Tryz.func33,Tryz.ntmps33
 go_wp2
 go_loopw [5] (fun vi wr => ∃ k:Nat,vi = .int .i64 k∧k≤es.length∧Hid (getS ((es.map (·.st)).drop k) n=G)∧Below W2.heap.size W2 wr) (fun vi _=>es.length-(intOf vi).toNat)
 case atStart=>exact ⟨0,rfl,by omega,hG0,Below.refl _ _⟩
 case round=>
  obtain ⟨k,rfl,hk,hrel,hbel⟩:=hrel
  have hbr:=bthen b2 b2.size hbel
  have c0:wr.cell? ⟨w.heap.size,0,none⟩=some (.slice A es.length cap):=(s2.below hbel s2.lt).cell 0
  clear hW1 hW2
  by_cases hlt:k<es.length
  ·have hki:(k:Int)<(es.length:Int):=by omega
   obtain ⟨ga,oa,rfl,hga,hca⟩:=hat (by omega)
   obtain ⟨x,hx⟩ : ∃ x,es[k]?=some x:=⟨_,List.getElem?_eq_getElem hlt⟩
   have hxid:=(heach x (List.mem_of_getElem? hx)).id
   have hxr:=dit_id (hca k x hx)
   have hgd:=getS_drop (n:=n) (show (es.map (·.st))[k]?=some x.st by rw [List.getElem?_map,hx];rfl)
   have hsx:(Tryz.prog.info? 46).map (·.size)=some (u8s x.st.id).toList.length:=by rw [zAI,hxid];exact sz32
   have heq:=fun W=>zBD W x.st.id n hxid hn
   obtain ⟨bo,hbo⟩ : ∃ bo,decide (x.st.id=n)=bo:=⟨_,rfl⟩
   rw [hbo] at heq
   have hbo:=Lib.hid hbo
   have hxh:=Lib.hid hx
   clear hx hca hat heach
   go_wp2
   refine zAd (C:=fun W=>Below W2.heap.size W2 W) (by kernel_rfl) (by kernel_rfl) hbel.drew ?_
   repeat
    first
     | ((with_reducible refine zAl ?_ ?_)
        ·(go_simp;done)
        apply Exists.intro
        refine ⟨fun W hW=>?_,?_⟩
        ·first
          | exact zAy _ _ rfl ga (oa+k*105) rfl (u8s x.st.id).toList _ (zAc hxr hga (bthen b2 b2.size hW)) Tryz.underlying46 rfl hsx rfl
          | exact zAy _ _ rfl W1.heap.size 0 rfl (u8s n).toList _ (zAi (n2.below hW n2.lt)) Tryz.underlying46 rfl hsI rfl
          | (have q0:W.cell? ⟨w.heap.size,0,none⟩=some (.slice (some ⟨ga,oa,none⟩) es.length cap):=(s2.below hW s2.lt).cell 0
             have q1:=heq W
             rw [←Array.toArray_toList (xs:=u8s x.st.id),←Array.toArray_toList (xs:=u8s n)] at q1
             go_simp
             first
              | rfl)
        simp only [Act.put,zA,zB,zC])
     | ((with_reducible refine zAh ?_ ?_)
        ·(first | rfl | (go_simp;done))
        simp only [Act.put,zA,zB,zC])
   with_reducible refine wpQuiet_nil ?_
   intro w5 hW5
   have hb5:=bthen b2 b2.size hW5
   have hgd2:=hrel.out
   rw [←List.map_drop] at hgd hgd2
   rw [hgd2] at hgd
   cases bo
   rotate_left
   ·have hxn:x.st.id=n:=of_decide_eq_true hbo.out
    rw [if_pos hxn] at hgd
    have hgd:Hid (G=some x.st):=hgd
    clear hgd2 hxn hrel hG0
    go_wp2
    go_ret
    exact ⟨.inl ⟨k,x,rfl,hxh.out,hgd.out⟩,hb5⟩
   ·have hxn : ¬ x.st.id=n:=of_decide_eq_false hbo.out
    rw [if_neg hxn] at hgd
    have hgd:Hid (getS ((es.map (·.st)).drop (k+1)) n=G):=by show _=_;exact hgd.symm
    clear hgd2 hxn hrel hG0
    go_wp2
    go_roundw
    case rel=>exact ⟨k+1,by go_num,by omega,hgd,hW5⟩
    case measure=>simp [intOf];omega
  ·have hki : ¬ (k:Int)<(es.length:Int):=by omega
   have hGn:Hid (G=none):=by
    show _=_
    rw [←hrel.out,List.drop_eq_nil_of_le (by rw [List.length_map];omega)]
    rfl
   clear hrel hG0 hat
   go_wp2
   go_ret
   exact ⟨.inr ⟨rfl,hGn.out⟩,hbr⟩
end
section
attribute [local go_sem ↓] ldvI_eq
set_option maxRecDepth 100000 in
set_option maxHeartbeats 1000000 in
theorem stoPlace1_calls (x:StL) (hx:StitOk x) (n:List UInt8) (hn:n.length=32) (w:World):Calls Tryz.prog 82 #[.agg (stitC x).toArray, .agg (u8s n)] w fun e w'=>e = .returned (.int .i64 (Lib.compareBytes x.id n))∧Below w.heap.size w w':=by
 obtain ⟨W1,hW1⟩ : ∃ W1,w.alloc (.cells (stitC x).toArray 116)=W1:=⟨_,rfl⟩
 have x1:Blk W1 w.heap.size 116 (stitC x).toArray:=by rw [←hW1];exact Blk.new _ _ _
 have b1:Below w.heap.size w W1:=by rw [←hW1];exact (Below.refl _ _).alloc (Nat.le_refl _) _
 obtain ⟨W2,hW2⟩ : ∃ W2,W1.alloc (.cells (u8s n) 46)=W2:=⟨_,rfl⟩
 have bb2:Below W1.heap.size W1 W2:=by rw [←hW2];exact (Below.refl _ _).alloc (Nat.le_refl _) _
 have x2:=x1.below bb2 x1.lt
 have n2:Blk W2 W1.heap.size 46 (u8s n):=by rw [←hW2];exact Blk.new _ _ _
 have b2:=bthen b1 b1.size bb2
 have r1:W2.rangeAt w.heap.size 0 (u8s x.id).toList:=by
  have:=zAi x2
  rw [List.toList_toArray] at this
  exact stitC_id this
 have hc:=fun (W:World) (hW:Below W2.heap.size W2 W)=>zCW x.id n hx.1 hn w.heap.size 0 W1.heap.size 0 W (zAc r1 x2.lt hW) (zAc (zAi n2) n2.lt hW)
 obtain ⟨NC,hNC⟩ : ∃ NC,u8s n=NC:=⟨_,rfl⟩
 obtain ⟨XC,hXC⟩ : ∃ XC,(stitC x).toArray=XC:=⟨_,rfl⟩
 rw [hXC] at hW1 ⊢
 rw [hNC] at hW2 ⊢
 clear hNC hXC x1 x2 n2 r1 bb2
 go_enter Tryz.func82,Tryz.ntmps82
 go_wp2
 refine zAd (C:=fun W=>Below W2.heap.size W2 W) (by kernel_rfl) (by kernel_rfl) (Below.refl _ _).drew ?_
 repeat
  first
   | ((with_reducible refine zAl ?_ ?_)
      ·(go_simp;done)
      apply Exists.intro
      refine ⟨fun W hW=>?_,?_⟩
      ·have hkeep:=(hc W hW).mono fun e w' (h:e = .returned (.int .i64 (Lib.compareBytes x.id n))∧w'=W)=>(⟨h.1,h.2.symm▸hW⟩:e = .returned (.int .i64 (Lib.compareBytes x.id n))∧Below W2.heap.size W2 w')
       go_simp
       first
        | rfl
        | (with_reducible exact hkeep)
      simp only [Act.put,zA,zB,zC])
   | ((with_reducible refine zAh ?_ ?_)
      ·(first | rfl | (go_simp;done))
      simp only [Act.put,zA,zB,zC])
 with_reducible refine wpQuiet_nil ?_
 intro w5 hW5
 go_wp2
 go_ret
 exact ⟨rfl,bthen b2 b2.size hW5⟩
theorem stoPlace1_func (a:Array Value) (W:World):(callFunc 82 a).run Tryz.prog W = .ok (.enter 82 a) W:=by kernel_rfl
end
theorem zDD (w:World) (g vb o:Nat) (cur cv:Array Value) (e ev:TypeId) (hb:Blk w g e cur) (hv:Blk w vb ev cv) (hc:0<cur.size) (hne:vb≠g) (m vc lb cb:Nat) :
 (callFunc 84 #[.slice (some ⟨vb,0,none⟩) m vc, .slice (some ⟨g,o,none⟩) lb cb]).run Tryz.prog w = .ok (.value (.bool false)) w:=by
 have hsz : ∀ w,(Go.sizeOf 116).run Tryz.prog w = .ok 33 w:=fun w=>by
  obtain ⟨i,h1,_,h3,_⟩:=Tryz.stitTy.hi
  simp [sizeOf,typeInfo,h1,h3]
 rw [run_callFunc_extern Tryz.func84 (by kernel_rfl) (by kernel_rfl) (by kernel_rfl) (e:=Extern.SlicesOverlaps.overlaps #[106,106] #[4]) (by kernel_rfl),
  Lib.run_overlaps_apart w 106 4 116 Tryz.underlying106 33 hsz ⟨vb,0,none⟩ ⟨g,o,none⟩ m vc lb cb hne ev e cv.size cur.size (by unfold World.shape?;rw [show w.heap[vb]?=_ from hv]) (by unfold World.shape?;rw [show w.heap[g]?=_ from hb]) (by omega) (hv.frozen _) (hv.frozen _)]
 rfl
set_option maxRecDepth 100000 in
set_option maxHeartbeats 2000000 in
theorem zEN (l:List StL) (hok:StitsOk l) (w:World) (g cap i vb:Nat) (x:StL) (hx:StitOk x) (hrow:Row w g 116 33 stitC cap l) (hi:i<l.length) (hcap:l.length+1≤cap)
 (hv:Blk w vb 116 (stitC x).toArray) (hne:vb≠g) :
 Calls Tryz.prog 50 #[.slice (some ⟨g,0,none⟩) l.length cap, .int .i64 i, .slice (some ⟨vb,0,none⟩) 1 1] w fun e w'=>
  e = .returned (.slice (some ⟨g,0,none⟩) (l.length+1) cap)∧Row w' g 116 33 stitC cap (l.take i++[x]++l.drop i)∧w.grownBy w' (some g):=by
 have h63:=hrow.top63
 have hdl:(l.drop i).length=l.length-i:=List.length_drop
 have hdk : ∀ y∈l.drop i,(stitC y).length=33:=fun y hy=>stitK hok y (List.mem_of_mem_drop hy)
 have hbi:(0:Int)≤(i:Int)+1:=by omega
 have htn:((i:Int)+1).toNat=i+1:=by omega
 have hz2 : ¬ ((i:Int)=(l.length:Int)):=by omega
 have hil:(i:Int)≤(l.length:Int):=by omega
 have hil1:(i:Int)+1≤(l.length:Int)+1:=by omega
 have hil2:(i:Int)≤(l.length:Int)+1:=by omega
 have mixed:Tryz.prog.follows Departure.mixedOrders=true:=by kernel_rfl
 have hci : ¬ (cap=i):=by omega
 have hci1 : ¬ (cap=i+1):=by omega
 have hnc : ¬ ((cap:Int)<(l.length:Int)+1):=by omega
 have hcn:(l.length:Int)+1≤(cap:Int):=by omega
 have hw1:IntKind.i64.wrap ((i:Int)+1)=(i:Int)+1:=by rw [IntKind.wrap_i64];omega
 have hw2:IntKind.i64.wrap ((l.length:Int)+1)=(l.length:Int)+1:=by rw [IntKind.wrap_i64];omega
 have htl:((l.length:Int)+1).toNat=l.length+1:=by omega
 have hov : ∀ lb cb o,(callFunc 84 #[.slice (some ⟨vb,0,none⟩) 1 1, .slice (some ⟨g,o,none⟩) lb cb]).run Tryz.prog w = .ok (.value (.bool false)) w:=fun lb cb o=>by
  obtain ⟨cur,hb,hs⟩:=hrow.blk
  exact zDD w g vb o cur _ _ _ hb hv (by rw [hs];omega) hne 1 1 lb cb
 have hput:=hrow.drew.put (stitK hok) hdk (i:=i+1) (by omega) (by omega)
 have hcp1 : ∀ ty dc sc,(Builtin.copy_ #[106,106] ty #[.slice (some ⟨g,(i+1)*33,none⟩) (l.length-i) dc, .slice (some ⟨g,i*33,none⟩) (l.length+1-i) sc]).run Tryz.prog w.drew = .ok (goInt ((l.drop i).length:Nat)) (w.drew.setCells g ((i+1)*33) (rowsOf stitC (l.drop i))):=fun ty dc sc=>
  zAH w.drew _ _ ty 116 g ((i+1)*33) _ dc ⟨g,i*33,none⟩ _ sc _ _ Tryz.underlying106 szStit (by rw [hdl];simp only [Nat.min_def];split<;>omega) (zAn hdk)
   (zAE ((hrow.drew).range_from (stitK hok) i)) ((hrow.drew).there (by rw [zAn hdk,←Nat.add_mul];exact Nat.mul_le_mul_right _ (by omega))) (stitOne _)
 obtain ⟨W1,hW1⟩ : ∃ W1,W1=w.drew.setCells g ((i+1)*33) (rowsOf stitC (l.drop i)):=⟨_,rfl⟩
 have hbel1:w.grownBy W1 (some g):=by rw [hW1];exact zBE (zEo (zDq w _)) _ _
 rw [←hW1] at hcp1 hput
 have hv1:Blk W1 vb 116 (stitC x).toArray:=by
  rw [hW1]
  exact hv.drew.setCells_far hne _ _ _
 have hs2:StitsOk (l.take (i+1)++l.drop i++l.drop (i+1+(l.drop i).length)):=by
  intro y hy
  simp only [List.mem_append] at hy
  rcases hy with (hy | hy) | hy
  ·exact hok y (List.mem_of_mem_take hy)
  ·exact hok y (List.mem_of_mem_drop hy)
  ·exact hok y (List.mem_of_mem_drop hy)
 have hset:=hput.set (stitK hs2) (i:=i) (by simp;omega) (zBc hx)
 rw [ins_place hi] at hset
 have hcp2 : ∀ ty dc,(Builtin.copy_ #[106,106] ty #[.slice (some ⟨g,i*33,none⟩) (l.length+1-i) dc, .slice (some ⟨vb,0,none⟩) 1 1]).run Tryz.prog W1 = .ok (goInt (1:Nat)) (W1.setCells g (i*33) (stitC x)):=fun ty dc=>
  zAH W1 _ _ ty 116 g (i*33) _ dc ⟨vb,0,none⟩ _ 1 _ _ Tryz.underlying106 szStit (by simp only [Nat.min_def];split<;>omega) (by rw [zBc hx])
   (zAE (zDW hv1)) (hput.there (by rw [zBc hx];omega)) (zDK x)
 have hbel2:=zBE hbel1 (i*33) (stitC x)
 clear hput hv hv1 hrow hs2 hdk hW1
 go_enter Tryz.func50,Tryz.ntmps50
 go_wp2_with (simp only [hov])
 go_region_law_o (refine zBd rfl _ _ 106 106 rfl (.slice (some ⟨g,(i+1)*33,none⟩) (l.length-i) (cap-(i+1))) (.slice (some ⟨g,i*33,none⟩) (l.length+1-i) (cap-i)) (by simp [Act.eval,Act.put]) (by simp [Act.eval,Act.put]) (hcp1 _ _ _) ?_)
 go_wp2_with (at_builtin;refine zAX _ rfl _ _ 106 106 rfl _ _ rfl rfl (hcp2 _ _) ?_)
 go_ret
 exact ⟨rfl,hset,hbel2⟩
set_option maxRecDepth 100000 in
set_option maxHeartbeats 500000 in
theorem zEP (l:List StL) (hok:StitsOk l) (hbig:l.length≤1000000) (w:World) (base g cap i vb:Nat) (x:StL) (hx:StitOk x) (hbase:base≤w.heap.size) (hrow:Row w g 116 33 stitC cap l) (hi:i<l.length) (hcap:cap<l.length+1)
 (hv:Blk w vb 116 (stitC x).toArray) :
 Calls Tryz.prog 50 #[.slice (some ⟨g,0,none⟩) l.length cap, .int .i64 i, .slice (some ⟨vb,0,none⟩) 1 1] w fun e w'=>
  ∃ G,e = .returned (.slice (some ⟨w.heap.size,0,none⟩) (l.length+1) G)∧Row w' w.heap.size 116 33 stitC G (l.take i++[x]++l.drop i)∧Below base w w':=by
 have h63:=hrow.top63
 have hle:=hrow.le
 have hgw:=hrow.lt
 have hdl:(l.drop i).length=l.length-i:=List.length_drop
 have htkl:(l.take i).length=i:=by simp;omega
 have hdk : ∀ y∈l.drop i,(stitC y).length=33:=fun y hy=>stitK hok y (List.mem_of_mem_drop hy)
 have htk : ∀ y∈l.take i,(stitC y).length=33:=fun y hy=>stitK hok y (List.mem_of_mem_take hy)
 have hbi:(0:Int)≤(i:Int)+1:=by omega
 have htn:((i:Int)+1).toNat=i+1:=by omega
 have hz2 : ¬ ((i:Int)=(l.length:Int)):=by omega
 have hil:(i:Int)≤(l.length:Int):=by omega
 have hil0:(i:Int)≤(cap:Int):=by omega
 have hil1:(i:Int)+1≤(l.length:Int)+1:=by omega
 have hil2:(i:Int)≤(l.length:Int)+1:=by omega
 have mixed:Tryz.prog.follows Departure.mixedOrders=true:=by kernel_rfl
 have hci : ¬ (cap=i):=by omega
 have hnc:(cap:Int)<(l.length:Int)+1:=by omega
 have hw1:IntKind.i64.wrap ((i:Int)+1)=(i:Int)+1:=by rw [IntKind.wrap_i64];omega
 have hw2:IntKind.i64.wrap ((l.length:Int)+1)=(l.length:Int)+1:=by rw [IntKind.wrap_i64];omega
 have hw3:IntKind.i64.wrap ((l.length:Int)+1-(i:Int))=(l.length:Int)+1-(i:Int):=by rw [IntKind.wrap_i64];omega
 have hkk:(l.length:Int)+1-(i:Int)=((l.length+1-i:Nat):Int):=by omega
 have hik:i+(l.length+1-i)=l.length+1:=by omega
 obtain ⟨i0,hi0,hz0,hzs,hzb⟩:=Tryz.stitTy.hi
 have hold:(Builtin.firstCells i0.size i (.slice (some ⟨g,0,none⟩) i cap)).run Tryz.prog w.drew = .ok (rowsOf stitC (l.take i)).toArray w.drew:=by
  rw [hzs]
  refine run_firstCells_some w.drew 33 i ⟨g,0,none⟩ i cap _ (by rw [zAn htk,htkl]) (zAE ?_)
  have:=(hrow.cut i).drew.range_from htk 0
  rw [Nat.zero_mul,List.drop_zero] at this
  exact this
 have hrz : ∀ ty,(Builtin.append_ #[106,3] ty #[.slice (some ⟨g,0,none⟩) i cap, .int .i64 ((l.length:Int)+1-(i:Int))]).run Tryz.prog w =
  .ok (.slice (some ⟨w.heap.size,0,none⟩) (l.length+1) (grownCap w (l.length+1) cap 116)) (w.drew.alloc (.cells ((rowsOf stitC (l.take i)).toArray++Builtin.zeroCells zStit.cells (l.length+1-i)++Builtin.zeroCells zStit.cells (grownCap w (l.length+1) cap 116-(l.length+1))) 116)):=fun ty=>by
  have h:=Lib.run_append_grow_zeros w 106 3 ty 116 i0 _ .i64 .i64 Tryz.underlying106 Tryz.underlying3 hi0 hz0 (some ⟨g,0,none⟩) i cap (rowsOf stitC (l.take i)) hold (l.length+1-i) (by omega) (by omega) (by omega) (by omega) (by rw [hzb];omega) (by rw [hzb,hik];exact growslice_fits hcap (by omega))
  rw [hik] at h
  rw [hkk]
  exact h
 obtain ⟨G,hG⟩ : ∃ G,G=grownCap w (l.length+1) cap 116:=⟨_,rfl⟩
 have hGn:l.length+1≤G:=by rw [hG];exact grownCap_ge w _ _ _
 have hGt:G≤maxLen:=by rw [hG];exact grownCap_le_maxLen w _ cap _ (by unfold maxLen;omega)
 have hG63:G≤9223372036854775807:=by simpa [maxLen] using hGt
 rw [←hG] at hrz
 have hnew:=Row.of_new (s:=l.take i) (enc:=stitC) (e:=116) (cap:=G) htk w.drew (Builtin.zeroCells zStit.cells (l.length+1-i)++Builtin.zeroCells zStit.cells (G-(l.length+1))) (by
  rw [htkl,Array.size_append,size_zeroCells,size_zeroCells,zStit_cells];omega) (by rw [htkl];omega) hGt
 rw [←Array.append_assoc] at hnew
 have hbel0:Below base w (w.drew.alloc (.cells ((rowsOf stitC (l.take i)).toArray++Builtin.zeroCells zStit.cells (l.length+1-i)++Builtin.zeroCells zStit.cells (G-(l.length+1))) 116)):=(Below.refl _ _).drew.alloc hbase _
 have hoff:Below w.heap.size w (w.drew.alloc (.cells ((rowsOf stitC (l.take i)).toArray++Builtin.zeroCells zStit.cells (l.length+1-i)++Builtin.zeroCells zStit.cells (G-(l.length+1))) 116)):=(Below.refl _ _).drew.alloc (Nat.le_refl _) _
 obtain ⟨W1,hW1⟩ : ∃ W1,W1=w.drew.alloc (.cells ((rowsOf stitC (l.take i)).toArray++Builtin.zeroCells zStit.cells (l.length+1-i)++Builtin.zeroCells zStit.cells (G-(l.length+1))) 116):=⟨_,rfl⟩
 rw [←hW1] at hrz hnew hbel0 hoff
 clear hW1 hG
 have hold1:=hrow.below hoff
 have hv1:=hv.below hoff hv.lt
 obtain ⟨N,hN⟩ : ∃ N,N=w.heap.size:=⟨_,rfl⟩
 have hgN:g≠N:=by omega
 have hbN:base≤N:=by omega
 have hnew':Row W1 N 116 33 stitC G (l.take i):=by rw [hN];exact hnew
 rw [←hN] at hrz ⊢
 clear hnew hoff hold hN
 have hput:=hnew'.put htk (t:=[x]) (fun y hy=>by simp at hy;subst hy;exact zBc hx) (i:=i) (by omega) (by simp;omega)
 have e1:(l.take i).take i=l.take i:=List.take_of_length_le (by omega)
 have e2:(l.take i).drop (i+[x].length)=[]:=List.drop_of_length_le (by simp;omega)
 rw [zAx,e1,e2,List.append_nil] at hput
 have hcp1 : ∀ ty dc,(Builtin.copy_ #[106,106] ty #[.slice (some ⟨N,i*33,none⟩) (l.length+1-i) dc, .slice (some ⟨vb,0,none⟩) 1 1]).run Tryz.prog W1 = .ok (goInt (1:Nat)) (W1.setCells N (i*33) (stitC x)):=fun ty dc=>
  zAH W1 _ _ ty 116 N (i*33) _ dc ⟨vb,0,none⟩ _ 1 _ _ Tryz.underlying106 szStit (by simp only [Nat.min_def];split<;>omega) (by rw [zBc hx])
   (zAE (zDW hv1)) (hnew'.there (by rw [zBc hx];omega)) (zDK x)
 have hbel1:=zAF (stitC x) (i*33) w W1 hbel0 hbN
 have hold2:Row (W1.setCells N (i*33) (stitC x)) g 116 33 stitC cap l:=by
  obtain ⟨cur,hb,hs⟩:=hold1.blk
  exact ⟨⟨cur,hb.setCells_far hgN _ _ _,hs⟩,fun j y hy=>World.rangeAt_setCells_apart (hold1.at_ j y hy) _ _ _ (.inl hgN),hold1.le,hold1.top⟩
 obtain ⟨W2,hW2⟩ : ∃ W2,W2=W1.setCells N (i*33) (stitC x):=⟨_,rfl⟩
 rw [←hW2] at hcp1 hput hbel1 hold2
 clear hW2 hold1 hv1 hnew' hbel0 hrow hv
 have hk2 : ∀ y∈l.take i++[x],(stitC y).length=33:=by
  intro y hy
  rcases List.mem_append.1 hy with hy | hy
  ·exact htk y hy
  ·simp at hy;subst hy;exact zBc hx
 have hput2:=hput.drew.put hk2 hdk (i:=i+1) (by simp;omega) (by omega)
 have e3:(l.take i++[x]).take (i+1)=l.take i++[x]:=List.take_of_length_le (by simp;omega)
 have e4:(l.take i++[x]).drop (i+1+(l.drop i).length)=[]:=List.drop_of_length_le (by simp;omega)
 rw [e3,e4,List.append_nil] at hput2
 have hcp2 : ∀ ty dc sc,(Builtin.copy_ #[106,106] ty #[.slice (some ⟨N,(i+1)*33,none⟩) (l.length-i) dc, .slice (some ⟨g,i*33,none⟩) (l.length-i) sc]).run Tryz.prog W2.drew = .ok (goInt ((l.drop i).length:Nat)) (W2.drew.setCells N ((i+1)*33) (rowsOf stitC (l.drop i))):=fun ty dc sc=>
  zAH W2.drew _ _ ty 116 N ((i+1)*33) _ dc ⟨g,i*33,none⟩ _ sc _ _ Tryz.underlying106 szStit (by rw [hdl];simp only [Nat.min_def];split<;>omega) (zAn hdk)
   (zAE (hold2.drew.range_from (stitK hok) i)) (hput.drew.there (by rw [zAn hdk,←Nat.add_mul];exact Nat.mul_le_mul_right _ (by omega))) (stitOne _)
 have hbel2:=zAF (rowsOf stitC (l.drop i)) ((i+1)*33) w W2.drew hbel1.drew hbN
 obtain ⟨W3,hW3⟩ : ∃ W3,W3=W2.drew.setCells N ((i+1)*33) (rowsOf stitC (l.drop i)):=⟨_,rfl⟩
 rw [←hW3] at hcp2 hput2 hbel2
 clear hW3 hput hold2 hk2 hdk htk hbel1 e1 e2 e3 e4 hi0 hz0 hzs hzb hbig hGt hkk hik hdl htkl hgw
 have hGi : ¬ (G=i):=by omega
 have hGim : ¬ (G=i+1):=by omega
 go_enter Tryz.func50,Tryz.ntmps50
 go_wp2_with (first
  | (at_builtin;refine Lib.wpList_append_run _ rfl _ _ _ _ rfl _ _ rfl rfl _ _ (hrz _) ?_)
  | (at_builtin;refine zAX _ rfl _ _ 106 106 rfl _ _ rfl rfl (hcp1 _ _) ?_))
 go_region_law_o (refine zBd rfl _ _ 106 106 rfl (.slice (some ⟨N,(i+1)*33,none⟩) (l.length-i) (G-(i+1))) (.slice (some ⟨g,i*33,none⟩) (l.length-i) (cap-i)) (by simp [Act.eval,Act.put]) (by simp [Act.eval,Act.put]) (hcp2 _ _ _) ?_)
 go_wp2
 go_ret
 exact ⟨G,rfl,hput2,hbel2⟩
theorem stitsOk_ins {l:List StL} (hok:StitsOk l) (i:Nat) {x:StL} (hx:StitOk x):StitsOk (l.take i++[x]++l.drop i):=by
 intro y hy
 simp only [List.mem_append,List.mem_singleton] at hy
 rcases hy with (hy | rfl) | hy
 ·exact hok y (List.mem_of_mem_take hy)
 ·exact hx
 ·exact hok y (List.mem_of_mem_drop hy)
set_option maxRecDepth 100000 in
set_option maxHeartbeats 500000 in
theorem insertStits_end (l:List StL) (hok:StitsOk l) (hbig:l.length≤1000000) (v:Value) (w:World) (base vb:Nat) (x:StL) (hx:StitOk x) (hbase:base≤w.heap.size) (hown:zAS w base v l)
 (hv:Blk w vb 116 (stitC x).toArray) :
 Calls Tryz.prog 50 #[v, .int .i64 (l.length:Nat), .slice (some ⟨vb,0,none⟩) 1 1] w fun e w'=>
  ∃ v',e = .returned v'∧zAS w' base v' (l++[x])∧w.grownBy w' v.ownBlock∧Newer w v v':=by
 have hcap : ∃ A cap,v = .slice A l.length cap∧l.length≤cap∧cap≤9223372036854775807∧(A=none→l.length=0∧cap=0):=by
  rcases Row.of_own (stitK hok) hown with ⟨rfl,rfl⟩ | ⟨g,cap,rfl,hg,hrow⟩
  ·exact ⟨none,0,rfl,by simp,by omega,fun _=>⟨rfl,rfl⟩⟩
  ·exact ⟨_,cap,rfl,hrow.le,hrow.top63,fun h=>by cases h⟩
 obtain ⟨A,cap,rfl,hc1,hc2,hnil⟩:=hcap
 have hlk:=zBc hx
 have hone : ∀ u∈(stitC x).toArray.toList,u.oneCell'=true:=fun u hu=>zDK x u (by simpa using hu)
 have h1:l.length+1≤9223372036854775807:=by omega
 have h2:(l.length+1)*48≤140737488355328:=by omega
 have hlen:l.length≤9223372036854775807:=by omega
 clear hbig
 go_enter Tryz.func50,Tryz.ntmps50
 go_wp2_with (first
  | (at_builtin
     (with_reducible refine zCF (.tmp 23) (.tmp 24) 1 _ Tryz.stitTy hown hv (by rw [List.size_toArray,hlk]) hone h1 h2 hbase ?_ ?_ ?_);rfl;rfl
     intro v' w' hown3 hg3 hnw3))
 all_goals
  go_ret
  have hown4:zAS w' base v' (l++[x]):=by
   unfold zAS
   rw [List.length_append,List.length_singleton,zAo,zAx]
   exact hown3
  first
   | exact ⟨_,rfl,hown4,hg3,hnw3⟩
   | exact ⟨_,rfl,hown4,by cases A<;>exact hg3,by cases A<;>exact hnw3⟩
theorem zEd (l:List StL) (hok:StitsOk l) (hbig:l.length≤1000000) (v:Value) (w:World) (base i vb:Nat) (x:StL) (hx:StitOk x) (hbase:base≤w.heap.size) (hown:zAS w base v l) (hi:i≤l.length)
 (hv:Blk w vb 116 (stitC x).toArray) (hne:v.ownBlock≠some vb) :
 Calls Tryz.prog 50 #[v, .int .i64 i, .slice (some ⟨vb,0,none⟩) 1 1] w fun e w'=>
  ∃ v',e = .returned v'∧zAS w' base v' (l.take i++[x]++l.drop i)∧w.grownBy w' v.ownBlock∧Newer w v v':=by
 rcases Nat.lt_or_ge i l.length with hlt | hge
 ·rcases Row.of_own (stitK hok) hown with ⟨rfl,rfl⟩ | ⟨g,cap,rfl,hg,hrow⟩
  ·simp at hlt
  have hlen:l.length+1=(l.take i++[x]++l.drop i).length:=by simp;omega
  by_cases hcap:l.length+1≤cap
  ·refine (zEN l hok w g cap i vb x hx hrow hlt hcap hv (fun e=>hne (by rw [e];rfl))).mono ?_
   rintro e w' ⟨rfl,h1,h2⟩
   exact ⟨_,rfl,zAS.of_row (stitsOk_ins hok i hx) h1 hg hlen,h2, .inl rfl⟩
  ·refine (zEP l hok hbig w w.heap.size g cap i vb x hx (Nat.le_refl _) hrow hlt (by omega) hv).mono ?_
   rintro e w' ⟨G,rfl,h1,h2⟩
   exact ⟨_,rfl,zAS.of_row (stitsOk_ins hok i hx) h1 hbase hlen,zCi h2 _, .inr fun k hk=>by simp only [Value.ownBlock,Option.some.injEq] at hk;omega⟩
 ·obtain rfl:i=l.length:=by omega
  rw [List.take_length,List.drop_length,List.append_nil]
  exact insertStits_end l hok hbig v w base vb x hx hbase hown hv
section
attribute [local go_sem ↓] ldvI_eq
structure StoAt (w:World) (base p:Nat) (vl:Value) (s:List StL):Prop where
 blk:Blk w p 108 #[vl]
 own:zAS w base vl s
 ok:StoOk s
section
variable {w w':World} {base p:Nat} {vl:Value} {s:List StL}
theorem StoAt.c0 (h:StoAt w base p vl s):w.cell? ⟨p,0,none⟩=some vl:=by rw [h.blk.cell];rfl
theorem StoAt.fr (h:StoAt w base p vl s):w.frozen? ⟨p,0,none⟩=false:=h.blk.frozen 0
theorem StoAt.lt (h:StoAt w base p vl s):p<w.heap.size:=h.blk.lt
theorem StoAt.ne (h:StoAt w base p vl s):vl.ownBlock≠some p:=fun e=>zAs h.own h.blk (by decide) e.symm
theorem StoAt.below (h:StoAt w base p vl s) (hb:Below w.heap.size w w'):StoAt w' base p vl s:=⟨h.blk.below hb h.blk.lt,zAf h.own hb,h.ok⟩
theorem StoAt.far {S:List (Option Nat)} (h:StoAt w base p vl s) (hf:Far S w w') (h1:some p ∉ S) (h2 : ∀ k,vl.ownBlock=some k→some k ∉ S):StoAt w' base p vl s:=⟨hf.blk h.blk h1,hf.own h.own h2,h.ok⟩
theorem StoAt.drew (h:StoAt w base p vl s):StoAt w.drew base p vl s:=⟨h.blk,h.own,h.ok⟩
theorem StoAt.items (h:StoAt w base p vl s):Stits w vl s:=h.own.refs h.ok.ok
theorem StoAt.form (h:StoAt w base p vl s) : ∃ A cap,vl = .slice A s.length cap:=by
 obtain ⟨A,cap,e⟩:=zAm h.own
 exact ⟨A,cap,e⟩
end
set_option maxRecDepth 100000 in
set_option maxHeartbeats 1000000 in
theorem stoNew_calls (w:World) :
 Calls Tryz.prog 25 #[] w fun e w'=>e = .returned (.pointer (some ⟨w.heap.size,0,none⟩))∧StoAt w' w.heap.size w.heap.size (.slice none 0 0) []∧Below w.heap.size w w':=by
 go_enter Tryz.func25,Tryz.ntmps25
 go_wp2
 go_ret
 exact ⟨rfl,⟨Blk.new _ _ _,World.ownsRow_nil _ _ _ _,StoOk.nil⟩,(Below.refl _ _).alloc (Nat.le_refl _) _⟩
set_option maxRecDepth 100000 in
set_option maxHeartbeats 2000000 in
theorem zDf {w:World} {base p:Nat} {vl:Value} {s:List StL} (h:StoAt w base p vl s) (n:Txt) (hn:n.length=32) :
 Calls Tryz.prog 49 #[.pointer (some ⟨p,0,none⟩), .agg (u8s n)] w fun e w'=>e = .returned (.tuple #[.int .i64 (posK StL.id s n), .bool (hasK StL.id s n)])∧Below w.heap.size w w':=by
 obtain ⟨W1,hW1⟩ : ∃ W1,w.alloc (.cells (u8s n) 46)=W1:=⟨_,rfl⟩
 have n1:Blk W1 w.heap.size 46 (u8s n):=by rw [←hW1];exact Blk.new _ _ _
 have b1:Below w.heap.size w W1:=by rw [←hW1];exact (Below.refl _ _).alloc (Nat.le_refl _) _
 have hbs:=fun (W:World) (hW:Below W1.heap.size W1 W)=>bsfStits_calls s h.ok.ok (by have:=h.ok.few;omega) vl W (h.items.below (bthen b1 b1.size hW)) 82 stoPlace1_func n hn (fun x=>Lib.compareBytes x.id n)
  (fun W2 x hx _=>stoPlace1_calls x (h.ok.ok x hx) n hn W2) (posK StL.id s n) posK_le (fun i x hx=>by
    rw [←decide_eq_true_iff (p:=Lib.compareBytes x.id n<0),cmp_neg,zDA h.ok.sorted hx,decide_eq_true_iff])
 rw [←hasK_hit h.ok.sorted] at hbs
 have hsI:(Tryz.prog.info? 46).map (·.size)=some (u8s n).toList.length:=by rw [zAI,hn];exact sz32
 have c0:=fun (W:World) (hW:Below W1.heap.size W1 W)=>(h.below (bthen b1 b1.size hW)).c0
 obtain ⟨NC,hNC⟩ : ∃ NC,u8s n=NC:=⟨_,rfl⟩
 rw [hNC] at hW1 n1 hsI hbs ⊢
 clear hNC h
 generalize posK StL.id s n=P at *
 generalize hasK StL.id s n=HB at *
 go_enter Tryz.func49,Tryz.ntmps49
 go_wp2
 refine zAd (C:=fun W=>Below W1.heap.size W1 W) (by kernel_rfl) (by kernel_rfl) (Below.refl _ _).drew ?_
 repeat
  first
   | ((with_reducible refine zAl ?_ ?_)
      ·(go_simp;done)
      apply Exists.intro
      refine ⟨fun W hW=>?_,?_⟩
      ·have q0:=c0 W hW
       have q1:(ldvI ⟨w.heap.size,0,none⟩).run Tryz.prog W = .ok (.agg NC) W:=by
        have:=run_loadVar_mid (P:=Tryz.prog) W w.heap.size 0 46 NC.toList _ (zAi (n1.below hW n1.lt)) Tryz.underlying46 rfl hsI
        rwa [Array.toArray_toList] at this
       have hkeep:=zCb hW (hbs W hW)
       go_simp
       first
        | rfl
        | (with_reducible exact hkeep)
      simp only [Act.put,zA,zB,zC])
   | ((with_reducible refine zAh ?_ ?_)
      ·(first | rfl | (go_simp;done))
      simp only [Act.put,zA,zB,zC])
 with_reducible refine wpQuiet_nil ?_
 intro w5 hW5
 go_wp2
 go_ret2
 exact ⟨rfl,bthen b1 b1.size hW5⟩
set_option maxRecDepth 100000 in
theorem stoLen_calls {w:World} {base p:Nat} {vl:Value} {s:List StL} (h:StoAt w base p vl s) :
 Calls Tryz.prog 51 #[.pointer (some ⟨p,0,none⟩)] w fun e w'=>e = .returned (.int .i64 s.length)∧w'=w:=by
 have c0:=h.c0
 obtain ⟨A,cap,rfl⟩:=h.form
 go_enter Tryz.func51,Tryz.ntmps51
 go_wp2
 go_ret
 exact ⟨rfl,rfl⟩
def getV (s:List StL) (n:Txt):Value:=match getS s n with
 | some x => .tuple #[.string (B x.text), .bool true]
 | none => .tuple #[.string (B []), .bool false]
set_option maxRecDepth 100000 in
set_option maxHeartbeats 2000000 in
theorem stoGet_calls {w:World} {base p:Nat} {vl:Value} {s:List StL} (h:StoAt w base p vl s) (n:Txt) (hn:n.length=32) :
 Calls Tryz.prog 54 #[.pointer (some ⟨p,0,none⟩), .agg (u8s n)] w fun e w'=>e = .returned (getV s n)∧Below w.heap.size w w':=by
 obtain ⟨W1,hW1⟩ : ∃ W1,w.alloc (.cells (u8s n) 46)=W1:=⟨_,rfl⟩
 have n1:Blk W1 w.heap.size 46 (u8s n):=by rw [←hW1];exact Blk.new _ _ _
 have b1:Below w.heap.size w W1:=by rw [←hW1];exact (Below.refl _ _).alloc (Nat.le_refl _) _
 have hpl:=Lib.hid (zDf (h.below b1) n hn)
 have hsI:(Tryz.prog.info? 46).map (·.size)=some (u8s n).toList.length:=by rw [zAI,hn];exact sz32
 have q1:(ldvI ⟨w.heap.size,0,none⟩).run Tryz.prog W1 = .ok (.agg (u8s n)) W1:=by
  have:=run_loadVar_mid (P:=Tryz.prog) W1 w.heap.size 0 46 (u8s n).toList _ (zAi n1) Tryz.underlying46 rfl hsI
  rwa [Array.toArray_toList] at this
 have hG:=getS_at h.ok n
 have c0:=fun (W:World) (hW:Below w.heap.size w W)=>(h.below hW).c0
 have hit:=h.items
 have hok:=h.ok.ok
 obtain ⟨r,hr⟩ : ∃ r,Hid (getV s n=r):=⟨_,Lib.hid rfl⟩
 rw [hr.out]
 have hrv:=hr.out
 unfold getV at hrv
 clear hr
 obtain ⟨NC,hNC⟩ : ∃ NC,u8s n=NC:=⟨_,rfl⟩
 rw [hNC] at hW1 n1 hpl q1 ⊢
 clear hNC h hsI
 have hple:posK StL.id s n≤s.length:=posK_le
 generalize posK StL.id s n=P at *
 cases hh:hasK StL.id s n with
 | false=>
   rw [hh] at hG hpl
   rw [hG] at hrv
   have hrv:Hid (_=r):=hrv
   clear hG hh
   go_enter Tryz.func54,Tryz.ntmps54
   go_wp2_with (first
    | ((with_reducible refine hpl.out.mono ?_);rintro e w2 ⟨rfl,hb2⟩))
   go_ret2
   exact ⟨by rw [←hrv.out];rfl,bthen b1 b1.size hb2⟩
 | true=>
   rw [hh] at hG hpl
   rw [if_pos rfl] at hG
   have hlt:P<s.length:=by
    rcases Nat.lt_or_ge P s.length with h | h
    ·exact h
    ·exfalso
     have:=hasK_atS hh hG
     rw [List.getElem?_eq_none h] at this
     cases this
   obtain ⟨x,hx⟩ : ∃ x,s[P]?=some x:=⟨_,List.getElem?_eq_getElem hlt⟩
   rw [hx] at hG
   rw [hG] at hrv
   have hrv:Hid (_=r):=hrv
   obtain ⟨A,cap,rfl,hcap1,hcap2,hat⟩:=hit
   obtain ⟨ga,oa,rfl,hga,hca⟩:=hat (by omega)
   have hxr:=hca P x hx
   have hx32:=(hok x (List.mem_of_getElem? hx)).1
   have hPi:(P:Int)<(s.length:Int):=by omega
   clear hG hh hat hca hx hok
   go_enter Tryz.func54,Tryz.ntmps54
   go_wp2_with (first
    | ((with_reducible refine hpl.out.mono ?_);rintro e w2 ⟨rfl,hb2⟩
       have b2:=bthen b1 b1.size hb2
       have c2:=c0 _ b2
       have t2:=stitC_text hx32 (zAc hxr hga b2)))
   all_goals try (exfalso;omega)
   go_ret2
   exact ⟨by rw [←hrv.out];rfl,b2⟩
end
theorem fold_mid (q:Nat) (c0:Array Value) (pre l post:List Value) (hq:pre.length=q) (hsz:c0.size=q+l.length+post.length) (hp : ∀ i,i<q→c0[i]?=pre[i]?) (ht : ∀ i,c0[q+l.length+i]?=post[i]?) :
 (l.zipIdx 0).foldl (fun cs (x:Value×Nat)=>cs.setIfInBounds (q+x.2) x.1) c0=(pre++(l++post)).toArray:=by
 obtain ⟨h1,h2⟩:=Great.foldl_set q l 0 c0
 apply Array.ext_getElem?
 intro k
 rw [h2 k]
 by_cases hk:k<q
 ·rw [if_neg (by omega),hp k hk]
  simp [List.getElem?_append_left (show k<pre.length by omega)]
 ·by_cases hk2:k<q+l.length
  ·rw [if_pos ⟨by omega,by omega,by omega⟩]
   simp [List.getElem?_append_right (show pre.length≤k by omega),hq,List.getElem?_append_left (show k-q<l.length by omega)]
  ·rw [if_neg (by omega)]
   have:=ht (k-(q+l.length))
   rw [show q+l.length+(k-(q+l.length))=k from by omega] at this
   rw [this]
   simp [List.getElem?_append_right (show pre.length≤k by omega),hq,List.getElem?_append_right (show l.length≤k-q by omega),show k-q-l.length=k-(q+l.length) from by omega]
section
set_option maxRecDepth 100000 in
theorem built_stit (x:StL) (hid:x.id.length=32):Tryz.prog.built 116 [(0, .agg (u8s x.id)),(1, .string (B x.text))]=some (stitC x).toArray:=by
 obtain ⟨it,hi,hz,hs,hb⟩:=Tryz.stitTy.hi
 have hpl:(match Tryz.prog.underlying 116 with | some (.struct fields)=>fields.toList.mapM (fun f=>(Tryz.prog.info? f.type).map fun i=>(f.offset,i.size)) | _=>none)=some [(0,32),(32,1)]:=by kernel_rfl
 have hu:=Tryz.underlying116
 rw [hu] at hpl
 unfold Program.built
 rw [hi,hu]
 simp only [hz]
 simp only at hpl
 rw [hpl]
 have e0:(Value.agg (u8s x.id)).cells=u8s x.id:=rfl
 have e1:(Value.string (B x.text)).cells = #[.string (B x.text)]:=rfl
 have f1 : ∀ c:Array Value,Array.foldl (fun cs (x:Value×Nat)=>cs.setIfInBounds (32+x.snd) x.fst) c (#[.string (B x.text)]:Array Value).zipIdx=c.setIfInBounds 32 (.string (B x.text)):=fun c=>rfl
 have f0 : ∀ c:Array Value,Array.foldl (fun cs (x:Value×Nat)=>cs.setIfInBounds (0+x.snd) x.fst) c (u8s x.id).zipIdx=(x.id.map u8v).zipIdx.foldl (fun cs (x:Value×Nat)=>cs.setIfInBounds (0+x.snd) x.fst) c:=fun c=>by
  rw [←Array.foldl_toList,Array.toList_zipIdx]
  rfl
 have g0:(#[(0,32),(32,1)]:Array (Nat×Nat))[0]?=some (0,32):=rfl
 have g1:(#[(0,32),(32,1)]:Array (Nat×Nat))[1]?=some (32,1):=rfl
 obtain ⟨Z,hZ⟩ : ∃ Z,Z=zStit.cells:=⟨_,rfl⟩
 have hZl:Z.size=33:=by rw [hZ];rfl
 have hZ32:Z[32]?=some (.string (B [])):=by rw [hZ];rfl
 have hfin:(x.id.map u8v).zipIdx.foldl (fun cs (x:Value×Nat)=>cs.setIfInBounds (0+x.snd) x.fst) Z=([]++(x.id.map u8v++[Value.string (B [])])).toArray:=by
  refine fold_mid 0 _ [] (x.id.map u8v) [Value.string (B [])] rfl (by rw [hZl,List.length_map,hid];rfl) (fun i hi=>absurd hi (by omega)) (fun i=>?_)
  rw [List.length_map,hid]
  match i with
  | 0=>exact hZ32
  | n+1=>rw [Array.getElem?_eq_none (by omega)];rfl
 simp only [Instr.fill,g0,g1,e0,e1]
 rw [←hZ,f0,if_neg (by simp [zAj,hid,hZl]),hfin,f1,if_neg (by simp [hid])]
 congr 1
 unfold stitC
 rw [show (u8s x.id).toList=x.id.map u8v from by simp [u8s]]
 simp only [List.setIfInBounds_toArray,List.nil_append]
 rw [List.set_append_right _ _ (by rw [List.length_map,hid];omega),List.length_map,hid]
 rfl
def StPutR (V:Nat→Value) (w0:World) (base:Nat) (vl:Value) (x:StL) (s':List StL) (i:Nat) (v:Value) (W:World):Prop:=
 if i=9 then (∃ b,v = .slice (some ⟨b,0,none⟩) 1 1∧Blk W b 116 (stitC x).toArray∧w0.heap.size≤b)
 else if i=10 then zAS W base v s'∧Newer w0 vl v
 else v=V i
structure StPutC (w0:World) (base p:Nat) (vl:Value) (s':List StL) (listed:Array Bool) (W:World):Prop where
 a_:listed.getD 10 false=false→Below w0.heap.size w0 W
 b_:listed.getD 10 false=true→listed.getD 13 false=false→Far [vl.ownBlock] w0 W
 c_:listed.getD 13 false=true → ∃ v',Blk W p 108 #[v']∧zAS W base v' s'∧Newer w0 vl v'∧Far [some p,vl.ownBlock] w0 W
 sz:w0.heap.size≤W.heap.size
section
variable {V:Nat→Value} {w0 w w':World} {base p:Nat} {vl:Value} {x:StL} {s':List StL} {i:Nat} {v:Value} {listed:Array Bool}
theorem StPutR.at_ (h:StPutR V w0 base vl x s' i v w) (hi:i≠9∧i≠10):v=V i:=by unfold StPutR at h;rwa [if_neg hi.1,if_neg hi.2] at h
theorem StPutR.mk (hi:i≠9∧i≠10) (h:v=V i):StPutR V w0 base vl x s' i v w:=by unfold StPutR;rwa [if_neg hi.1,if_neg hi.2]
theorem StPutR.lit {b:Nat} (h:Blk w b 116 (stitC x).toArray) (hb:w0.heap.size≤b):StPutR V w0 base vl x s' 9 (.slice (some ⟨b,0,none⟩) 1 1) w:=by unfold StPutR;rw [if_pos rfl];exact ⟨b,rfl,h,hb⟩
theorem StPutR.litAt (h:StPutR V w0 base vl x s' 9 v w) : ∃ b,v = .slice (some ⟨b,0,none⟩) 1 1∧Blk w b 116 (stitC x).toArray∧w0.heap.size≤b:=by unfold StPutR at h;rwa [if_pos rfl] at h
theorem StPutR.ins (h:zAS w base v s') (hn:Newer w0 vl v):StPutR V w0 base vl x s' 10 v w:=by unfold StPutR;rw [if_neg (by omega),if_pos rfl];exact ⟨h,hn⟩
theorem StPutR.insAt (h:StPutR V w0 base vl x s' 10 v w):zAS w base v s'∧Newer w0 vl v:=by unfold StPutR at h;rwa [if_neg (by omega),if_pos rfl] at h
theorem StPutR.far {S:List (Option Nat)} (h:StPutR V w0 base vl x s' i v w) (hf:Far S w w') (h9 : ∀ b,w0.heap.size≤b→b<w.heap.size→some b ∉ S) (h10:i=10 → ∀ k,v.ownBlock=some k→some k ∉ S):StPutR V w0 base vl x s' i v w':=by
 by_cases e:i=9
 ·subst e
  obtain ⟨b,rfl,h1,h2⟩:=h.litAt
  exact .lit (hf.blk h1 (h9 b h2 h1.lt)) h2
 ·by_cases e2:i=10
  ·subst e2
   obtain ⟨h1,h2⟩:=h.insAt
   exact .ins (hf.own h1 (h10 rfl)) h2
  ·exact .mk ⟨e,e2⟩ (h.at_ ⟨e,e2⟩)
theorem StPutC.same (h:StPutC w0 base p vl s' listed w) (hi:i<listed.size) (hne:i≠10∧i≠13):StPutC w0 base p vl s' (listed.setIfInBounds i true) w:=by
 have e1:(listed.setIfInBounds i true).getD 10 false=listed.getD 10 false:=by rw [zA0 hi,if_neg (fun e=>hne.1 e.symm)]
 have e2:(listed.setIfInBounds i true).getD 13 false=listed.getD 13 false:=by rw [zA0 hi,if_neg (fun e=>hne.2 e.symm)]
 exact ⟨by rw [e1];exact h.a_,by rw [e1,e2];exact h.b_,by rw [e2];exact h.c_,h.sz⟩
theorem StPutC.drew (h:StPutC w0 base p vl s' listed w):StPutC w0 base p vl s' listed w.drew:=⟨fun e=>(h.a_ e).drew,fun e1 e2=>(h.b_ e1 e2).drew,fun e=>by
 obtain ⟨v',h1,h2,h3,h4⟩:=h.c_ e
 exact ⟨v',h1,h2,h3,h4.drew⟩,h.sz⟩
theorem StPutC.start (w:World):StPutC w base p vl s' (Array.replicate 14 false) w:=⟨fun _=>Below.refl _ _,fun h=>by simp at h,fun h=>by simp at h,Nat.le_refl _⟩
end
end
section
def kindS (s:List StL) (n:Txt):Int:=match getS s n with
 | some x=>match decO x.text with | some o=>o.kind | none=>0
 | none=>0
theorem dec_kind {t:Txt} {o:ObjL} (h:decO t=some o) : ∃ c q,t=c::q∧o.kind=(c.toNat:Int):=by
 unfold decO at h
 match t,h with
 | c::q,h=>
   simp only at h
   split at h
   ·cases h
   ·split at h
    ·cases h
    ·split at h
     ·cases h
     ·split at h
      ·cases h
      ·injection h with h
       exact ⟨c,q,rfl,by rw [←h,zC6]⟩
theorem getS_mem {s:List StL} {n:Txt} {x:StL} (h:getS s n=some x):x∈s:=List.mem_of_find?_eq_some h
section
variable {w w':World} {base p:Nat} {vl:Value} {s:List StL}
theorem boxId (w:World) (n:Txt) (hn:n.length=32) : ∃ W1,w.alloc (.cells (u8s n) 46)=W1∧Below w.heap.size w W1∧Blk W1 w.heap.size 46 (u8s n) ∧ ∀ W,Below W1.heap.size W1 W→(ldvI ⟨w.heap.size,0,none⟩).run Tryz.prog W = .ok (.agg (u8s n)) W:=by
 have n1:Blk (w.alloc (.cells (u8s n) 46)) w.heap.size 46 (u8s n):=Blk.new _ _ _
 refine ⟨_,rfl,(Below.refl _ _).alloc (Nat.le_refl _) _,n1,fun W hW=>?_⟩
 have hsI:(Tryz.prog.info? 46).map (·.size)=some (u8s n).toList.length:=by rw [zAI,hn];exact sz32
 have:=run_loadVar_mid (P:=Tryz.prog) W w.heap.size 0 46 (u8s n).toList _ (zAi (n1.below hW n1.lt)) Tryz.underlying46 rfl hsI
 rwa [Array.toArray_toList] at this
attribute [local go_sem ↓] ldvI_eq ldvO_eq
def ObjT (s:List StL) (n:Txt) (B0:Nat) (w':World) (e:Ending):Prop:=match getS s n with
 | some x => ∃ o A1 A2 k1 k2,decO x.text=some o∧e = .returned (.tuple #[.agg (objC o (.slice A1 o.ents.length k1) (.slice A2 o.pars.length k2)).toArray, .bool true])∧ObjV w' (.slice A1 o.ents.length k1) (.slice A2 o.pars.length k2) o∧OwnEnts w' B0 (.slice A1 o.ents.length k1) o.ents∧OwnIds w' B0 (.slice A2 o.pars.length k2) o.pars
 | none=>e = .returned (.tuple #[.agg zObj, .bool false])
set_option maxRecDepth 100000 in
set_option maxHeartbeats 2000000 in
theorem zBV (h:StoAt w base p vl s) (n:Txt) (hn:n.length=32) :
 Calls Tryz.prog 30 #[.pointer (some ⟨p,0,none⟩), .agg (u8s n)] w fun e w'=>ObjT s n w.heap.size w' e∧Below w.heap.size w w':=by
 have hzo:=zeroObj
 have hz72:=zAB
 have hrb:=fun W=>run_build (P:=Tryz.prog) W _ _ _ zBt
 have hsz : ∀ cs:Array Value,cs.size=72→(Tryz.prog.info? 59).map (·.size)=some cs.size:=fun cs h=>by rw [h];exact szObj
 have hzone:zObj.all (·.oneCell')=true:=zAr zeroO none none 0 0 0 0
 obtain ⟨W1,hW1,b1,n1,ld⟩:=boxId w n hn
 obtain ⟨W2,hW2⟩ : ∃ W2,W1.alloc (.cells zObj 59)=W2:=⟨_,rfl⟩
 have z2:Blk W2 W1.heap.size 59 zObj:=by rw [←hW2];exact Blk.new _ _ _
 have bb2:Below W1.heap.size W1 W2:=by rw [←hW2];exact (Below.refl _ _).alloc (Nat.le_refl _) _
 have b2:=bthen b1 b1.size bb2
 have hg:=Lib.hid (stoGet_calls (h.below b2) n hn)
 have q1:=ld W2 bb2
 have hle1:=b1.size
 unfold ObjT
 generalize u8s n=NC at *
 clear ld n1
 cases hG:getS s n with
 | none=>
   have hg:Hid (Calls Tryz.prog 54 #[.pointer (some ⟨p,0,none⟩), .agg NC] W2 fun e w'=>e = .returned (.tuple #[.string (B []), .bool false])∧Below W2.heap.size W2 w'):=by
    have:=hg;unfold getV at this;rw [hG] at this;exact this
   generalize zObj=ZO at *
   clear hG
   go_enter Tryz.func30,Tryz.ntmps30
   go_wp2_with (first
    | ((with_reducible refine hg.out.mono ?_);rintro e w3 ⟨rfl,hb3⟩
       have b3:=bthen b2 b2.size hb3
       have z3:=z2.below hb3 z2.lt)
    | (refine wpList_store_row rfl 59 (.tmp 4) (.tmp 18) rfl W1.heap.size ZO rfl rfl _ _ z3 (hsz ZO hz72) rfl hzone ?_))
   refine bodyPost_ret (zAe rfl _ _ W1.heap.size _ _ _ _ rfl (setRow_heap _ _ _ _ _ _ z3) Tryz.underlying59 rfl (hsz ZO hz72)) rfl ⟨rfl,zAa b3 hle1 _⟩
 | some x=>
   have hg:Hid (Calls Tryz.prog 54 #[.pointer (some ⟨p,0,none⟩), .agg NC] W2 fun e w'=>e = .returned (.tuple #[.string (B x.text), .bool true])∧Below W2.heap.size W2 w'):=by
    have:=hg;unfold getV at this;rw [hG] at this;exact this
   obtain ⟨o,ho⟩:=(h.ok.each x (getS_mem hG)).2
   have hxl:=(decO_len ho).2
   have hde : ∀ W,Calls Tryz.prog 47 #[.string (B x.text)] W fun e w'=>(∃ A1 A2 k1 k2,e = .returned (.tuple #[.agg (objC o (.slice A1 o.ents.length k1) (.slice A2 o.pars.length k2)).toArray, .int .i64 0])∧ObjV w' (.slice A1 o.ents.length k1) (.slice A2 o.pars.length k2) o∧OwnEnts w' W.heap.size (.slice A1 o.ents.length k1) o.ents∧OwnIds w' W.heap.size (.slice A2 o.pars.length k2) o.pars)∧Below W.heap.size W w':=fun W=>by
    have:=zEw x.text (by omega) W
    rw [ho] at this
    exact this
   clear hG
   go_enter Tryz.func30,Tryz.ntmps30
   go_wp2_with (first
    | ((with_reducible refine hg.out.mono ?_);rintro e w3 ⟨rfl,hb3⟩
       have b3:=bthen b2 b2.size hb3
       have z3:=z2.below hb3 z2.lt
       have b3z:=hb3.size)
    | ((with_reducible refine (hde _).mono ?_);rintro e w4 ⟨⟨A1,A2,k1,k2,rfl,hv4,oe4,op4⟩,hb4⟩
       have b4:=bthen b3 b3.size hb4
       have z4:=z3.below hb4 z3.lt
       have hc72:(objC o (.slice A1 o.ents.length k1) (.slice A2 o.pars.length k2)).toArray.size=72:=by rw [List.size_toArray,zAv hv4.ok]
       have hcone:=zAr o A1 A2 o.ents.length k1 o.pars.length k2)
    | ((with_reducible refine lit_new 59 (.tmp 8) (.tmp 22) (objC o (.slice A1 o.ents.length k1) (.slice A2 o.pars.length k2)).toArray 72 szObj hc72 hcone _ ?_ ?_ ?_ ?_)
       ·first | exact hz72 | rfl
       ·rfl
       ·rfl
       intro W5 hb5 hbl5
       have b5:=bthen b4 b4.size hbl5
       have z5:=z4.below hbl5 z4.lt
       have hv5:=hv4.below hbl5
       have hO5:ObjB W5 w4.heap.size o (.slice A1 o.ents.length k1) (.slice A2 o.pars.length k2):=⟨hb5,hv4.ok.tree,hv4.ok.target⟩
       have ld5:=zAT hO5 hv4.ok)
    | (refine wpList_store_row rfl 59 (.tmp 4) (.tmp 24) rfl W1.heap.size (objC o (.slice A1 o.ents.length k1) (.slice A2 o.pars.length k2)).toArray rfl rfl _ _ z5 (hsz _ hc72) (hz72.trans hc72.symm) hcone ?_))
   refine bodyPost_ret (zAe rfl _ _ W1.heap.size _ _ _ _ rfl (setRow_heap _ _ _ _ _ _ z5) Tryz.underlying59 rfl (hsz _ hc72)) rfl ⟨⟨o,A1,A2,k1,k2,ho,rfl,?_,zAw (own_row (zAf oe4 hbl5) (Nat.lt_of_lt_of_le z2.lt b3z) _) b3.size,zAw (own_row (zAf op4 hbl5) (Nat.lt_of_lt_of_le z2.lt b3z) _) b3.size⟩,zAa b5 hle1 _⟩
   exact zCD hv4.ok (zAf oe4 hbl5) (zAf op4 hbl5) (Nat.lt_of_lt_of_le z2.lt b3z) _
attribute [local go_sem ↓] ldvStit_eq
end
attribute [local go_sem ↓] ldvI_eq ldvO_eq
end
section
attribute [local go_sem ↓] ldvI_eq ldvO_eq
theorem boxSt {w:World} (vm:Value) (n:Txt) (hn:n.length=32) : ∃ W1 W2,w.alloc (.cells #[vm] 28)=W1∧W1.alloc (.cells (u8s n) 46)=W2∧Below w.heap.size w W2∧w.heap.size<W1.heap.size∧W1.heap.size<W2.heap.size ∧
 ∀ W,Below W2.heap.size W2 W→W.cell? ⟨w.heap.size,0,none⟩=some vm∧W.heap[w.heap.size]?=some (.cells #[vm] 28 (0,0))∧(ldvI ⟨W1.heap.size,0,none⟩).run Tryz.prog W = .ok (.agg (u8s n)) W:=by
 obtain ⟨W1,hW1⟩ : ∃ W1,w.alloc (.cells #[vm] 28)=W1:=⟨_,rfl⟩
 have s1:Blk W1 w.heap.size 28 #[vm]:=by rw [←hW1];exact Blk.new _ _ _
 have b1:Below w.heap.size w W1:=by rw [←hW1];exact (Below.refl _ _).alloc (Nat.le_refl _) _
 obtain ⟨W2,hW2,bb2,n2,ld⟩:=boxId W1 n hn
 refine ⟨W1,W2,hW1,hW2,bthen b1 b1.size bb2,s1.lt,n2.lt,fun W hW=>⟨?_,?_,ld W hW⟩⟩
 ·exact ((s1.below bb2 s1.lt).below hW (Nat.lt_of_lt_of_le s1.lt bb2.size)).cell 0
 ·exact (s1.below bb2 s1.lt).below hW (Nat.lt_of_lt_of_le s1.lt bb2.size)
theorem szDSt : (Tryz.prog.info? 28).map (·.size)=some 1:=by kernel_rfl
def ldvS (p:Addr):Sem Value:=loadVar 28 p
theorem ldvS_eq (p:Addr):loadVar 28 p=ldvS p:=rfl
attribute [local go_sem ↓] ldvS_eq
theorem zAP {w:World} {g:Nat} {vm:Value} (h:w.heap[g]?=some (.cells #[vm] 28 (0,0))):(ldvS ⟨g,0,none⟩).run Tryz.prog w = .ok (.agg #[vm]) w:=
 run_loadVar_row w g _ _ _ _ _ h Tryz.underlying28 rfl szDSt
section
variable {w:World} {vm:Value} {es:List DiL}
set_option maxRecDepth 100000 in
set_option maxHeartbeats 1000000 in
theorem zBM (h:DocSt w vm es) (n:Txt) (hn:n.length=32) :
 Calls Tryz.prog 18 #[.agg #[vm], .agg (u8s n)] w fun e w'=>e = .returned (.int .i64 (kindS (es.map (·.st)) n))∧Below w.heap.size w w':=by
 obtain ⟨W1,W2,hW1,hW2,b2,hl1,hl2,hf⟩:=boxSt (w:=w) vm n hn
 obtain ⟨c2,r2,q2⟩:=hf W2 (Below.refl _ _)
 have l2:=zAP r2
 have ha:=zCz (h.below b2) n hn
 unfold AtR at ha
 obtain ⟨r,hr⟩ : ∃ r,Hid (kindS (es.map (·.st)) n=r):=⟨_,Lib.hid rfl⟩
 rw [hr.out]
 have hrv:=hr.out
 unfold kindS at hrv
 clear hr
 have heach:=h.each
 have hfew:=h.few
 obtain ⟨A,cap,rfl,hcap1,hcap2,hat⟩:=h.at_
 generalize u8s n=NC at *
 cases hG:getS (es.map (·.st)) n with
 | none=>
   rw [hG] at ha
   have ha:Calls Tryz.prog 33 #[.agg #[.slice A es.length cap], .agg NC] W2 fun e w'=>e = .returned (.int .i64 (-1))∧Below W2.heap.size W2 w':=ha.mono fun e w' ⟨h1,h2⟩=>by
    rcases h1 with ⟨k,x,_,_,hx⟩ | ⟨he,_⟩
    ·cases hx
    ·exact ⟨he,h2⟩
   have ha:=Lib.hid ha
   rw [hG] at hrv
   have hrv:Hid (r=0):=hrv.symm
   clear hG hf h heach hat
   go_enter Tryz.func18,Tryz.ntmps18
   go_wp2_with (first
    | ((with_reducible refine ha.out.mono ?_);rintro e w3 ⟨rfl,hb3⟩))
   go_ret
   exact ⟨by rw [hrv.out];rfl,bthen b2 b2.size hb3⟩
 | some y=>
   rw [hG] at ha
   have ha:Calls Tryz.prog 33 #[.agg #[.slice A es.length cap], .agg NC] W2 fun e w'=>(∃ (k:Nat) (x:DiL),e = .returned (.int .i64 k)∧es[k]?=some x∧y=x.st)∧Below W2.heap.size W2 w':=ha.mono fun e w' ⟨h1,h2⟩=>by
    rcases h1 with ⟨k,x,he,hx0,hx⟩ | ⟨_,hx⟩
    ·exact ⟨⟨k,x,he,hx0,by injection hx⟩,h2⟩
    ·cases hx
   have ha:=Lib.hid ha
   rw [hG] at hrv
   simp only at hrv
   have hrv:Hid (∀ o,decO y.text=some o→r=o.kind):=fun o ho=>by rw [ho] at hrv;exact hrv.symm
   clear hG h
   go_enter Tryz.func18,Tryz.ntmps18
   go_wp2_with (first
    | ((with_reducible refine ha.out.mono ?_);rintro e w3 ⟨⟨k,x,rfl,hx,rfl⟩,hb3⟩
       have hlt:=(List.getElem?_eq_some_iff.1 hx).1
       have hk0 : ¬ (k:Int)<0:=by omega
       have hki:(k:Int)<(es.length:Int):=by omega
       obtain ⟨ga,oa,rfl,hga,hca⟩:=hat (by omega)
       have hd:=heach x (List.mem_of_getElem? hx)
       have b3:=bthen b2 b2.size hb3
       have k3:=dit_kind (zAc (hca k x hx) hga b3) hd.id
       have c3:=(hf w3 hb3).1
       have hdx:=Lib.hid hd.dec
       clear hx hca hat heach hd hf))
   all_goals try (exfalso;omega)
   go_ret
   exact ⟨by rw [hrv.out _ hdx.out];rfl,b3⟩
def ObjG (s:List StL) (n:Txt) (w':World) (e:Ending):Prop:=match getS s n with
 | some x => ∃ o A1 A2 k1 k2,decO x.text=some o∧e = .returned (.agg (objC o (.slice A1 o.ents.length k1) (.slice A2 o.pars.length k2)).toArray)∧ObjV w' (.slice A1 o.ents.length k1) (.slice A2 o.pars.length k2) o
 | none=>e = .returned (.agg zObj)
theorem ObjG.below {s:List StL} {n:Txt} {w w':World} {e:Ending} (h:ObjG s n w e) (hb:Below w.heap.size w w'):ObjG s n w' e:=by
 unfold ObjG at h ⊢
 cases hG:getS s n with
 | none=>rw [hG] at h;exact h
 | some x=>
   rw [hG] at h
   obtain ⟨o,A1,A2,k1,k2,h1,h2,h3⟩:=h
   exact ⟨o,A1,A2,k1,k2,h1,h2,h3.below hb⟩
set_option maxRecDepth 100000 in
set_option maxHeartbeats 2000000 in
theorem zEK {w0:World} (h0:DocSt w0 vm es) (hb0:Below w0.heap.size w0 w) (n:Txt) (hn:n.length=32) :
 Calls Tryz.prog 17 #[.agg #[vm], .agg (u8s n)] w fun e w'=>ObjG (es.map (·.st)) n w0 e∧Below w.heap.size w w':=by
 have h:=h0.below hb0
 have heach0:=h0.each
 clear h0 hb0
 have hzo:=zeroObj
 have hz72:=zAB
 have hrb:=fun W=>run_build (P:=Tryz.prog) W _ _ _ zBt
 have hsz : ∀ cs:Array Value,cs.size=72→(Tryz.prog.info? 59).map (·.size)=some cs.size:=fun cs h=>by rw [h];exact szObj
 have hzone:zObj.all (·.oneCell')=true:=zAr zeroO none none 0 0 0 0
 obtain ⟨W1,W2,hW1,hW2,b2,hl1,hl2,hf⟩:=boxSt (w:=w) vm n hn
 obtain ⟨W3,hW3⟩ : ∃ W3,W2.alloc (.cells zObj 59)=W3:=⟨_,rfl⟩
 have z3:Blk W3 W2.heap.size 59 zObj:=by rw [←hW3];exact Blk.new _ _ _
 have bb3:Below W2.heap.size W2 W3:=by rw [←hW3];exact (Below.refl _ _).alloc (Nat.le_refl _) _
 have b3:=bthen b2 b2.size bb3
 obtain ⟨c3,r3,q3⟩:=hf W3 bb3
 have l3:=zAP r3
 have hle2:=b2.size
 have ha:=zCz (h.below b3) n hn
 unfold AtR at ha
 unfold ObjG
 have heach:=h.each
 have hfew:=h.few
 obtain ⟨A,cap,rfl,hcap1,hcap2,hat⟩:=h.at_
 generalize u8s n=NC at *
 generalize zObj=ZO at *
 cases hG:getS (es.map (·.st)) n with
 | none=>
   rw [hG] at ha
   have ha:Calls Tryz.prog 33 #[.agg #[.slice A es.length cap], .agg NC] W3 fun e w'=>e = .returned (.int .i64 (-1))∧Below W3.heap.size W3 w':=ha.mono fun e w' ⟨h1,h2⟩=>by
    rcases h1 with ⟨k,x,_,_,hx⟩ | ⟨he,_⟩
    ·cases hx
    ·exact ⟨he,h2⟩
   have ha:=Lib.hid ha
   clear hG hf h heach heach0 hat
   go_enter Tryz.func17,Tryz.ntmps17
   go_wp2_with (first
    | ((with_reducible refine ha.out.mono ?_);rintro e w4 ⟨rfl,hb4⟩
       have b4:=bthen b3 b3.size hb4
       have z4:=z3.below hb4 z3.lt)
    | (refine wpList_store_row rfl 59 (.tmp 4) (.tmp 11) rfl W2.heap.size ZO rfl rfl _ _ z4 (hsz ZO hz72) rfl hzone ?_))
   refine bodyPost_ret (results_cell_row rfl _ _ W2.heap.size _ _ _ _ rfl (setRow_heap _ _ _ _ _ _ z4) Tryz.underlying59 rfl (hsz ZO hz72)) rfl ⟨rfl,zAa b4 hle2 _⟩
 | some y=>
   rw [hG] at ha
   have ha:Calls Tryz.prog 33 #[.agg #[.slice A es.length cap], .agg NC] W3 fun e w'=>(∃ (k:Nat) (x:DiL),e = .returned (.int .i64 k)∧es[k]?=some x∧y=x.st)∧Below W3.heap.size W3 w':=ha.mono fun e w' ⟨h1,h2⟩=>by
    rcases h1 with ⟨k,x,he,hx0,hx⟩ | ⟨_,hx⟩
    ·exact ⟨⟨k,x,he,hx0,by injection hx⟩,h2⟩
    ·cases hx
   have ha:=Lib.hid ha
   clear hG h
   go_enter Tryz.func17,Tryz.ntmps17
   go_wp2_with (first
    | ((with_reducible refine ha.out.mono ?_);rintro e w4 ⟨⟨k,x,rfl,hx,rfl⟩,hb4⟩
       have hlt:=(List.getElem?_eq_some_iff.1 hx).1
       have hk0 : ¬ (k:Int)<0:=by omega
       have hki:(k:Int)<(es.length:Int):=by omega
       obtain ⟨ga,oa,rfl,hga,hca⟩:=hat (by omega)
       have hd:=heach x (List.mem_of_getElem? hx)
       have b4:=bthen b3 b3.size hb4
       have z4:=z3.below hb4 z3.lt
       have ld4:(ldvO ⟨ga,oa+k*105+33,none⟩).run Tryz.prog w4 = .ok (.agg (objC x.o x.ve x.vp).toArray) w4:=run_loadVar_mid (P:=Tryz.prog) w4 ga (oa+k*105+33) 59 (objC x.o x.ve x.vp) _ (dit_obj (zAc (hca k x hx) hga b4) hd.id) Tryz.underlying59 rfl (by rw [zAv hd.val.ok];exact szObj)
       have c4:=(hf w4 (bthen bb3 bb3.size hb4)).1
       obtain ⟨A1,A2,k1,k2,e1,e2⟩:=hd.forms
       have hval:=(heach0 x (List.mem_of_getElem? hx)).val
       rw [e1,e2] at ld4 hval
       have hdx:=Lib.hid hd.dec
       have hc72:(objC x.o (.slice A1 x.o.ents.length k1) (.slice A2 x.o.pars.length k2)).toArray.size=72:=by rw [List.size_toArray,zAv hval.ok]
       have hcone:=zAr x.o A1 A2 x.o.ents.length k1 x.o.pars.length k2
       clear hx hca hat heach heach0 hd hf e1 e2)
    | (refine wpList_store_row rfl 59 (.tmp 4) (.tmp 17) rfl W2.heap.size (objC x.o (.slice A1 x.o.ents.length k1) (.slice A2 x.o.pars.length k2)).toArray rfl rfl _ _ z4 (hsz _ hc72) (hz72.trans hc72.symm) hcone ?_))
   all_goals try (exfalso;omega)
   have bF:=zAa b4 hle2 (objC x.o (.slice A1 x.o.ents.length k1) (.slice A2 x.o.pars.length k2)).toArray
   refine bodyPost_ret (results_cell_row rfl _ _ W2.heap.size _ _ _ _ rfl (setRow_heap _ _ _ _ _ _ z4) Tryz.underlying59 rfl (hsz _ hc72)) rfl ⟨⟨x.o,A1,A2,k1,k2,hdx.out,rfl,hval⟩,bF⟩
end
end
section
attribute [local go_sem ↓] ldvI_eq
structure TwoC (w:World) (ga oa gb ob:Nat) (x:Txt) (w':World):Prop where
 a_:w'.rangeAt ga oa (idC x)
 b_:w'.rangeAt gb ob (idC x)
 bel:Below w.heap.size w w'
theorem TwoC.drew {w:World} {ga oa gb ob:Nat} {x:Txt} {w':World} (h:TwoC w ga oa gb ob x w'):TwoC w ga oa gb ob x w'.drew:=⟨h.a_,h.b_,h.bel.drew⟩
theorem quiet_neq_idC {C:World→Prop} {W:World} {a:Act} {d:Option Tmp} {rt t':TypeId} {pos:String} {af:Array Edge} {gd:Option (Nat×Bool)} {x y:Operand} (p:Txt) (hp:p.length=32)
 (hx:a.eval x = .agg (idC p).toArray) (hy:a.eval y = .agg (idC p).toArray):Oper.quietUpon Tryz.prog C W (.bool false) ((execOp a.eval { dst:=d,op := .binOp .neq 46 x y t',type:=rt,pos:=pos,after:=af,guard:=gd }).run Tryz.prog W):=by
 have e:(idC p).toArray=u8s p:=by simp [idC]
 rw [e] at hx hy
 unfold execOp
 simp only [hx,hy,Sem.run_bind,run_eqGuard_agg _ _ _ _ _ _ _ Tryz.eqGuardType46,zC3 W p p hp hp,Result.andThen_ok,decide_true,Bool.not_true]
 exact ⟨rfl,rfl⟩
set_option maxRecDepth 100000 in
set_option maxHeartbeats 2000000 in
theorem zCX (l:List Txt) (hok : ∀ x∈l,x.length=32) (va vb:Value) (w:World) (ha:Ids w va l) (hb:Ids w vb l) :
 Calls Tryz.prog 15 #[va,vb] w fun e w'=>e = .returned (.bool true)∧Below w.heap.size w w':=by
 have hla:=ha.len
 obtain ⟨A,capa,rfl,ha1,ha2,hata⟩:=ha
 obtain ⟨B',capb,rfl,hb1,hb2,hatb⟩:=hb
 go_enter Tryz.func15,Tryz.ntmps15
 go_wp2
 go_loopw [5] (fun i wr => ∃ k:Nat,i = .int .i64 k∧k≤l.length∧Below w.heap.size w wr) (fun i _=>l.length-(intOf i).toNat)
 case atStart=>exact ⟨0,rfl,by omega,Below.refl _ _⟩
 case round=>
  obtain ⟨k,rfl,hk,hbel⟩:=hrel
  by_cases hlt:k<l.length
  ·have hki:(k:Int)<(l.length:Int):=by omega
   obtain ⟨ga,oa,rfl,hga,hca⟩:=hata (by omega)
   obtain ⟨gb,ob,rfl,hgb,hcb⟩:=hatb (by omega)
   obtain ⟨x,hx⟩ : ∃ x,l[k]?=some x:=⟨_,List.getElem?_eq_getElem hlt⟩
   have hxok:=hok x (List.mem_of_getElem? hx)
   have hS:TwoC w ga (oa+k*32) gb (ob+k*32) x wr:=⟨zAc (hca k x hx) hga hbel,zAc (hcb k x hx) hgb hbel,hbel⟩
   have hsz:(Tryz.prog.info? 46).map (·.size)=some (idC x).length:=by rw [idC_len hxok];exact sz32
   clear hx hata hatb hca hcb hbel hok
   go_wp2
   refine zAd (C:=TwoC w ga (oa+k*32) gb (ob+k*32) x) (by kernel_rfl) (by kernel_rfl) hS.drew ?_
   repeat
    first
     | ((with_reducible refine zAl ?_ ?_)
        ·(go_simp;done)
        apply Exists.intro
        refine ⟨fun W hW=>?_,?_⟩
        ·first
          | exact zAy _ _ rfl ga (oa+k*32) rfl (idC x) _ hW.a_ Tryz.underlying46 rfl hsz rfl
          | exact zAy _ _ rfl gb (ob+k*32) rfl (idC x) _ hW.b_ Tryz.underlying46 rfl hsz rfl
          | ((with_reducible refine quiet_neq_idC x hxok ?_ ?_)<;>rfl)
          | (go_simp
             first
              | rfl)
        simp only [Act.put,zA,zB,zC])
     | ((with_reducible refine zAh ?_ ?_)
        ·(first | rfl | (go_simp;done))
        simp only [Act.put,zA,zB,zC])
   with_reducible refine wpQuiet_nil ?_
   intro w5 hW5
   go_wp2
   go_roundw
   case rel=>exact ⟨k+1,by go_num,by omega,hW5.bel⟩
   case measure=>simp [intOf];omega
  ·have hki : ¬ (k:Int)<(l.length:Int):=by omega
   go_wp2
   go_ret
   exact ⟨rfl,hbel⟩
end
section
attribute [local go_sem ↓] ldvI_eq
end
end Go.Proofs.YtbhdfaadedlcfaaGreatDoor
namespace Go.Proofs.YtbhdfaadedlcfaaGreatDoor
def figN (c:UInt8):Nat:=if 48≤c.toNat∧c.toNat≤57 then c.toNat-48 else if 97≤c.toNat∧c.toNat≤102 then c.toNat-87 else 16
def fg (s:List UInt8) (i:Nat):Nat:=figN (s.getD i 0)
def Figs (s:List UInt8) (i:Nat):Prop := ∀ j,j<i→fg s j<16
theorem Figs.step {s:List UInt8} {i:Nat} (h:Figs s i) (hi:fg s i<16):Figs s (i+1):=fun j hj=>by
 rcases Nat.lt_or_ge j i with h1 | h1
 ·exact h j h1
 ·rw [show j=i from by omega];exact hi
end Go.Proofs.YtbhdfaadedlcfaaGreatDoor
