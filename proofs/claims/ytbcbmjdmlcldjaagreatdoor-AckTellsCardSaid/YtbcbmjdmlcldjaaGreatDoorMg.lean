/- Texts of this claim, laid together: RdD, RdE, GsW, StoO, GraM, GraR, DocW, DocO, LinkR. -/
import Derived.Test.YtbcbmjdmlcldjaaGreatDoorMf
import Derived.Great.BuildSlice
namespace Go.Proofs.YtbcbmjdmlcldjaaGreatDoor
open Go.RowKit
section
attribute [local go_sem ↓] ldvO_eq
theorem rKind_lt (r:Rd):(rKind r).1<256:=by
 unfold rKind
 split
 ·show (0:Nat)<256
  omega
 ·exact UInt8.toNat_lt _
theorem rEnt_ok (r:Rd) (h:r.1.length≤1000000):EntOk (rEnt r).1:=by
 have h1:=rKind_lt r
 have h2:=zDV (rKind r).2
 have h3:=zE0 r
 exact ⟨rId_len _,by show (rText (rKind r).2).1.length≤_;omega,by show _≤((rKind r).1:Int);omega,by show ((rKind r).1:Int)≤_;omega⟩
theorem rEnt_le (r:Rd):(rEnt r).2.1.length≤r.1.length:=Nat.le_trans (rId_le _) (Nat.le_trans (rText_le _) (zE0 _))
theorem rTree_ok : ∀ (f:Nat) (r:Rd) (acc:List EntL),r.1.length≤1000000→(∀ e∈acc,EntOk e) → ∀ e∈(rTree f r acc).1,EntOk e
 | 0,r,acc,_,h=>h
 | f+1,r,acc,hl,h=>by
   rw [rTree]
   split
   ·exact h
   ·refine rTree_ok f _ _ (Nat.le_trans (rEnt_le r) hl) ?_
    intro e he
    rcases List.mem_append.1 he with he | he
    ·exact h e he
    ·obtain rfl:=List.mem_singleton.1 he
     exact rEnt_ok r hl
theorem readO_ok (k:Nat) (hk:k<256) (r:Rd) (hr:r.1.length≤100000):ObjOk (readO k r).1:=by
 have hs:=readO_sound k r
 have h0:([]:Txt).length≤9223372036854775807:=by simp
 have hkk:=zC5 k r
 refine ⟨hs.tree,hs.target,?_,hs.pars,?_,?_,?_,hs.time,by rw [hkk];omega,by rw [hkk];omega,?_,?_⟩
 all_goals
  unfold readO
  split
  ·first
    | exact rTree_ok _ _ _ (by omega) (by simp)
    | exact h0
    | (show (-9223372036854775808:Int)≤0;omega)
    | (show (0:Int)≤9223372036854775807;omega)
  ·split
   ·first
     | exact h0
     | (intro e he;cases he;done)
     | (refine Nat.le_trans (zDV _) ?_
        rw [zD0]
        refine Nat.le_trans (Nat.le_trans (rNum_le _) (Nat.le_trans (rPars_le _ _ _) ?_)) (Nat.le_trans hr (by omega))
        rw [zD0]
        exact Nat.le_trans (rNum_le _) (rId_le _))
     | (show (-9223372036854775808:Int)≤0;omega)
     | (show (0:Int)≤9223372036854775807;omega)
   ·split
    ·first
      | exact h0
      | (intro e he;cases he;done)
      | (refine Nat.le_trans (zDV _) (Nat.le_trans (Nat.le_trans (rId_le _) (zE0 _)) (by omega)))
      | (have:=rKind_lt r;show (-9223372036854775808:Int)≤((rKind r).1:Int);omega)
      | (have:=rKind_lt r;show ((rKind r).1:Int)≤9223372036854775807;omega)
    ·first
      | exact h0
      | (intro e he;cases he;done)
      | (show (rBytes r.1.length r).1.length≤_
         rcases bytes_or (n:=r.1.length) r with h | h
         ·rw [h];exact h0
         ·rw [h];omega)
      | (show (-9223372036854775808:Int)≤0;omega)
      | (show (0:Int)≤9223372036854775807;omega)
theorem zBv (k:Int):Tryz.prog.built 68 [(0, .int .i64 k)]=some (objC ⟨k,[],[],noId,[],0,[],noId,0,[]⟩ (.slice none 0 0) (.slice none 0 0)).toArray:=by kernel_rfl
theorem built_rd (t:Txt):Tryz.prog.built 146 [(0, .string (B t))]=some #[.string (B t), .bool false]:=by kernel_rfl
def DecR (x:Option ObjL) (B:Nat) (w':World) (e:Ending):Prop:=match x with
 | some o => ∃ A1 A2 k1 k2,e = .returned (.tuple #[.agg (objC o (.slice A1 o.ents.length k1) (.slice A2 o.pars.length k2)).toArray, .int .i64 0])∧ObjV w' (.slice A1 o.ents.length k1) (.slice A2 o.pars.length k2) o∧OwnEnts w' B (.slice A1 o.ents.length k1) o.ents∧OwnIds w' B (.slice A2 o.pars.length k2) o.pars
 | none=>e = .returned (.tuple #[.agg zObj, .int .i64 2])
theorem Did.val {w w':World} {gO gR:Nat} {x:ObjL×Rd} {ve vp:Value} (h:Been w gO gR w.heap.size x.1 x.2 ve vp w') (ho:ObjOk x.1) : ∃ A1 A2 k1 k2,ve = .slice A1 x.1.ents.length k1∧vp = .slice A2 x.1.pars.length k2∧ObjV w' ve vp x.1:=by
 have he:Ents w' ve x.1.ents:=SliceAt.of_own (fun e h=>zBw (ho.ents e h)) h.ents
 have hp:Ids w' vp x.1.pars:=SliceAt.of_own (fun e h=>idC_len (ho.pars e h)) h.pars
 have he':=he
 have hp':=hp
 obtain ⟨A1,k1,e1,_⟩:=he'
 obtain ⟨A2,k2,e2,_⟩:=hp'
 exact ⟨A1,A2,k1,k2,e1,e2,ho,he,hp⟩
theorem own_row {w:World} {B g:Nat} {e:TypeId} {k m:Nat} {v:Value} {zs:List Value} (h:w.ownsRow B e k v m zs) (hg:g<B) (cs:Array Value):(w.setRow g cs).ownsRow B e k v m zs:=
 Far.own (S:=[some g]) (Far.row (Far.refl _ w) (.inl (by simp)) cs) h fun q hq=>by
  have:=(World.ownsRow.lt h q hq).1
  simp;omega
theorem zCE {w:World} {B g:Nat} {ve vp:Value} {o:ObjL} (ho:ObjOk o) (he:OwnEnts w B ve o.ents) (hp:OwnIds w B vp o.pars) (hg:g<B) (cs:Array Value):ObjV (w.setRow g cs) ve vp o:=
 ⟨ho,SliceAt.of_own (fun e h=>zBw (ho.ents e h)) (own_row he hg cs),SliceAt.of_own (fun e h=>idC_len (ho.pars e h)) (own_row hp hg cs)⟩
theorem zAv (o:ObjL) (A1 A2:Option Addr) (a b c d:Nat):(objC o (.slice A1 a b) (.slice A2 c d)).toArray.all (·.oneCell')=true:=by
 refine all_oneCell_toArray ?_
 intro v hv
 unfold objC at hv
 simp only [List.mem_cons,List.mem_append] at hv
 have h8 : ∀ l:Txt,v∈(u8s l).toList→v.oneCell'=true:=fun l h=>u8v_one l v (by simpa [u8s] using h)
 rcases hv with rfl | rfl | rfl | hv | rfl | rfl | rfl | hv | rfl | rfl | hv
 ·rfl
 ·rfl
 ·rfl
 ·exact h8 _ hv
 ·rfl
 ·rfl
 ·rfl
 ·exact h8 _ hv
 ·rfl
 ·rfl
 ·cases hv
set_option maxRecDepth 100000 in
set_option maxHeartbeats 2000000 in
theorem decode_no (s:Txt) (hs:s.length≤4611686018427387904) (h:s=[]∨4096<s.length∨takeP (s.drop 1)=none ∨ ∃ t c q,takeP (s.drop 1)=some (t,c::q)) (w:World) :
 Calls Tryz.prog 52 #[.string (B s)] w fun e w'=>e = .returned (.tuple #[.agg zObj, .int .i64 2])∧Below w.heap.size w w':=by
 have hzv:=zeroObj
 obtain ⟨W0,hW0⟩ : ∃ W0,w.alloc (.cells zObj 68)=W0:=⟨_,rfl⟩
 have hz0:Blk W0 w.heap.size 68 zObj:=by rw [←hW0];exact Blk.new _ _ _
 have b0:Below w.heap.size w W0:=by rw [←hW0];exact (Below.refl _ _).alloc (Nat.le_refl _) _
 have hrb:=fun W=>run_build (P:=Tryz.prog) W _ _ _ zBu
 have hone:=zCG
 have hsz:=zES
 by_cases h1:s=[]∨4096<s.length
 ·clear h
  rcases h1 with rfl | h1
  ·go_enter Tryz.func52,Tryz.ntmps52
   go_wp2_with (first
    | (refine wpList_store_row rfl 68 (.tmp 2) (.tmp 17) rfl w.heap.size zObj rfl rfl _ _ hz0 hsz rfl hone ?_))
   refine bodyPost_ret (zAg rfl _ _ w.heap.size _ _ _ _ rfl (setRow_heap _ _ _ _ _ _ hz0) Tryz.underlying68 rfl hsz) rfl ⟨rfl,zAa b0 (Nat.le_refl _) _⟩
  ·match s,h1,hs with
   | c::q,h1,hs=>
     simp only [List.length_cons] at h1 hs
     have i1:(4096:Int)<(q.length:Int)+1:=by omega
     go_enter Tryz.func52,Tryz.ntmps52
     go_wp2_with (first
      | (refine wpList_store_row rfl 68 (.tmp 2) (.tmp 17) rfl w.heap.size zObj rfl rfl _ _ hz0 hsz rfl hone ?_))
     refine bodyPost_ret (zAg rfl _ _ w.heap.size _ _ _ _ rfl (setRow_heap _ _ _ _ _ _ hz0) Tryz.underlying68 rfl hsz) rfl ⟨rfl,zAa b0 (Nat.le_refl _) _⟩
 ·match s,h1,hs,h with
  | [],h1,_,_=>exact absurd (.inl rfl) h1
  | c::q,h1,hs,h=>
    simp only [List.length_cons,List.drop_succ_cons,List.drop_zero,reduceCtorEq,false_or] at h1 hs h
    have hex:(B (c::q)).extract 1 (q.length+1)=B q:=by
     rw [zA3]
     simp
    have i1 : ¬ (4096:Int)<((q.length:Int)+1):=by omega
    have ht:=zEj q (by omega) W0
    rcases h with h | h | ⟨t,c2,q2,h⟩
    ·omega
    ·rw [zC7 h] at ht
     have ht:=Lib.hid ht
     clear h h1
     go_enter Tryz.func52,Tryz.ntmps52
     go_wp2_with (first
      | ((with_reducible refine ht.out.mono ?_);rintro e w1 ⟨rfl,nq,rfl⟩
         have hz1:=hz0.drewN nq)
      | (refine wpList_store_row rfl 68 (.tmp 2) (.tmp 31) rfl w.heap.size zObj rfl rfl _ _ hz1 hsz rfl hone ?_))
     refine bodyPost_ret (zAg rfl _ _ w.heap.size _ _ _ _ rfl (setRow_heap _ _ _ _ _ _ hz1) Tryz.underlying68 rfl hsz) rfl ⟨rfl,zAa (bdrewN b0 nq) (Nat.le_refl _) _⟩
    ·rw [zCp h] at ht
     have ht:=Lib.hid ht
     clear h h1
     go_enter Tryz.func52,Tryz.ntmps52
     go_wp2_with (first
      | ((with_reducible refine ht.out.mono ?_);rintro e w1 ⟨rfl,nq,rfl⟩
         have hz1:=hz0.drewN nq)
      | (refine wpList_store_row rfl 68 (.tmp 2) (.tmp 31) rfl w.heap.size zObj rfl rfl _ _ hz1 hsz rfl hone ?_))
     refine bodyPost_ret (zAg rfl _ _ w.heap.size _ _ _ _ rfl (setRow_heap _ _ _ _ _ _ hz1) Tryz.underlying68 rfl hsz) rfl ⟨rfl,zAa (bdrewN b0 nq) (Nat.le_refl _) _⟩
set_option maxRecDepth 100000 in
set_option maxHeartbeats 4000000 in
theorem decode_yes (c:UInt8) (q t:Txt) (hs:q.length≤4095) (h:takeP q=some (t,[])) (w:World) :
 Calls Tryz.prog 52 #[.string (B (c::q))] w fun e w'=>DecR (decO (c::q)) w.heap.size w' e∧Below w.heap.size w w':=by
 have hzv:=zeroObj
 obtain ⟨W0,hW0⟩ : ∃ W0,w.alloc (.cells zObj 68)=W0:=⟨_,rfl⟩
 have hz0:Blk W0 w.heap.size 68 zObj:=by rw [←hW0];exact Blk.new _ _ _
 have b0:Below w.heap.size w W0:=by rw [←hW0];exact (Below.refl _ _).alloc (Nat.le_refl _) _
 have hrb:=fun W=>run_build (P:=Tryz.prog) W _ _ _ zBu
 have hone:=zCG
 have hsz:=zES
 have hex:(B (c::q)).extract 1 (q.length+1)=B q:=by
  rw [zA3]
  simp
 have i1 : ¬ (4096:Int)<((q.length:Int)+1):=by omega
 have hlt:t.length≤100000:=by
  have:=zCn h
  rw [this] at hs
  unfold textE at hs
  simp only [List.length_append] at hs
  omega
 have ht:=zEj q (by omega) W0
 rw [zCp h] at ht
 have ht:=Lib.hid ht
 have hdec:Hid (decO (c::q)=if (readO c.toNat (t,false)).2.2=true∨(readO c.toNat (t,false)).2.1≠[]∨mayB (readO c.toNat (t,false)).1=false then none else some (readO c.toNat (t,false)).1):=by
  show _=_
  unfold decO
  simp only [h]
  rw [if_neg (by simp only [List.length_cons];omega),if_neg (by simp)]
 have hk256:c.toNat<256:=c.toNat_lt
 have hc0:0≤(c.toNat:Int):=by omega
 have hc1:(c.toNat:Int)<256:=by omega
 have hrok:=readO_ok c.toNat hk256 (t,false) hlt
 have hbd:=zBv (c.toNat:Int)
 have hbr:=built_rd t
 have e72:(objC ⟨c.toNat,[],[],noId,[],0,[],noId,0,[]⟩ (.slice none 0 0) (.slice none 0 0)).toArray.size=72:=by rw [List.size_toArray];unfold objC;simp only [List.length_cons,List.length_append,u8s_len,zAi,List.length_nil]
 have eone:(objC ⟨c.toNat,[],[],noId,[],0,[],noId,0,[]⟩ (.slice none 0 0) (.slice none 0 0)).toArray.all (·.oneCell')=true:=by kernel_rfl
 obtain ⟨D,hD⟩ : ∃ D,Hid (decO (c::q)=D):=⟨_,Lib.hid rfl⟩
 rw [hD.out] at hdec ⊢
 have hread:Hid (∀ W gO gR,gO≠gR→ObjB W gO (nObj c.toNat) (.slice none 0 0) (.slice none 0 0)→RdB W gR (t,false)→Calls Tryz.prog (if c.toNat=2 then 80 else if c.toNat=3 then 81 else if c.toNat=4 then 82 else 79) #[.pointer (some ⟨gR,0,none⟩), .pointer (some ⟨gO,0,none⟩)] W fun e w'=>e = .returned (.tuple #[])∧Did W gO gR W.heap.size (readO c.toNat (t,false)) w'):=fun W gO gR hne hO hR=>by
  unfold readO
  split
  ·exact tree_calls c.toNat (t,false) hlt gO gR hne W hO hR
  ·split
   ·exact commit_calls c.toNat (t,false) hlt gO gR hne W hO hR
   ·split
    ·exact tag_calls c.toNat (t,false) hlt gO gR hne W hO hR
    ·exact blob_calls c.toNat (t,false) hlt gO gR hne W hO hR
 generalize hX:readO c.toNat (t,false)=X at *
 clear hX h
 go_enter Tryz.func52,Tryz.ntmps52
 go_upto_region 9 with (first
  | ((with_reducible refine ht.out.mono ?_);rintro e w1 ⟨rfl,nq,rfl⟩
     have hz1:=hz0.drewN nq
     have b1:=bdrewN b0 nq
     clear ht)
  | ((with_reducible refine zAU hbd ?_ ?_);rfl)
  | ((with_reducible refine zAU hbr ?_ ?_);rfl)
  | ((with_reducible refine lit_new 68 (.tmp 7) (.tmp 35) (objC ⟨c.toNat,[],[],noId,[],0,[],noId,0,[]⟩ (.slice none 0 0) (.slice none 0 0)).toArray 72 szObj e72 eone _ ?_ ?_ ?_ ?_);rfl;rfl;rfl;intro W2 hb2 hbl2
     have hz2:=hz1.below hbl2 hz1.lt
     have b2:=bthen b1 b1.size hbl2
     clear hz1 b1))
 have hO2:ObjB W2 W0.heap.size (nObj c.toNat) (.slice none 0 0) (.slice none 0 0):=⟨hb2,zAi,zAi⟩
 obtain ⟨W3,hW3⟩ : ∃ W3,W2.alloc (.cells #[.string (B t), .bool false] 146)=W3:=⟨_,rfl⟩
 have hR3:RdB W3 W2.heap.size (t,false):=by rw [←hW3];exact Blk.new _ _ _
 have hb3:Below W2.heap.size W2 W3:=by rw [←hW3];exact (Below.refl _ _).alloc (Nat.le_refl _) _
 have hO3:=hO2.below hb3
 have hz3:=hz2.below hb3 hz2.lt
 have b3:=bthen b2 b2.size hb3
 have hb2:Blk W2 W0.heap.size 68 _:=hb2
 have hne:W0.heap.size≠W2.heap.size:=by have:=hb2.lt;omega
 have hsO:w.heap.size<W0.heap.size:=by rw [←hW0];simp
 have hsR:w.heap.size<W2.heap.size:=by have:=hb2.lt;omega
 have hrd:=hread.out W3 _ _ hne hO3 hR3
 have ck:W3.cell? ⟨W0.heap.size,0,none⟩=some (.int .i64 c.toNat):=hO3.kind
 clear hO2 hb2 hz2 b2 hb3 hread hO3 hR3
 rw [hW3]
 clear hW3 hW0 hz0 b0
 generalize W2.heap.size=gR at *
 generalize W0.heap.size=gO at *
 clear ht hbd hbr e72 eone
 have hXk : ∀ W ve vp,ObjB W gO X.1 ve vp→(ldvO ⟨gO,0,none⟩).run Tryz.prog W = .ok (.agg (objC X.1 ve vp).toArray) W:=fun W ve vp h=>zAX h hrok
 have hzlt:w.heap.size<W3.heap.size:=hz3.lt
 have hgz:some w.heap.size ∉ [some gO,some gR]:=by simp;omega
 have hgB : ∀ k,some k∈[some gO,some gR]→w.heap.size≤k:=fun k hk=>by simp at hk;omega
 have hszB:w.heap.size≤W3.heap.size:=Nat.le_of_lt hzlt
 by_cases k2:c.toNat=2
 ·have e2:((c.toNat:Int)==2)=true:=by simp;omega
  rw [if_pos k2] at hrd
  have hrd:=Lib.hid hrd
  clear k2 hne
  by_cases hb1:X.2.2=true
  ·have hDn:Hid (D=none):=by show _=_;rw [hdec.out,if_pos (.inl hb1)]
   clear hdec hD
   go_wp2_with (first
    | ((with_reducible refine hrd.out.mono ?_);rintro e w4 ⟨rfl,ve,vp,hbe⟩
       have c0:=hbe.rd.c0
       have c1:=hbe.rd.c1
       obtain ⟨A1,A2,n1,n2,rfl,rfl,hv⟩:=Did.val hbe hrok
       have hq4:=hXk w4 _ _ hbe.obj
       have hz4:=hbe.far.blk hz3 hgz
       have b4:=b3.trans (hbe.far.below (B:=w.heap.size) hszB hgB)
       rw [hb1] at c1
       clear hq4 hv c0 hb1
       clear hrd hbe)
    | (refine wpList_store_row rfl 68 (.tmp 2) (.tmp 66) rfl w.heap.size zObj rfl rfl _ _ hz4 hsz rfl hone ?_))
   refine bodyPost_ret (zAg rfl _ _ w.heap.size _ _ _ _ rfl (setRow_heap _ _ _ _ _ _ hz4) Tryz.underlying68 rfl hsz) rfl ⟨by rw [hDn.out];rfl,zAa b4 (Nat.le_refl _) _⟩
  ·by_cases hb2:X.2.1=[]
   ·cases hM:mayB X.1 with
    | false=>
      have hDn:Hid (D=none):=by show _=_;rw [hdec.out,if_pos (.inr (.inr hM))]
      clear hdec hD
      have hb1:X.2.2=false:=by simpa using hb1
      go_wp2_with (first
       | ((with_reducible refine hrd.out.mono ?_);rintro e w4 ⟨rfl,ve,vp,hbe⟩
          have c0:=hbe.rd.c0
          have c1:=hbe.rd.c1
          obtain ⟨A1,A2,n1,n2,rfl,rfl,hv⟩:=Did.val hbe hrok
          have hq4:=hXk w4 _ _ hbe.obj
          have hz4:=hbe.far.blk hz3 hgz
          have b4:=b3.trans (hbe.far.below (B:=w.heap.size) hszB hgB)
          rw [hb1] at c1
          rw [hb2] at c0
          have hmay:=zBM X.1 A1 A2 n1 n2 w4 hv
          rw [hM] at hmay
          have hmay:=Lib.hid hmay
          clear hv hb1 hb2 hM
          clear hrd hbe)
       | ((with_reducible refine hmay.out.mono ?_);rintro e w5 ⟨rfl,hb5⟩
          have hz5:=hz4.below hb5 hz4.lt
          have b5:=bthen b4 b4.size hb5
          skip
          clear hmay)
       | (refine wpList_store_row rfl 68 (.tmp 2) (.tmp 66) rfl w.heap.size zObj rfl rfl _ _ hz5 hsz rfl hone ?_))
      refine bodyPost_ret (zAg rfl _ _ w.heap.size _ _ _ _ rfl (setRow_heap _ _ _ _ _ _ hz5) Tryz.underlying68 rfl hsz) rfl ⟨by rw [hDn.out];rfl,zAa b5 (Nat.le_refl _) _⟩
    | true=>
      have hDn:Hid (D=some X.1):=by
       show _=_
       rw [hdec.out,if_neg]
       rintro (h | h | h)
       ·exact hb1 h
       ·exact h hb2
       ·rw [hM] at h;cases h
      clear hdec hD
      have hb1:X.2.2=false:=by simpa using hb1
      go_wp2_with (first
       | ((with_reducible refine hrd.out.mono ?_);rintro e w4 ⟨rfl,ve,vp,hbe⟩
          have c0:=hbe.rd.c0
          have c1:=hbe.rd.c1
          obtain ⟨A1,A2,n1,n2,rfl,rfl,hv⟩:=Did.val hbe hrok
          have hq4:=hXk w4 _ _ hbe.obj
          have hz4:=hbe.far.blk hz3 hgz
          have b4:=b3.trans (hbe.far.below (B:=w.heap.size) hszB hgB)
          rw [hb1] at c1
          rw [hb2] at c0
          have hmay:=zBM X.1 A1 A2 n1 n2 w4 hv
          rw [hM] at hmay
          have hmay:=Lib.hid hmay
          have hO4:=hbe.obj
          have hoe:=hbe.ents
          have hop:=hbe.pars
          have hc72:(objC X.1 (.slice A1 X.1.ents.length n1) (.slice A2 X.1.pars.length n2)).toArray.size=72:=by rw [List.size_toArray,zAy hrok]
          have hcone:=zAv X.1 A1 A2 X.1.ents.length n1 X.1.pars.length n2
          clear hb1 hb2 hM
          clear hrd hbe)
       | ((with_reducible refine hmay.out.mono ?_);rintro e w5 ⟨rfl,hb5⟩
          have hz5:=hz4.below hb5 hz4.lt
          have b5:=bthen b4 b4.size hb5
          have hO5:=hO4.below hb5
          have hoe5:=zAd hoe hb5
          have hop5:=zAd hop hb5
          have hv5:=hv.below hb5
          have hq5:=hXk w5 _ _ hO5
          generalize hcs:(objC X.1 (.slice A1 X.1.ents.length n1) (.slice A2 X.1.pars.length n2)).toArray=cs at *
          have HCS:=Lib.hid hcs
          clear hcs hq4
          clear hmay)
       | (refine wpList_store_row rfl 68 (.tmp 2) (.tmp 67) rfl w.heap.size cs rfl rfl _ _ hz5 (by rw [hc72];exact szObj) (by rw [hc72];rfl) hcone ?_))
      refine bodyPost_ret (zAg rfl _ _ w.heap.size _ _ _ _ rfl (setRow_heap _ _ _ _ _ _ hz5) Tryz.underlying68 rfl (by rw [hc72];exact szObj)) rfl ⟨?_,zAa b5 (Nat.le_refl _) _⟩
      rw [hDn.out]
      exact ⟨A1,A2,n1,n2,by rw [HCS.out];rfl,zCE hrok hoe5 hop5 hzlt _,zAx (own_row hoe5 hzlt _) (Nat.le_of_lt hzlt),zAx (own_row hop5 hzlt _) (Nat.le_of_lt hzlt)⟩
   ·have hDn:Hid (D=none):=by show _=_;rw [hdec.out,if_pos (.inr (.inl hb2))]
    clear hdec hD
    have hb1:X.2.2=false:=by simpa using hb1
    obtain ⟨x,xs,hx⟩ : ∃ x xs,X.2.1=x::xs:=by
     cases hq:X.2.1 with
     | nil=>exact absurd hq hb2
     | cons x xs=>exact ⟨x,xs,rfl⟩
    clear hb2
    go_wp2_with (first
     | ((with_reducible refine hrd.out.mono ?_);rintro e w4 ⟨rfl,ve,vp,hbe⟩
        have c0:=hbe.rd.c0
        have c1:=hbe.rd.c1
        obtain ⟨A1,A2,n1,n2,rfl,rfl,hv⟩:=Did.val hbe hrok
        have hq4:=hXk w4 _ _ hbe.obj
        have hz4:=hbe.far.blk hz3 hgz
        have b4:=b3.trans (hbe.far.below (B:=w.heap.size) hszB hgB)
        rw [hb1] at c1
        rw [hx] at c0
        clear hq4 hv hb1 hx
        clear hrd hbe)
     | (refine wpList_store_row rfl 68 (.tmp 2) (.tmp 66) rfl w.heap.size zObj rfl rfl _ _ hz4 hsz rfl hone ?_))
    refine bodyPost_ret (zAg rfl _ _ w.heap.size _ _ _ _ rfl (setRow_heap _ _ _ _ _ _ hz4) Tryz.underlying68 rfl hsz) rfl ⟨by rw [hDn.out];rfl,zAa b4 (Nat.le_refl _) _⟩
 ·have e2:((c.toNat:Int)==2)=false:=by simp;omega
  rw [if_neg k2] at hrd
  by_cases k3:c.toNat=3
  ·have e3:((c.toNat:Int)==3)=true:=by simp;omega
   rw [if_pos k3] at hrd
   have hrd:=Lib.hid hrd
   clear k2 k3 hne
   by_cases hb1:X.2.2=true
   ·have hDn:Hid (D=none):=by show _=_;rw [hdec.out,if_pos (.inl hb1)]
    clear hdec hD
    go_wp2_with (first
     | ((with_reducible refine hrd.out.mono ?_);rintro e w4 ⟨rfl,ve,vp,hbe⟩
        have c0:=hbe.rd.c0
        have c1:=hbe.rd.c1
        obtain ⟨A1,A2,n1,n2,rfl,rfl,hv⟩:=Did.val hbe hrok
        have hq4:=hXk w4 _ _ hbe.obj
        have hz4:=hbe.far.blk hz3 hgz
        have b4:=b3.trans (hbe.far.below (B:=w.heap.size) hszB hgB)
        rw [hb1] at c1
        clear hq4 hv c0 hb1
        clear hrd hbe)
     | (refine wpList_store_row rfl 68 (.tmp 2) (.tmp 66) rfl w.heap.size zObj rfl rfl _ _ hz4 hsz rfl hone ?_))
    refine bodyPost_ret (zAg rfl _ _ w.heap.size _ _ _ _ rfl (setRow_heap _ _ _ _ _ _ hz4) Tryz.underlying68 rfl hsz) rfl ⟨by rw [hDn.out];rfl,zAa b4 (Nat.le_refl _) _⟩
   ·by_cases hb2:X.2.1=[]
    ·cases hM:mayB X.1 with
     | false=>
       have hDn:Hid (D=none):=by show _=_;rw [hdec.out,if_pos (.inr (.inr hM))]
       clear hdec hD
       have hb1:X.2.2=false:=by simpa using hb1
       go_wp2_with (first
        | ((with_reducible refine hrd.out.mono ?_);rintro e w4 ⟨rfl,ve,vp,hbe⟩
           have c0:=hbe.rd.c0
           have c1:=hbe.rd.c1
           obtain ⟨A1,A2,n1,n2,rfl,rfl,hv⟩:=Did.val hbe hrok
           have hq4:=hXk w4 _ _ hbe.obj
           have hz4:=hbe.far.blk hz3 hgz
           have b4:=b3.trans (hbe.far.below (B:=w.heap.size) hszB hgB)
           rw [hb1] at c1
           rw [hb2] at c0
           have hmay:=zBM X.1 A1 A2 n1 n2 w4 hv
           rw [hM] at hmay
           have hmay:=Lib.hid hmay
           clear hv hb1 hb2 hM
           clear hrd hbe)
        | ((with_reducible refine hmay.out.mono ?_);rintro e w5 ⟨rfl,hb5⟩
           have hz5:=hz4.below hb5 hz4.lt
           have b5:=bthen b4 b4.size hb5
           skip
           clear hmay)
        | (refine wpList_store_row rfl 68 (.tmp 2) (.tmp 66) rfl w.heap.size zObj rfl rfl _ _ hz5 hsz rfl hone ?_))
       refine bodyPost_ret (zAg rfl _ _ w.heap.size _ _ _ _ rfl (setRow_heap _ _ _ _ _ _ hz5) Tryz.underlying68 rfl hsz) rfl ⟨by rw [hDn.out];rfl,zAa b5 (Nat.le_refl _) _⟩
     | true=>
       have hDn:Hid (D=some X.1):=by
        show _=_
        rw [hdec.out,if_neg]
        rintro (h | h | h)
        ·exact hb1 h
        ·exact h hb2
        ·rw [hM] at h;cases h
       clear hdec hD
       have hb1:X.2.2=false:=by simpa using hb1
       go_wp2_with (first
        | ((with_reducible refine hrd.out.mono ?_);rintro e w4 ⟨rfl,ve,vp,hbe⟩
           have c0:=hbe.rd.c0
           have c1:=hbe.rd.c1
           obtain ⟨A1,A2,n1,n2,rfl,rfl,hv⟩:=Did.val hbe hrok
           have hq4:=hXk w4 _ _ hbe.obj
           have hz4:=hbe.far.blk hz3 hgz
           have b4:=b3.trans (hbe.far.below (B:=w.heap.size) hszB hgB)
           rw [hb1] at c1
           rw [hb2] at c0
           have hmay:=zBM X.1 A1 A2 n1 n2 w4 hv
           rw [hM] at hmay
           have hmay:=Lib.hid hmay
           have hO4:=hbe.obj
           have hoe:=hbe.ents
           have hop:=hbe.pars
           have hc72:(objC X.1 (.slice A1 X.1.ents.length n1) (.slice A2 X.1.pars.length n2)).toArray.size=72:=by rw [List.size_toArray,zAy hrok]
           have hcone:=zAv X.1 A1 A2 X.1.ents.length n1 X.1.pars.length n2
           clear hb1 hb2 hM
           clear hrd hbe)
        | ((with_reducible refine hmay.out.mono ?_);rintro e w5 ⟨rfl,hb5⟩
           have hz5:=hz4.below hb5 hz4.lt
           have b5:=bthen b4 b4.size hb5
           have hO5:=hO4.below hb5
           have hoe5:=zAd hoe hb5
           have hop5:=zAd hop hb5
           have hv5:=hv.below hb5
           have hq5:=hXk w5 _ _ hO5
           generalize hcs:(objC X.1 (.slice A1 X.1.ents.length n1) (.slice A2 X.1.pars.length n2)).toArray=cs at *
           have HCS:=Lib.hid hcs
           clear hcs hq4
           clear hmay)
        | (refine wpList_store_row rfl 68 (.tmp 2) (.tmp 67) rfl w.heap.size cs rfl rfl _ _ hz5 (by rw [hc72];exact szObj) (by rw [hc72];rfl) hcone ?_))
       refine bodyPost_ret (zAg rfl _ _ w.heap.size _ _ _ _ rfl (setRow_heap _ _ _ _ _ _ hz5) Tryz.underlying68 rfl (by rw [hc72];exact szObj)) rfl ⟨?_,zAa b5 (Nat.le_refl _) _⟩
       rw [hDn.out]
       exact ⟨A1,A2,n1,n2,by rw [HCS.out];rfl,zCE hrok hoe5 hop5 hzlt _,zAx (own_row hoe5 hzlt _) (Nat.le_of_lt hzlt),zAx (own_row hop5 hzlt _) (Nat.le_of_lt hzlt)⟩
    ·have hDn:Hid (D=none):=by show _=_;rw [hdec.out,if_pos (.inr (.inl hb2))]
     clear hdec hD
     have hb1:X.2.2=false:=by simpa using hb1
     obtain ⟨x,xs,hx⟩ : ∃ x xs,X.2.1=x::xs:=by
      cases hq:X.2.1 with
      | nil=>exact absurd hq hb2
      | cons x xs=>exact ⟨x,xs,rfl⟩
     clear hb2
     go_wp2_with (first
      | ((with_reducible refine hrd.out.mono ?_);rintro e w4 ⟨rfl,ve,vp,hbe⟩
         have c0:=hbe.rd.c0
         have c1:=hbe.rd.c1
         obtain ⟨A1,A2,n1,n2,rfl,rfl,hv⟩:=Did.val hbe hrok
         have hq4:=hXk w4 _ _ hbe.obj
         have hz4:=hbe.far.blk hz3 hgz
         have b4:=b3.trans (hbe.far.below (B:=w.heap.size) hszB hgB)
         rw [hb1] at c1
         rw [hx] at c0
         clear hq4 hv hb1 hx
         clear hrd hbe)
      | (refine wpList_store_row rfl 68 (.tmp 2) (.tmp 66) rfl w.heap.size zObj rfl rfl _ _ hz4 hsz rfl hone ?_))
     refine bodyPost_ret (zAg rfl _ _ w.heap.size _ _ _ _ rfl (setRow_heap _ _ _ _ _ _ hz4) Tryz.underlying68 rfl hsz) rfl ⟨by rw [hDn.out];rfl,zAa b4 (Nat.le_refl _) _⟩
  ·have e3:((c.toNat:Int)==3)=false:=by simp;omega
   rw [if_neg k3] at hrd
   by_cases k4:c.toNat=4
   ·have e4:((c.toNat:Int)==4)=true:=by simp;omega
    rw [if_pos k4] at hrd
    have hrd:=Lib.hid hrd
    clear k2 k3 k4 hne
    by_cases hb1:X.2.2=true
    ·have hDn:Hid (D=none):=by show _=_;rw [hdec.out,if_pos (.inl hb1)]
     clear hdec hD
     go_wp2_with (first
      | ((with_reducible refine hrd.out.mono ?_);rintro e w4 ⟨rfl,ve,vp,hbe⟩
         have c0:=hbe.rd.c0
         have c1:=hbe.rd.c1
         obtain ⟨A1,A2,n1,n2,rfl,rfl,hv⟩:=Did.val hbe hrok
         have hq4:=hXk w4 _ _ hbe.obj
         have hz4:=hbe.far.blk hz3 hgz
         have b4:=b3.trans (hbe.far.below (B:=w.heap.size) hszB hgB)
         rw [hb1] at c1
         clear hq4 hv c0 hb1
         clear hrd hbe)
      | (refine wpList_store_row rfl 68 (.tmp 2) (.tmp 66) rfl w.heap.size zObj rfl rfl _ _ hz4 hsz rfl hone ?_))
     refine bodyPost_ret (zAg rfl _ _ w.heap.size _ _ _ _ rfl (setRow_heap _ _ _ _ _ _ hz4) Tryz.underlying68 rfl hsz) rfl ⟨by rw [hDn.out];rfl,zAa b4 (Nat.le_refl _) _⟩
    ·by_cases hb2:X.2.1=[]
     ·cases hM:mayB X.1 with
      | false=>
        have hDn:Hid (D=none):=by show _=_;rw [hdec.out,if_pos (.inr (.inr hM))]
        clear hdec hD
        have hb1:X.2.2=false:=by simpa using hb1
        go_wp2_with (first
         | ((with_reducible refine hrd.out.mono ?_);rintro e w4 ⟨rfl,ve,vp,hbe⟩
            have c0:=hbe.rd.c0
            have c1:=hbe.rd.c1
            obtain ⟨A1,A2,n1,n2,rfl,rfl,hv⟩:=Did.val hbe hrok
            have hq4:=hXk w4 _ _ hbe.obj
            have hz4:=hbe.far.blk hz3 hgz
            have b4:=b3.trans (hbe.far.below (B:=w.heap.size) hszB hgB)
            rw [hb1] at c1
            rw [hb2] at c0
            have hmay:=zBM X.1 A1 A2 n1 n2 w4 hv
            rw [hM] at hmay
            have hmay:=Lib.hid hmay
            clear hv hb1 hb2 hM
            clear hrd hbe)
         | ((with_reducible refine hmay.out.mono ?_);rintro e w5 ⟨rfl,hb5⟩
            have hz5:=hz4.below hb5 hz4.lt
            have b5:=bthen b4 b4.size hb5
            skip
            clear hmay)
         | (refine wpList_store_row rfl 68 (.tmp 2) (.tmp 66) rfl w.heap.size zObj rfl rfl _ _ hz5 hsz rfl hone ?_))
        refine bodyPost_ret (zAg rfl _ _ w.heap.size _ _ _ _ rfl (setRow_heap _ _ _ _ _ _ hz5) Tryz.underlying68 rfl hsz) rfl ⟨by rw [hDn.out];rfl,zAa b5 (Nat.le_refl _) _⟩
      | true=>
        have hDn:Hid (D=some X.1):=by
         show _=_
         rw [hdec.out,if_neg]
         rintro (h | h | h)
         ·exact hb1 h
         ·exact h hb2
         ·rw [hM] at h;cases h
        clear hdec hD
        have hb1:X.2.2=false:=by simpa using hb1
        go_wp2_with (first
         | ((with_reducible refine hrd.out.mono ?_);rintro e w4 ⟨rfl,ve,vp,hbe⟩
            have c0:=hbe.rd.c0
            have c1:=hbe.rd.c1
            obtain ⟨A1,A2,n1,n2,rfl,rfl,hv⟩:=Did.val hbe hrok
            have hq4:=hXk w4 _ _ hbe.obj
            have hz4:=hbe.far.blk hz3 hgz
            have b4:=b3.trans (hbe.far.below (B:=w.heap.size) hszB hgB)
            rw [hb1] at c1
            rw [hb2] at c0
            have hmay:=zBM X.1 A1 A2 n1 n2 w4 hv
            rw [hM] at hmay
            have hmay:=Lib.hid hmay
            have hO4:=hbe.obj
            have hoe:=hbe.ents
            have hop:=hbe.pars
            have hc72:(objC X.1 (.slice A1 X.1.ents.length n1) (.slice A2 X.1.pars.length n2)).toArray.size=72:=by rw [List.size_toArray,zAy hrok]
            have hcone:=zAv X.1 A1 A2 X.1.ents.length n1 X.1.pars.length n2
            clear hb1 hb2 hM
            clear hrd hbe)
         | ((with_reducible refine hmay.out.mono ?_);rintro e w5 ⟨rfl,hb5⟩
            have hz5:=hz4.below hb5 hz4.lt
            have b5:=bthen b4 b4.size hb5
            have hO5:=hO4.below hb5
            have hoe5:=zAd hoe hb5
            have hop5:=zAd hop hb5
            have hv5:=hv.below hb5
            have hq5:=hXk w5 _ _ hO5
            generalize hcs:(objC X.1 (.slice A1 X.1.ents.length n1) (.slice A2 X.1.pars.length n2)).toArray=cs at *
            have HCS:=Lib.hid hcs
            clear hcs hq4
            clear hmay)
         | (refine wpList_store_row rfl 68 (.tmp 2) (.tmp 67) rfl w.heap.size cs rfl rfl _ _ hz5 (by rw [hc72];exact szObj) (by rw [hc72];rfl) hcone ?_))
        refine bodyPost_ret (zAg rfl _ _ w.heap.size _ _ _ _ rfl (setRow_heap _ _ _ _ _ _ hz5) Tryz.underlying68 rfl (by rw [hc72];exact szObj)) rfl ⟨?_,zAa b5 (Nat.le_refl _) _⟩
        rw [hDn.out]
        exact ⟨A1,A2,n1,n2,by rw [HCS.out];rfl,zCE hrok hoe5 hop5 hzlt _,zAx (own_row hoe5 hzlt _) (Nat.le_of_lt hzlt),zAx (own_row hop5 hzlt _) (Nat.le_of_lt hzlt)⟩
     ·have hDn:Hid (D=none):=by show _=_;rw [hdec.out,if_pos (.inr (.inl hb2))]
      clear hdec hD
      have hb1:X.2.2=false:=by simpa using hb1
      obtain ⟨x,xs,hx⟩ : ∃ x xs,X.2.1=x::xs:=by
       cases hq:X.2.1 with
       | nil=>exact absurd hq hb2
       | cons x xs=>exact ⟨x,xs,rfl⟩
      clear hb2
      go_wp2_with (first
       | ((with_reducible refine hrd.out.mono ?_);rintro e w4 ⟨rfl,ve,vp,hbe⟩
          have c0:=hbe.rd.c0
          have c1:=hbe.rd.c1
          obtain ⟨A1,A2,n1,n2,rfl,rfl,hv⟩:=Did.val hbe hrok
          have hq4:=hXk w4 _ _ hbe.obj
          have hz4:=hbe.far.blk hz3 hgz
          have b4:=b3.trans (hbe.far.below (B:=w.heap.size) hszB hgB)
          rw [hb1] at c1
          rw [hx] at c0
          clear hq4 hv hb1 hx
          clear hrd hbe)
       | (refine wpList_store_row rfl 68 (.tmp 2) (.tmp 66) rfl w.heap.size zObj rfl rfl _ _ hz4 hsz rfl hone ?_))
      refine bodyPost_ret (zAg rfl _ _ w.heap.size _ _ _ _ rfl (setRow_heap _ _ _ _ _ _ hz4) Tryz.underlying68 rfl hsz) rfl ⟨by rw [hDn.out];rfl,zAa b4 (Nat.le_refl _) _⟩
   ·have e4:((c.toNat:Int)==4)=false:=by simp;omega
    rw [if_neg k4] at hrd
    have hrd:=Lib.hid hrd
    clear k2 k3 k4 hne
    by_cases hb1:X.2.2=true
    ·have hDn:Hid (D=none):=by show _=_;rw [hdec.out,if_pos (.inl hb1)]
     clear hdec hD
     go_wp2_with (first
      | ((with_reducible refine hrd.out.mono ?_);rintro e w4 ⟨rfl,ve,vp,hbe⟩
         have c0:=hbe.rd.c0
         have c1:=hbe.rd.c1
         obtain ⟨A1,A2,n1,n2,rfl,rfl,hv⟩:=Did.val hbe hrok
         have hq4:=hXk w4 _ _ hbe.obj
         have hz4:=hbe.far.blk hz3 hgz
         have b4:=b3.trans (hbe.far.below (B:=w.heap.size) hszB hgB)
         rw [hb1] at c1
         clear hq4 hv c0 hb1
         clear hrd hbe)
      | (refine wpList_store_row rfl 68 (.tmp 2) (.tmp 66) rfl w.heap.size zObj rfl rfl _ _ hz4 hsz rfl hone ?_))
     refine bodyPost_ret (zAg rfl _ _ w.heap.size _ _ _ _ rfl (setRow_heap _ _ _ _ _ _ hz4) Tryz.underlying68 rfl hsz) rfl ⟨by rw [hDn.out];rfl,zAa b4 (Nat.le_refl _) _⟩
    ·by_cases hb2:X.2.1=[]
     ·cases hM:mayB X.1 with
      | false=>
        have hDn:Hid (D=none):=by show _=_;rw [hdec.out,if_pos (.inr (.inr hM))]
        clear hdec hD
        have hb1:X.2.2=false:=by simpa using hb1
        go_wp2_with (first
         | ((with_reducible refine hrd.out.mono ?_);rintro e w4 ⟨rfl,ve,vp,hbe⟩
            have c0:=hbe.rd.c0
            have c1:=hbe.rd.c1
            obtain ⟨A1,A2,n1,n2,rfl,rfl,hv⟩:=Did.val hbe hrok
            have hq4:=hXk w4 _ _ hbe.obj
            have hz4:=hbe.far.blk hz3 hgz
            have b4:=b3.trans (hbe.far.below (B:=w.heap.size) hszB hgB)
            rw [hb1] at c1
            rw [hb2] at c0
            have hmay:=zBM X.1 A1 A2 n1 n2 w4 hv
            rw [hM] at hmay
            have hmay:=Lib.hid hmay
            clear hv hb1 hb2 hM
            clear hrd hbe)
         | ((with_reducible refine hmay.out.mono ?_);rintro e w5 ⟨rfl,hb5⟩
            have hz5:=hz4.below hb5 hz4.lt
            have b5:=bthen b4 b4.size hb5
            skip
            clear hmay)
         | (refine wpList_store_row rfl 68 (.tmp 2) (.tmp 66) rfl w.heap.size zObj rfl rfl _ _ hz5 hsz rfl hone ?_))
        refine bodyPost_ret (zAg rfl _ _ w.heap.size _ _ _ _ rfl (setRow_heap _ _ _ _ _ _ hz5) Tryz.underlying68 rfl hsz) rfl ⟨by rw [hDn.out];rfl,zAa b5 (Nat.le_refl _) _⟩
      | true=>
        have hDn:Hid (D=some X.1):=by
         show _=_
         rw [hdec.out,if_neg]
         rintro (h | h | h)
         ·exact hb1 h
         ·exact h hb2
         ·rw [hM] at h;cases h
        clear hdec hD
        have hb1:X.2.2=false:=by simpa using hb1
        go_wp2_with (first
         | ((with_reducible refine hrd.out.mono ?_);rintro e w4 ⟨rfl,ve,vp,hbe⟩
            have c0:=hbe.rd.c0
            have c1:=hbe.rd.c1
            obtain ⟨A1,A2,n1,n2,rfl,rfl,hv⟩:=Did.val hbe hrok
            have hq4:=hXk w4 _ _ hbe.obj
            have hz4:=hbe.far.blk hz3 hgz
            have b4:=b3.trans (hbe.far.below (B:=w.heap.size) hszB hgB)
            rw [hb1] at c1
            rw [hb2] at c0
            have hmay:=zBM X.1 A1 A2 n1 n2 w4 hv
            rw [hM] at hmay
            have hmay:=Lib.hid hmay
            have hO4:=hbe.obj
            have hoe:=hbe.ents
            have hop:=hbe.pars
            have hc72:(objC X.1 (.slice A1 X.1.ents.length n1) (.slice A2 X.1.pars.length n2)).toArray.size=72:=by rw [List.size_toArray,zAy hrok]
            have hcone:=zAv X.1 A1 A2 X.1.ents.length n1 X.1.pars.length n2
            clear hb1 hb2 hM
            clear hrd hbe)
         | ((with_reducible refine hmay.out.mono ?_);rintro e w5 ⟨rfl,hb5⟩
            have hz5:=hz4.below hb5 hz4.lt
            have b5:=bthen b4 b4.size hb5
            have hO5:=hO4.below hb5
            have hoe5:=zAd hoe hb5
            have hop5:=zAd hop hb5
            have hv5:=hv.below hb5
            have hq5:=hXk w5 _ _ hO5
            generalize hcs:(objC X.1 (.slice A1 X.1.ents.length n1) (.slice A2 X.1.pars.length n2)).toArray=cs at *
            have HCS:=Lib.hid hcs
            clear hcs hq4
            clear hmay)
         | (refine wpList_store_row rfl 68 (.tmp 2) (.tmp 67) rfl w.heap.size cs rfl rfl _ _ hz5 (by rw [hc72];exact szObj) (by rw [hc72];rfl) hcone ?_))
        refine bodyPost_ret (zAg rfl _ _ w.heap.size _ _ _ _ rfl (setRow_heap _ _ _ _ _ _ hz5) Tryz.underlying68 rfl (by rw [hc72];exact szObj)) rfl ⟨?_,zAa b5 (Nat.le_refl _) _⟩
        rw [hDn.out]
        exact ⟨A1,A2,n1,n2,by rw [HCS.out];rfl,zCE hrok hoe5 hop5 hzlt _,zAx (own_row hoe5 hzlt _) (Nat.le_of_lt hzlt),zAx (own_row hop5 hzlt _) (Nat.le_of_lt hzlt)⟩
     ·have hDn:Hid (D=none):=by show _=_;rw [hdec.out,if_pos (.inr (.inl hb2))]
      clear hdec hD
      have hb1:X.2.2=false:=by simpa using hb1
      obtain ⟨x,xs,hx⟩ : ∃ x xs,X.2.1=x::xs:=by
       cases hq:X.2.1 with
       | nil=>exact absurd hq hb2
       | cons x xs=>exact ⟨x,xs,rfl⟩
      clear hb2
      go_wp2_with (first
       | ((with_reducible refine hrd.out.mono ?_);rintro e w4 ⟨rfl,ve,vp,hbe⟩
          have c0:=hbe.rd.c0
          have c1:=hbe.rd.c1
          obtain ⟨A1,A2,n1,n2,rfl,rfl,hv⟩:=Did.val hbe hrok
          have hq4:=hXk w4 _ _ hbe.obj
          have hz4:=hbe.far.blk hz3 hgz
          have b4:=b3.trans (hbe.far.below (B:=w.heap.size) hszB hgB)
          rw [hb1] at c1
          rw [hx] at c0
          clear hq4 hv hb1 hx
          clear hrd hbe)
       | (refine wpList_store_row rfl 68 (.tmp 2) (.tmp 66) rfl w.heap.size zObj rfl rfl _ _ hz4 hsz rfl hone ?_))
      refine bodyPost_ret (zAg rfl _ _ w.heap.size _ _ _ _ rfl (setRow_heap _ _ _ _ _ _ hz4) Tryz.underlying68 rfl hsz) rfl ⟨by rw [hDn.out];rfl,zAa b4 (Nat.le_refl _) _⟩
end
theorem zED (s:Txt) (hs:s.length≤4611686018427387904) (w:World):Calls Tryz.prog 52 #[.string (B s)] w fun e w'=>DecR (decO s) w.heap.size w' e∧Below w.heap.size w w':=by
 have hno:decO s=none→(s=[]∨4096<s.length∨takeP (s.drop 1)=none ∨ ∃ t c q,takeP (s.drop 1)=some (t,c::q))→Calls Tryz.prog 52 #[.string (B s)] w fun e w'=>DecR (decO s) w.heap.size w' e∧Below w.heap.size w w':=fun h1 h2=>by
  rw [h1]
  exact decode_no s hs h2 w
 match s,hs,hno with
 | [],hs,hno=>exact hno rfl (.inl rfl)
 | c::q,hs,hno=>
   by_cases h1:4096<(c::q).length
   ·exact hno (by unfold decO;simp only;rw [if_pos h1]) (.inr (.inl h1))
   ·cases ht:takeP q with
    | none=>exact hno (by unfold decO;simp only [ht];rw [if_neg h1]) (.inr (.inr (.inl ht)))
    | some p=>
      obtain ⟨t,b⟩:=p
      cases b with
      | nil=>exact decode_yes c q t (by simp only [List.length_cons] at h1;omega) ht w
      | cons x b=>exact hno (by unfold decO;simp only [ht];rw [if_neg h1,if_pos (by simp)]) (.inr (.inr (.inr ⟨t,x,b,ht⟩)))
theorem small_enc {o:ObjL} {t:Txt} (h:encO o=some t):Small o:=by
 have h1:o.data.length≤4096:=Nat.le_of_not_lt fun hc=>by rw [enc_data hc] at h;cases h
 have h2:o.text.length≤4096:=Nat.le_of_not_lt fun hc=>by rw [enc_text hc] at h;cases h
 have hm:mayB o=true:=by
  unfold encO at h
  split at h
  ·rename_i hc;exact hc.1
  ·cases h
 have ha:=zCZ hm
 unfold aloneB at ha
 have z:([]:Txt).length≤100:=by simp
 rcases zCB hm with hk | hk | hk | hk
 ·rw [hk] at ha
  simp at ha
  obtain ⟨c1,c2,c3,c4⟩:=zBi ha.1.2
  obtain ⟨t1,t2,t3⟩:=tag_all ha.2
  have e1:=zBm ha.1.1
  exact ⟨by rw [e1];simp,by rw [e1];simp,by rw [c2];simp,by omega,by omega,by rw [t3];simp⟩
 ·rw [hk] at ha
  simp at ha
  obtain ⟨c1,c2,c3,c4⟩:=zBi ha.1.2
  obtain ⟨t1,t2,t3⟩:=tag_all ha.2
  have hf:entsB o.ents=true:=by
   unfold mayB at hm
   rw [if_pos hk] at hm
   simp at hm
   exact hm.2
  have hfine:=zDT hf
  exact ⟨by omega,fun e he=>by have:=zC6 (hfine.2 e he).1;omega,by rw [c2];simp,by omega,by omega,by rw [t3];simp⟩
 ·have hp8:o.pars.length≤8:=by
   unfold mayB at hm
   rw [if_neg (by omega),if_pos hk] at hm
   simp at hm
   exact hm.2
  rw [hk] at ha
  simp at ha
  obtain ⟨t1,t2,t3⟩:=tag_all ha.2
  have e2:=zBm ha.1.2
  exact ⟨by rw [e2];simp,by rw [e2];simp,by omega,by omega,by omega,by rw [t3];simp⟩
 ·have hfn:nameB o.name=true:=by
   unfold mayB at hm
   rw [if_neg (by omega),if_neg (by omega),if_pos hk] at hm
   simp at hm
   exact hm.2
  rw [hk] at ha
  simp at ha
  obtain ⟨c1,c2,c3,c4⟩:=zBi ha.2
  have e2:=zBm ha.1.2
  have:=zC6 hfn
  exact ⟨by rw [e2];simp,by rw [e2];simp,by rw [c2];simp,by omega,by omega,by omega⟩
theorem zero_small : Small zeroO:=⟨by decide,by simp [zeroO],by decide,by decide,by decide,by decide⟩
theorem zero_ok (w:World):ObjV w (.slice none 0 0) (.slice none 0 0) zeroO:=⟨⟨zAi,zAi,by simp [zeroO],by simp [zeroO],by decide,by decide,by decide,by decide,by decide,by decide,by decide,by decide⟩,SliceAt.nil,SliceAt.nil⟩
def idP (s:Txt) (k:Nat):Txt:=s.take k++List.replicate (32-k) 0
theorem idP_len {s:Txt} {k:Nat} (h1:k≤32) (h2:k≤s.length):(idP s k).length=32:=by unfold idP;simp;omega
theorem idP_set {s:Txt} {k:Nat} (h1:k<32) (h2:k<s.length):(idP s k).set k s[k]=idP s (k+1):=by
 unfold idP
 have hk:(s.take k).length=k:=by rw [List.length_take];omega
 have e:s.take (k+1)=s.take k++[s[k]]:=by rw [List.take_add_one,List.getElem?_eq_getElem h2];rfl
 rw [List.set_append_right _ _ (by omega),hk,Nat.sub_self,e,List.append_assoc,show 32-k=(32-(k+1))+1 from by omega,List.replicate_succ]
 rfl
theorem idP_end {s:Txt} {k:Nat} (h:k=32∨k=s.length) (h1:k≤32) (h2:k≤s.length):idP s k=idG s:=by
 unfold idP idG
 rcases h with rfl | rfl
 ·rw [show 32-s.length=0 from by omega]
 ·rw [List.take_of_length_le (Nat.le_refl _),List.take_of_length_le h1]
theorem idP_zero (s:Txt):idP s 0=noId:=by unfold idP noId;simp
theorem zBP : Tryz.prog.built 53 []=some (u8s noId):=by kernel_rfl
theorem zeroIdV (W:World):(zeroValue 53).run Tryz.prog W = .ok (.agg (u8s noId)) W:=by
 have h:(Tryz.prog.info? 53).map (·.zero)=some (some (.agg (u8s noId))):=by kernel_rfl
 obtain ⟨i,h1,h2⟩:=Option.map_eq_some_iff.1 h
 simp [zeroValue,typeInfo,h1,h2]
set_option maxRecDepth 100000 in
set_option maxHeartbeats 2000000 in
theorem zD5 (s:Txt) (hs:s.length≤4611686018427387904) (w:World):Calls Tryz.prog 139 #[.string (B s)] w fun e w'=>e = .returned (.agg (u8s (idG s)))∧Below w.heap.size w w':=by
 have hzv:=zeroIdV
 have hrb:=fun W=>run_build (P:=Tryz.prog) W _ _ _ zBP
 have hZ0:=Lib.hid (idP_zero s)
 have hzl:(u8s noId).size=32:=by rw [zAh,zAi]
 have hone:=u8s_one noId
 have hZ1:u8s (idP s 0)=u8s noId:=by rw [idP_zero]
 generalize u8s noId=Z at *
 obtain ⟨W1,hW1⟩ : ∃ W1,w.alloc (.cells Z 53)=W1:=⟨_,rfl⟩
 have hx1:Blk W1 w.heap.size 53 Z:=by rw [←hW1];exact Blk.new _ _ _
 have b1:Below w.heap.size w W1:=by rw [←hW1];exact (Below.refl _ _).alloc (Nat.le_refl _) _
 have hs1:w.heap.size<W1.heap.size:=by rw [←hW1];simp
 have hHz:=Lib.hid hZ1
 clear hZ1
 go_enter Tryz.func139,Tryz.ntmps139
 go_wp2_with (first
  | ((with_reducible refine lit_new 53 (.tmp 3) (.tmp 5) Z 32 sz32 hzl hone _ ?_ ?_ ?_ ?_)
     ·exact hzl
     ·rfl
     ·rfl
     intro W2 hb2 hbl2
     have hx2:=hx1.below hbl2 hx1.lt
     have b2:=bthen b1 (Nat.le_of_lt hs1) hbl2
     clear hx1 b1))
 have hb2:Blk W2 W1.heap.size 53 (u8s (idP s 0)):=by rw [hHz.out];exact hb2
 clear hW1 hrb hzv
 generalize W1.heap.size=g at *
 go_loopw [4] (fun vi wr => ∃ k:Nat,vi = .int .i64 k∧k≤32∧k≤s.length∧Blk wr g 53 (u8s (idP s k))∧Blk wr w.heap.size 53 Z∧Below w.heap.size w wr) (fun vi _=>32-(intOf vi).toNat)
 case atStart=>exact ⟨0,rfl,by omega,by omega,hb2,hx2,b2⟩
 case round=>
  obtain ⟨k,rfl,hk1,hk2,hbk,hxk,hbel⟩:=hrel
  have hl32:=idP_len hk1 hk2
  by_cases hgo:k<32∧k<s.length
  ·obtain ⟨i1,i2⟩:=hgo
   have j1:(k:Int)<32:=by omega
   have j2:(k:Int)<(s.length:Int):=by omega
   obtain ⟨c,hc⟩ : ∃ c,s[k]=c:=⟨_,rfl⟩
   have c1:wr.cell? ⟨g,k,none⟩=some (.int .u8 (((idP s k).getD k 0).toNat:Nat)):=by rw [hbk.cell,u8s_get _ _ (by omega)]
   have f1:=hbk.frozen k
   have hb':=hbk.set_ k (.int .u8 (c.toNat:Nat))
   have he:Hid ((u8s (idP s k)).setIfInBounds k (.int .u8 (c.toNat:Nat))=u8s (idP s (k+1))):=by
    show _=_
    rw [u8s_set _ _ _ c.toNat_lt,←idP_set i1 i2,hc]
    congr 2
    simp
   rw [he.out] at hb'
   have hx':=hxk.far (p:=⟨g,k,none⟩) (by simp;omega) (.int .u8 (c.toNat:Nat))
   have hbel':=hbel.setCell (p:=⟨g,k,none⟩) (Nat.le_of_lt hs1) (.int .u8 (c.toNat:Nat))
   clear hbk hxk hbel he
   go_wp2_with (fail)
   all_goals try (exfalso;omega)
   go_roundw
   case rel=>exact ⟨k+1,by go_num,by omega,by omega,hb',hx',hbel'⟩
   case measure=>simp [intOf];omega
  ·have hend:Hid (idP s k=idG s):=idP_end (by omega) hk1 hk2
   rw [hend.out] at hbk
   have hsz:(Tryz.prog.info? 53).map (·.size)=some (u8s (idG s)).size:=by rw [zAh,idG_len];exact sz32
   have hone2:=u8s_one (idG s)
   have h32:(u8s (idG s)).size=32:=by rw [zAh,idG_len]
   obtain ⟨D,hD⟩ : ∃ D,Hid (u8s (idG s)=D):=⟨_,Lib.hid rfl⟩
   rw [hD.out] at hbk hsz hone2 h32
   by_cases i1:k<32
   ·have j1:(k:Int)<32:=by omega
    have j2 : ¬ (k:Int)<(s.length:Int):=by omega
    go_wp2_with (first
     | (refine wpList_load_row rfl 53 (.tmp 3) rfl g rfl _ _ _ _ hbk Tryz.underlying53 rfl hsz ?_)
     | (refine wpList_store_row rfl 53 (.tmp 2) (.tmp 21) rfl w.heap.size D rfl rfl _ _ hxk hsz (by rw [hzl,h32]) hone2 ?_))
    all_goals try (exfalso;omega)
    exact bodyPost_ret (results_cell_row rfl _ _ w.heap.size _ _ _ _ rfl (setRow_heap _ _ _ _ _ _ hxk) Tryz.underlying53 rfl hsz) rfl ⟨by rw [hD.out],zAa hbel (Nat.le_refl _) _⟩
   ·have j1 : ¬ (k:Int)<32:=by omega
    go_wp2_with (first
     | (refine wpList_load_row rfl 53 (.tmp 3) rfl g rfl _ _ _ _ hbk Tryz.underlying53 rfl hsz ?_)
     | (refine wpList_store_row rfl 53 (.tmp 2) (.tmp 21) rfl w.heap.size D rfl rfl _ _ hxk hsz (by rw [hzl,h32]) hone2 ?_))
    all_goals try (exfalso;omega)
    exact bodyPost_ret (results_cell_row rfl _ _ w.heap.size _ _ _ _ rfl (setRow_heap _ _ _ _ _ _ hxk) Tryz.underlying53 rfl hsz) rfl ⟨by rw [hD.out],zAa hbel (Nat.le_refl _) _⟩
set_option maxRecDepth 100000 in
set_option maxHeartbeats 1000000 in
theorem zA4 (s:Txt) (n:Nat) (hs:s.length≤4611686018427387904) (hn:n≤4611686018427387904) (w:World):Calls Tryz.prog 138 #[.string (B s), .int .i64 n] w fun e w'=>e = .returned (.string (B (s.drop n))) ∧ ∃ q,w'=w.drewN q:=by
 by_cases h:s.length≤n
 ·have hi:(s.length:Int)≤(n:Int):=by omega
  have hd:s.drop n=[]:=List.drop_eq_nil_of_le h
  rw [hd]
  clear hd
  go_enter Tryz.func138,Tryz.ntmps138
  go_wp2
  all_goals try (exfalso;omega)
  go_ret
  exact ⟨rfl,0,rfl⟩
 ·have hi : ¬ (s.length:Int)≤(n:Int):=by omega
  have hle:n≤s.length:=by omega
  have hlei:(n:Int)≤(s.length:Int):=by omega
  have x2:(B s).extract n s.length=B (s.drop n):=zCg s n
  go_enter Tryz.func138,Tryz.ntmps138
  go_wp2
  all_goals try (exfalso;omega)
  go_ret
  exact ⟨rfl,0,rfl⟩
section
def kindS (s:List StL) (n:Txt):Int:=match getS s n with
 | some x=>match decO x.text with | some o=>o.kind | none=>0
 | none=>0
theorem dec_kind {t:Txt} {o:ObjL} (h:decO t=some o) : ∃ c q,t=c::q∧o.kind=(c.toNat:Int):=by
 unfold decO at h
 match t,h with
 | c::q,h=>
   simp only at h
   split at h
   ·cases h
   ·split at h
    ·cases h
    ·split at h
     ·cases h
     ·split at h
      ·cases h
      ·injection h with h
       exact ⟨c,q,rfl,by rw [←h,zC5]⟩
theorem getS_mem {s:List StL} {n:Txt} {x:StL} (h:getS s n=some x):x∈s:=List.mem_of_find?_eq_some h
section
variable {w w':World} {base p:Nat} {vl:Value} {s:List StL}
theorem boxId (w:World) (n:Txt) (hn:n.length=32) : ∃ W1,w.alloc (.cells (u8s n) 53)=W1∧Below w.heap.size w W1∧Blk W1 w.heap.size 53 (u8s n) ∧ ∀ W,Below W1.heap.size W1 W→(ldvI ⟨w.heap.size,0,none⟩).run Tryz.prog W = .ok (.agg (u8s n)) W:=by
 have n1:Blk (w.alloc (.cells (u8s n) 53)) w.heap.size 53 (u8s n):=Blk.new _ _ _
 refine ⟨_,rfl,(Below.refl _ _).alloc (Nat.le_refl _) _,n1,fun W hW=>?_⟩
 have hsI:(Tryz.prog.info? 53).map (·.size)=some (u8s n).toList.length:=by rw [zAO,hn];exact sz32
 have:=run_loadVar_mid (P:=Tryz.prog) W w.heap.size 0 53 (u8s n).toList _ (zAk (n1.below hW n1.lt)) Tryz.underlying53 rfl hsI
 rwa [Array.toArray_toList] at this
attribute [local go_sem ↓] ldvI_eq ldvO_eq
set_option maxRecDepth 100000 in
set_option maxHeartbeats 2000000 in
theorem zDH (h:StoAt w base p vl s) (n:Txt) (hn:n.length=32) :
 Calls Tryz.prog 29 #[.pointer (some ⟨p,0,none⟩), .agg (u8s n)] w fun e w'=>e = .returned (.int .i64 (kindS s n))∧Below w.heap.size w w':=by
 obtain ⟨W1,hW1,b1,n1,ld⟩:=boxId w n hn
 have hg:=Lib.hid (zEH (h.below b1) n hn)
 have q1:=ld W1 (Below.refl _ _)
 obtain ⟨r,hr⟩ : ∃ r,Hid (kindS s n=r):=⟨_,Lib.hid rfl⟩
 rw [hr.out]
 have hrv:=hr.out
 unfold kindS at hrv
 generalize u8s n=NC at *
 clear hr ld n1
 cases hG:getS s n with
 | none=>
   have hg:Hid (Calls Tryz.prog 56 #[.pointer (some ⟨p,0,none⟩), .agg NC] W1 fun e w'=>e = .returned (.tuple #[.string (B []), .bool false])∧Below W1.heap.size W1 w'):=by
    have:=hg;unfold getV at this;rw [hG] at this;exact this
   rw [hG] at hrv
   have hrv:Hid (r=0):=hrv.symm
   clear hG
   go_enter Tryz.func29,Tryz.ntmps29
   go_wp2_with (first
    | ((with_reducible refine hg.out.mono ?_);rintro e w2 ⟨rfl,hb2⟩))
   go_ret
   exact ⟨by rw [hrv.out];rfl,bthen b1 b1.size hb2⟩
 | some x=>
   have hg:Hid (Calls Tryz.prog 56 #[.pointer (some ⟨p,0,none⟩), .agg NC] W1 fun e w'=>e = .returned (.tuple #[.string (B x.text), .bool true])∧Below W1.heap.size W1 w'):=by
    have:=hg;unfold getV at this;rw [hG] at this;exact this
   rw [hG] at hrv
   obtain ⟨o,ho⟩:=(h.ok.each x (getS_mem hG)).2
   obtain ⟨c,q,hcq,hk⟩:=dec_kind ho
   simp only at hrv
   rw [ho] at hrv
   have hc256:=c.toNat_lt
   have hrv:Hid (r=(c.toNat:Int)):=by show _=_;rw [←hrv];exact hk
   rw [hcq] at hg
   have i1:(0:Int)<((c::q).length:Int):=by simp only [List.length_cons];omega
   clear hG ho hk hcq
   go_enter Tryz.func29,Tryz.ntmps29
   go_wp2_with (first
    | ((with_reducible refine hg.out.mono ?_);rintro e w2 ⟨rfl,hb2⟩))
   all_goals try (exfalso;simp at *;omega)
   go_ret
   exact ⟨by rw [hrv.out];rfl,bthen b1 b1.size hb2⟩
def ObjT (s:List StL) (n:Txt) (B0:Nat) (w':World) (e:Ending):Prop:=match getS s n with
 | some x => ∃ o A1 A2 k1 k2,decO x.text=some o∧e = .returned (.tuple #[.agg (objC o (.slice A1 o.ents.length k1) (.slice A2 o.pars.length k2)).toArray, .bool true])∧ObjV w' (.slice A1 o.ents.length k1) (.slice A2 o.pars.length k2) o∧OwnEnts w' B0 (.slice A1 o.ents.length k1) o.ents∧OwnIds w' B0 (.slice A2 o.pars.length k2) o.pars
 | none=>e = .returned (.tuple #[.agg zObj, .bool false])
set_option maxRecDepth 100000 in
set_option maxHeartbeats 2000000 in
theorem zCL (h:StoAt w base p vl s) (n:Txt) (hn:n.length=32) :
 Calls Tryz.prog 90 #[.pointer (some ⟨p,0,none⟩), .agg (u8s n)] w fun e w'=>ObjT s n w.heap.size w' e∧Below w.heap.size w w':=by
 have hzo:=zeroObj
 have hz72:=zAF
 have hrb:=fun W=>run_build (P:=Tryz.prog) W _ _ _ zBu
 have hsz : ∀ cs:Array Value,cs.size=72→(Tryz.prog.info? 68).map (·.size)=some cs.size:=fun cs h=>by rw [h];exact szObj
 have hzone:zObj.all (·.oneCell')=true:=zAv zeroO none none 0 0 0 0
 obtain ⟨W1,hW1,b1,n1,ld⟩:=boxId w n hn
 obtain ⟨W2,hW2⟩ : ∃ W2,W1.alloc (.cells zObj 68)=W2:=⟨_,rfl⟩
 have z2:Blk W2 W1.heap.size 68 zObj:=by rw [←hW2];exact Blk.new _ _ _
 have bb2:Below W1.heap.size W1 W2:=by rw [←hW2];exact (Below.refl _ _).alloc (Nat.le_refl _) _
 have b2:=bthen b1 b1.size bb2
 have hg:=Lib.hid (zEH (h.below b2) n hn)
 have q1:=ld W2 bb2
 have hle1:=b1.size
 unfold ObjT
 generalize u8s n=NC at *
 clear ld n1
 cases hG:getS s n with
 | none=>
   have hg:Hid (Calls Tryz.prog 56 #[.pointer (some ⟨p,0,none⟩), .agg NC] W2 fun e w'=>e = .returned (.tuple #[.string (B []), .bool false])∧Below W2.heap.size W2 w'):=by
    have:=hg;unfold getV at this;rw [hG] at this;exact this
   generalize zObj=ZO at *
   clear hG
   go_enter Tryz.func90,Tryz.ntmps90
   go_wp2_with (first
    | ((with_reducible refine hg.out.mono ?_);rintro e w3 ⟨rfl,hb3⟩
       have b3:=bthen b2 b2.size hb3
       have z3:=z2.below hb3 z2.lt)
    | (refine wpList_store_row rfl 68 (.tmp 4) (.tmp 18) rfl W1.heap.size ZO rfl rfl _ _ z3 (hsz ZO hz72) rfl hzone ?_))
   refine bodyPost_ret (zAg rfl _ _ W1.heap.size _ _ _ _ rfl (setRow_heap _ _ _ _ _ _ z3) Tryz.underlying68 rfl (hsz ZO hz72)) rfl ⟨rfl,zAa b3 hle1 _⟩
 | some x=>
   have hg:Hid (Calls Tryz.prog 56 #[.pointer (some ⟨p,0,none⟩), .agg NC] W2 fun e w'=>e = .returned (.tuple #[.string (B x.text), .bool true])∧Below W2.heap.size W2 w'):=by
    have:=hg;unfold getV at this;rw [hG] at this;exact this
   obtain ⟨o,ho⟩:=(h.ok.each x (getS_mem hG)).2
   have hxl:=(zEP ho).2
   have hde : ∀ W,Calls Tryz.prog 52 #[.string (B x.text)] W fun e w'=>(∃ A1 A2 k1 k2,e = .returned (.tuple #[.agg (objC o (.slice A1 o.ents.length k1) (.slice A2 o.pars.length k2)).toArray, .int .i64 0])∧ObjV w' (.slice A1 o.ents.length k1) (.slice A2 o.pars.length k2) o∧OwnEnts w' W.heap.size (.slice A1 o.ents.length k1) o.ents∧OwnIds w' W.heap.size (.slice A2 o.pars.length k2) o.pars)∧Below W.heap.size W w':=fun W=>by
    have:=zED x.text (by omega) W
    rw [ho] at this
    exact this
   clear hG
   go_enter Tryz.func90,Tryz.ntmps90
   go_wp2_with (first
    | ((with_reducible refine hg.out.mono ?_);rintro e w3 ⟨rfl,hb3⟩
       have b3:=bthen b2 b2.size hb3
       have z3:=z2.below hb3 z2.lt
       have b3z:=hb3.size)
    | ((with_reducible refine (hde _).mono ?_);rintro e w4 ⟨⟨A1,A2,k1,k2,rfl,hv4,oe4,op4⟩,hb4⟩
       have b4:=bthen b3 b3.size hb4
       have z4:=z3.below hb4 z3.lt
       have hc72:(objC o (.slice A1 o.ents.length k1) (.slice A2 o.pars.length k2)).toArray.size=72:=by rw [List.size_toArray,zAy hv4.ok]
       have hcone:=zAv o A1 A2 o.ents.length k1 o.pars.length k2)
    | ((with_reducible refine lit_new 68 (.tmp 8) (.tmp 22) (objC o (.slice A1 o.ents.length k1) (.slice A2 o.pars.length k2)).toArray 72 szObj hc72 hcone _ ?_ ?_ ?_ ?_)
       ·first | exact hz72 | rfl
       ·rfl
       ·rfl
       intro W5 hb5 hbl5
       have b5:=bthen b4 b4.size hbl5
       have z5:=z4.below hbl5 z4.lt
       have hv5:=hv4.below hbl5
       have hO5:ObjB W5 w4.heap.size o (.slice A1 o.ents.length k1) (.slice A2 o.pars.length k2):=⟨hb5,hv4.ok.tree,hv4.ok.target⟩
       have ld5:=zAX hO5 hv4.ok)
    | (refine wpList_store_row rfl 68 (.tmp 4) (.tmp 24) rfl W1.heap.size (objC o (.slice A1 o.ents.length k1) (.slice A2 o.pars.length k2)).toArray rfl rfl _ _ z5 (hsz _ hc72) (hz72.trans hc72.symm) hcone ?_))
   refine bodyPost_ret (zAg rfl _ _ W1.heap.size _ _ _ _ rfl (setRow_heap _ _ _ _ _ _ z5) Tryz.underlying68 rfl (hsz _ hc72)) rfl ⟨⟨o,A1,A2,k1,k2,ho,rfl,?_,zAx (own_row (zAd oe4 hbl5) (Nat.lt_of_lt_of_le z2.lt b3z) _) b3.size,zAx (own_row (zAd op4 hbl5) (Nat.lt_of_lt_of_le z2.lt b3z) _) b3.size⟩,zAa b5 hle1 _⟩
   exact zCE hv4.ok (zAd oe4 hbl5) (zAd op4 hbl5) (Nat.lt_of_lt_of_le z2.lt b3z) _
attribute [local go_sem ↓] ldvStit_eq
end
attribute [local go_sem ↓] ldvI_eq ldvO_eq
end
section
def Ap (a b:Value):Prop := ∀ k,a.ownBlock=some k→b.ownBlock≠some k
theorem Ap.symm {a b:Value} (h:Ap a b):Ap b a:=fun k hk e=>h k e hk
theorem Ap.nil_l (a b:Nat) (v:Value):Ap (.slice none a b) v:=fun k hk=>by cases hk
theorem Ap.nil_r (a b:Nat) (v:Value):Ap v (.slice none a b):=fun k _ e=>by cases e
theorem Ap.newer {w:World} {a a' b:Value} (h:Ap a b) (hn:Newer w a a') (hb : ∀ k,b.ownBlock=some k→k<w.heap.size):Ap a' b:=fun k hk e=>by
 rcases hn with h1 | h1
 ·exact h k (h1▸hk) e
 ·have:=h1 k hk;have:=hb k e;omega
theorem own_lt {w:World} {B:Nat} {e:TypeId} {size n:Nat} {v:Value} {xs:List Value} (h:w.ownsRow B e size v n xs) : ∀ k,v.ownBlock=some k→k<w.heap.size:=fun k hk=>(World.ownsRow.lt h k hk).2
theorem own_ge {w:World} {B:Nat} {e:TypeId} {size n:Nat} {v:Value} {xs:List Value} (h:w.ownsRow B e size v n xs) : ∀ k,v.ownBlock=some k→B≤k:=fun k hk=>(World.ownsRow.lt h k hk).1
structure RcM (w:World) (ve:Value) (cs todo inn out:List Txt) (vt vI vO:Value) (wr:World):Prop where
 tok : ∀ x∈todo,x.length=32
 t:OwnIds wr w.heap.size vt todo
 i:SetAt wr w.heap.size w.heap.size vI inn
 o:SetAt wr w.heap.size (w.heap.size+1) vO out
 e:OwnIds wr w.heap.size ve cs
 a1:Ap vI vO
 a2:Ap vI vt
 a3:Ap vO vt
 a4:Ap ve vI
 a5:Ap ve vO
 a6:Ap ve vt
 bel:Below w.heap.size w wr
section
variable {w wr w':World} {ve vt vI vO:Value} {cs todo inn out:List Txt} {x:Txt}
theorem RcM.below (h:RcM w ve cs todo inn out vt vI vO wr) (hb:Below wr.heap.size wr w'):RcM w ve cs todo inn out vt vI vO w':=
 ⟨h.tok,zAd h.t hb,h.i.below hb,h.o.below hb,zAd h.e hb,h.a1,h.a2,h.a3,h.a4,h.a5,h.a6,bthen h.bel h.bel.size hb⟩
theorem RcM.in_ {vI':Value} {inn':List Txt} (h:RcM w ve cs todo inn out vt vI vO wr) (hs:SetAt w' w.heap.size w.heap.size vI' inn') (hf:Far [some w.heap.size,vI.ownBlock] wr w') (hn:Newer wr vI vI'):RcM w ve cs todo inn' out vt vI' vO w':=by
 have hne : ∀ {v:Value} {l:List Txt},OwnIds wr w.heap.size v l→Ap v vI → ∀ k,v.ownBlock=some k→some k ∉ [some w.heap.size,vI.ownBlock]:=fun {v l} ho ha k hk hm=>by
  simp only [List.mem_cons,List.not_mem_nil,or_false] at hm
  rcases hm with h1 | h1
  ·injection h1 with h1
   subst h1
   exact zAu ho h.i.blk (by decide) hk.symm
  ·exact ha k hk h1.symm
 have hpO:some (w.heap.size+1) ∉ [some w.heap.size,vI.ownBlock]:=fun hm=>by
  simp only [List.mem_cons,List.not_mem_nil,or_false] at hm
  rcases hm with h1 | h1
  ·injection h1 with h1;omega
  ·exact zAu h.i.own h.o.blk (by decide) h1
 refine ⟨h.tok,hf.own h.t (hne h.t h.a2.symm),hs,h.o.far hf hpO (hne h.o.own h.a1.symm),hf.own h.e (hne h.e h.a4),h.a1.newer hn (own_lt h.o.own),h.a2.newer hn (own_lt h.t),h.a3,(h.a4.symm.newer hn (own_lt h.e)).symm,h.a5,h.a6,?_⟩
 refine h.bel.trans (hf.below h.bel.size fun k hk=>?_)
 simp only [List.mem_cons,List.not_mem_nil,or_false] at hk
 rcases hk with h1 | h1
 ·injection h1 with h1;omega
 ·exact own_ge h.i.own k h1.symm
end
theorem zDA (l:List Txt) (n:Txt):inL (sortU l) n=inL l n:=by
 have:=(zBz l).2 n
 rw [Bool.eq_iff_iff,inL_iff,inL_iff]
 exact this
end
section
attribute [local go_sem ↓] ldvI_eq ldvO_eq
theorem links_len {o:ObjL} (h:Small o):(linksL o).length≤70:=by
 have h1:=h.ents
 have h2:=h.pars
 unfold linksL
 split
 ·rw [List.length_map];exact h1
 ·split
  ·rw [List.length_cons,List.length_map];omega
  ·split<;>simp
theorem cut_small {cut:List Txt} {n:Txt} {o:ObjL} (h:Small o):Small (cutO cut n o):=by
 unfold cutO
 split
 ·exact small_cut h
 ·exact h
theorem dec_small {t:Txt} {o:ObjL} (h:decO t=some o):Small o:=small_enc (zDg h).1
theorem zCM {S:List StL} {n:Txt} {s:StL} {o:ObjL} (hg:getS S n=some s) (hd:decO s.text=some o):objS S n=some o:=by unfold objS;rw [hg];exact hd
theorem zCY {S:List StL} {n:Txt} (hg:getS S n=none):objS S n=none:=by unfold objS;rw [hg]
theorem nextS_len {S:List StL} {cut:List Txt} (n:Txt):(nextS S cut n).length≤70:=by
 unfold nextS objS
 cases hg:getS S n with
 | none=>simp
 | some s=>
   simp only
   cases hd:decO s.text with
   | none=>simp
   | some o=>unfold nextO;rw [List.length_map];exact links_len (cut_small (dec_small hd))
theorem isS_mem {S:List StL} {n:Txt} (h:isS S n=true):n∈S.map StL.id:=by
 unfold isS objS at h
 cases hg:getS S n with
 | none=>rw [hg] at h;cases h
 | some s=>
   obtain ⟨h1,h2⟩:=getS_id hg
   exact List.mem_map.2 ⟨s,h1,h2⟩
theorem StkI.few {S:List StL} {cut ini todo inn out:List Txt} (h:StkI S cut ini todo inn out):inn.length≤S.length∧out.length≤ini.length+S.length*70:=by
 refine ⟨?_,?_⟩
 ·have:=zB4 (zEo h.ri) (m:=S.map StL.id) fun x hx=>isS_mem (h.i1 x hx).2
  rwa [List.length_map] at this
 ·exact Nat.le_trans (zB4 (zEo h.ro) fun x hx=>(h.o1 x hx).1.inU) (allU_len fun x _=>nextS_len _)
theorem link_idR {w:World} {g o:Nat} {y:LinkL} (h:w.rangeAt g o (linkC y)):w.rangeAt g o (u8s y.id).toList:=fun j u hu=>h j u (by
 unfold linkC
 rw [List.getElem?_append_left (List.getElem?_eq_some_iff.1 hu).1]
 exact hu)
end
section
structure DiL where
 st:StL
 o:ObjL
 ve:Value
 vp:Value
def ditC (e:DiL):List Value:=(u8s e.st.id).toList ++ .string (B e.st.text)::objC e.o e.ve e.vp
structure DitOk (w:World) (e:DiL):Prop where
 dec:decO e.st.text=some e.o
 id:e.st.id.length=32
 ok:ObjOk e.o
 oe:OwnEnts w 0 e.ve e.o.ents
 op:OwnIds w 0 e.vp e.o.pars
theorem DitOk.val {w:World} {e:DiL} (h:DitOk w e):ObjV w e.ve e.vp e.o:=⟨h.ok,SliceAt.of_own (fun x hx=>zBw (h.ok.ents x hx)) h.oe,SliceAt.of_own (fun x hx=>idC_len (h.ok.pars x hx)) h.op⟩
theorem DitOk.below {w w':World} {e:DiL} (h:DitOk w e) (hb:Below w.heap.size w w'):DitOk w' e:=⟨h.dec,h.id,h.ok,zAd h.oe hb,zAd h.op hb⟩
theorem DitOk.forms {w:World} {e:DiL} (h:DitOk w e) : ∃ A1 A2 k1 k2,e.ve = .slice A1 e.o.ents.length k1∧e.vp = .slice A2 e.o.pars.length k2:=by
 obtain ⟨A1,k1,e1,_⟩:=h.val.ents
 obtain ⟨A2,k2,e2,_⟩:=h.val.pars
 exact ⟨A1,A2,k1,k2,e1,e2⟩
theorem zE3 {w:World} {e:DiL} (h:DitOk w e):(ditC e).length=105:=by
 unfold ditC
 rw [List.length_append,zAO,h.id,List.length_cons,zAy h.val.ok]
theorem ditC_one {w:World} {e:DiL} (h:DitOk w e) : ∀ u∈ditC e,u.oneCell'=true:=by
 obtain ⟨A1,A2,k1,k2,e1,e2⟩:=h.forms
 intro u hu
 unfold ditC at hu
 rw [e1,e2] at hu
 rcases List.mem_append.1 hu with hu | hu
 ·exact u8v_one e.st.id u (by simpa [u8s] using hu)
 ·rcases List.mem_cons.1 hu with rfl | hu
  ·rfl
  ·have:=Array.all_eq_true_iff_forall_mem.1 (zAv e.o A1 A2 e.o.ents.length k1 e.o.pars.length k2) u (by simpa using hu)
   exact this
def zDit : Value := .agg ((u8s noId).toList ++ .string (B [])::objC zeroO (.slice none 0 0) (.slice none 0 0)).toArray
theorem Tryz.ditTy : SliceTy Tryz.prog 27 70 zDit 105 232:=⟨Tryz.underlying27,info_parts (by kernel_rfl),by kernel_rfl,by omega⟩
theorem szDit : (Tryz.prog.info? 70).map (·.size)=some 105:=by kernel_rfl
section
variable {w:World} {g o:Nat} {e:DiL}
theorem dit_id (h:w.rangeAt g o (ditC e)):w.rangeAt g o (u8s e.st.id).toList:=fun j u hu=>h j u (by
 unfold ditC
 rw [List.getElem?_append_left (List.getElem?_eq_some_iff.1 hu).1]
 exact hu)
theorem dit_rest (h:w.rangeAt g o (ditC e)) (hid:e.st.id.length=32):w.rangeAt g (o+32) (.string (B e.st.text)::objC e.o e.ve e.vp):=fun j u hu=>by
 have:=h (32+j) u (by
  unfold ditC
  rw [List.getElem?_append_right (by rw [zAO,hid];omega),zAO,hid,Nat.add_sub_cancel_left]
  exact hu)
 rwa [←Nat.add_assoc] at this
theorem dit_text (h:w.rangeAt g o (ditC e)) (hid:e.st.id.length=32):w.cell? ⟨g,o+32,none⟩=some (.string (B e.st.text)):=by
 have:=dit_rest h hid 0 _ rfl
 rwa [Nat.add_zero] at this
theorem dit_obj (h:w.rangeAt g o (ditC e)) (hid:e.st.id.length=32):w.rangeAt g (o+33) (objC e.o e.ve e.vp):=fun j u hu=>by
 have:=dit_rest h hid (1+j) u (by
  rw [show 1+j=j+1 from by omega,List.getElem?_cons_succ]
  exact hu)
 rwa [show o+32+(1+j)=o+33+j from by omega] at this
theorem dit_kind (h:w.rangeAt g o (ditC e)) (hid:e.st.id.length=32):w.cell? ⟨g,o+33,none⟩=some (.int .i64 e.o.kind):=by
 have:=dit_obj h hid 0 _ rfl
 rwa [Nat.add_zero] at this
end
abbrev OwnDits (w:World) (B:Nat) (v:Value) (l:List DiL):Prop:=w.ownsRow B 70 105 v l.length (rowsOf ditC l)
structure DocSt (w:World) (vm:Value) (es:List DiL):Prop where
 own:OwnDits w 0 vm es
 each : ∀ e∈es,DitOk w e
 ok:StoOk (es.map (·.st))
theorem DocSt.at_ {w:World} {vm:Value} {es:List DiL} (h:DocSt w vm es):SliceAt w 105 ditC vm es:=SliceAt.of_own (fun e he=>zE3 (h.each e he)) h.own
theorem DocSt.below {w w':World} {vm:Value} {es:List DiL} (h:DocSt w vm es) (hb:Below w.heap.size w w'):DocSt w' vm es:=⟨zAd h.own hb,fun e he=>(h.each e he).below hb,h.ok⟩
theorem DocSt.few {w:World} {vm:Value} {es:List DiL} (h:DocSt w vm es):es.length≤500000:=by have:=h.ok.few;rwa [List.length_map] at this
def AtR (es:List DiL) (n:Txt) (e:Ending):Prop:=(∃ (k:Nat) (x:DiL),e = .returned (.int .i64 k)∧es[k]?=some x∧getS (es.map (·.st)) n=some x.st)∨(e = .returned (.int .i64 (-1))∧getS (es.map (·.st)) n=none)
theorem getS_drop {s:List StL} {k:Nat} {x:StL} {n:Txt} (hx:s[k]?=some x):getS (s.drop k) n=if x.id=n then some x else getS (s.drop (k+1)) n:=by
 have hlt:=(List.getElem?_eq_some_iff.1 hx).1
 have he:=(List.getElem?_eq_some_iff.1 hx).2
 rw [List.drop_eq_getElem_cons hlt,he]
 unfold getS
 rw [List.find?_cons]
 by_cases h:x.id=n
 ·rw [if_pos h];simp [h]
 ·rw [if_neg h]
  have:(x.id==n)=false:=by simpa using h
  rw [this]
set_option maxRecDepth 100000 in
set_option maxHeartbeats 2000000 in
theorem zBF {w:World} {vm:Value} {es:List DiL} (h:DocSt w vm es) (n:Txt) (hn:n.length=32) :
 Calls Tryz.prog 44 #[.agg #[vm], .agg (u8s n)] w fun e w'=>AtR es n e∧Below w.heap.size w w':=by
 have hfew:=h.few
 have heach:=h.each
 obtain ⟨A,cap,rfl,hcap1,hcap2,hat⟩:=h.at_
 obtain ⟨W1,hW1⟩ : ∃ W1,w.alloc (.cells #[.slice A es.length cap] 29)=W1:=⟨_,rfl⟩
 have s1:Blk W1 w.heap.size 29 #[.slice A es.length cap]:=by rw [←hW1];exact Blk.new _ _ _
 have b1:Below w.heap.size w W1:=by rw [←hW1];exact (Below.refl _ _).alloc (Nat.le_refl _) _
 obtain ⟨W2,hW2⟩ : ∃ W2,W1.alloc (.cells (u8s n) 53)=W2:=⟨_,rfl⟩
 have n2:Blk W2 W1.heap.size 53 (u8s n):=by rw [←hW2];exact Blk.new _ _ _
 have bb2:Below W1.heap.size W1 W2:=by rw [←hW2];exact (Below.refl _ _).alloc (Nat.le_refl _) _
 have s2:=s1.below bb2 s1.lt
 have b2:=bthen b1 b1.size bb2
 have hG0:Hid (getS ((es.map (·.st)).drop 0) n=getS (es.map (·.st)) n):=rfl
 have hsI:(Tryz.prog.info? 53).map (·.size)=some (u8s n).toList.length:=by rw [zAO,hn];exact sz32
 have hag:Value.agg (u8s n) = .agg (u8s n).toList.toArray:=by rw [Array.toArray_toList]
 unfold AtR
 generalize getS (es.map (·.st)) n=G at *
 clear h
 go_enter Tryz.func44,Tryz.ntmps44
 go_wp2
 go_loopw [5] (fun vi wr => ∃ k:Nat,vi = .int .i64 k∧k≤es.length∧Hid (getS ((es.map (·.st)).drop k) n=G)∧Below W2.heap.size W2 wr) (fun vi _=>es.length-(intOf vi).toNat)
 case atStart=>exact ⟨0,rfl,by omega,hG0,Below.refl _ _⟩
 case round=>
  obtain ⟨k,rfl,hk,hrel,hbel⟩:=hrel
  have hbr:=bthen b2 b2.size hbel
  have c0:wr.cell? ⟨w.heap.size,0,none⟩=some (.slice A es.length cap):=(s2.below hbel s2.lt).cell 0
  clear hW1 hW2
  by_cases hlt:k<es.length
  ·have hki:(k:Int)<(es.length:Int):=by omega
   obtain ⟨ga,oa,rfl,hga,hca⟩:=hat (by omega)
   obtain ⟨x,hx⟩ : ∃ x,es[k]?=some x:=⟨_,List.getElem?_eq_getElem hlt⟩
   have hxid:=(heach x (List.mem_of_getElem? hx)).id
   have hxr:=dit_id (hca k x hx)
   have hgd:=getS_drop (n:=n) (show (es.map (·.st))[k]?=some x.st by rw [List.getElem?_map,hx];rfl)
   have hsx:(Tryz.prog.info? 53).map (·.size)=some (u8s x.st.id).toList.length:=by rw [zAO,hxid];exact sz32
   have heq:=fun W=>zEg W x.st.id n hxid hn
   obtain ⟨bo,hbo⟩ : ∃ bo,decide (x.st.id=n)=bo:=⟨_,rfl⟩
   rw [hbo] at heq
   have hbo:=Lib.hid hbo
   have hxh:=Lib.hid hx
   clear hx hca hat heach
   go_wp2
   refine zAe (C:=fun W=>Below W2.heap.size W2 W) (by kernel_rfl) (by kernel_rfl) hbel.drew ?_
   repeat
    first
     | ((with_reducible refine zAm ?_ ?_)
        ·(go_simp;done)
        apply Exists.intro
        refine ⟨fun W hW=>?_,?_⟩
        ·first
          | exact zAB _ _ rfl ga (oa+k*105) rfl (u8s x.st.id).toList _ (zAc hxr hga (bthen b2 b2.size hW)) Tryz.underlying53 rfl hsx rfl
          | exact zAB _ _ rfl W1.heap.size 0 rfl (u8s n).toList _ (zAk (n2.below hW n2.lt)) Tryz.underlying53 rfl hsI rfl
          | (have q0:W.cell? ⟨w.heap.size,0,none⟩=some (.slice (some ⟨ga,oa,none⟩) es.length cap):=(s2.below hW s2.lt).cell 0
             have q1:=heq W
             rw [←Array.toArray_toList (xs:=u8s x.st.id),←Array.toArray_toList (xs:=u8s n)] at q1
             go_simp
             first
              | rfl)
        simp only [Act.put,zA,zB,zC])
     | ((with_reducible refine zAj ?_ ?_)
        ·(first | rfl | (go_simp;done))
        simp only [Act.put,zA,zB,zC])
   with_reducible refine wpQuiet_nil ?_
   intro w5 hW5
   have hb5:=bthen b2 b2.size hW5
   have hgd2:=hrel.out
   rw [←List.map_drop] at hgd hgd2
   rw [hgd2] at hgd
   cases bo
   rotate_left
   ·have hxn:x.st.id=n:=of_decide_eq_true hbo.out
    rw [if_pos hxn] at hgd
    have hgd:Hid (G=some x.st):=hgd
    clear hgd2 hxn hrel hG0
    go_wp2
    go_ret
    exact ⟨.inl ⟨k,x,rfl,hxh.out,hgd.out⟩,hb5⟩
   ·have hxn : ¬ x.st.id=n:=of_decide_eq_false hbo.out
    rw [if_neg hxn] at hgd
    have hgd:Hid (getS ((es.map (·.st)).drop (k+1)) n=G):=by show _=_;exact hgd.symm
    clear hgd2 hxn hrel hG0
    go_wp2
    go_roundw
    case rel=>exact ⟨k+1,by go_num,by omega,hgd,hW5⟩
    case measure=>simp [intOf];omega
  ·have hki : ¬ (k:Int)<(es.length:Int):=by omega
   have hGn:Hid (G=none):=by
    show _=_
    rw [←hrel.out,List.drop_eq_nil_of_le (by rw [List.length_map];omega)]
    rfl
   clear hrel hG0 hat
   go_wp2
   go_ret
   exact ⟨.inr ⟨rfl,hGn.out⟩,hbr⟩
end
section
attribute [local go_sem ↓] ldvI_eq ldvO_eq
theorem boxSt {w:World} (vm:Value) (n:Txt) (hn:n.length=32) : ∃ W1 W2,w.alloc (.cells #[vm] 29)=W1∧W1.alloc (.cells (u8s n) 53)=W2∧Below w.heap.size w W2∧w.heap.size<W1.heap.size∧W1.heap.size<W2.heap.size ∧
 ∀ W,Below W2.heap.size W2 W→W.cell? ⟨w.heap.size,0,none⟩=some vm∧W.heap[w.heap.size]?=some (.cells #[vm] 29 (0,0))∧(ldvI ⟨W1.heap.size,0,none⟩).run Tryz.prog W = .ok (.agg (u8s n)) W:=by
 obtain ⟨W1,hW1⟩ : ∃ W1,w.alloc (.cells #[vm] 29)=W1:=⟨_,rfl⟩
 have s1:Blk W1 w.heap.size 29 #[vm]:=by rw [←hW1];exact Blk.new _ _ _
 have b1:Below w.heap.size w W1:=by rw [←hW1];exact (Below.refl _ _).alloc (Nat.le_refl _) _
 obtain ⟨W2,hW2,bb2,n2,ld⟩:=boxId W1 n hn
 refine ⟨W1,W2,hW1,hW2,bthen b1 b1.size bb2,s1.lt,n2.lt,fun W hW=>⟨?_,?_,ld W hW⟩⟩
 ·exact ((s1.below bb2 s1.lt).below hW (Nat.lt_of_lt_of_le s1.lt bb2.size)).cell 0
 ·exact (s1.below bb2 s1.lt).below hW (Nat.lt_of_lt_of_le s1.lt bb2.size)
theorem szDSt : (Tryz.prog.info? 29).map (·.size)=some 1:=by kernel_rfl
def ldvS (p:Addr):Sem Value:=loadVar 29 p
theorem ldvS_eq (p:Addr):loadVar 29 p=ldvS p:=rfl
attribute [local go_sem ↓] ldvS_eq
theorem zAC {w:World} {g:Nat} {vm:Value} (h:w.heap[g]?=some (.cells #[vm] 29 (0,0))):(ldvS ⟨g,0,none⟩).run Tryz.prog w = .ok (.agg #[vm]) w:=
 run_loadVar_row w g _ _ _ _ _ h Tryz.underlying29 rfl szDSt
section
variable {w:World} {vm:Value} {es:List DiL}
def hasS (s:List StL) (n:Txt):Bool:=(getS s n).isSome
set_option maxRecDepth 100000 in
set_option maxHeartbeats 1000000 in
theorem docHas_calls (h:DocSt w vm es) (n:Txt) (hn:n.length=32) :
 Calls Tryz.prog 77 #[.agg #[vm], .agg (u8s n)] w fun e w'=>e = .returned (.bool (hasS (es.map (·.st)) n))∧Below w.heap.size w w':=by
 obtain ⟨W1,W2,hW1,hW2,b2,hl1,hl2,hf⟩:=boxSt (w:=w) vm n hn
 obtain ⟨c2,r2,q2⟩:=hf W2 (Below.refl _ _)
 have l2:=zAC r2
 have ha:=zBF (h.below b2) n hn
 unfold AtR at ha
 unfold hasS
 generalize u8s n=NC at *
 cases hG:getS (es.map (·.st)) n with
 | none=>
   rw [hG] at ha
   have ha:Calls Tryz.prog 44 #[.agg #[vm], .agg NC] W2 fun e w'=>e = .returned (.int .i64 (-1))∧Below W2.heap.size W2 w':=ha.mono fun e w' ⟨h1,h2⟩=>by
    rcases h1 with ⟨k,x,_,_,hx⟩ | ⟨he,_⟩
    ·cases hx
    ·exact ⟨he,h2⟩
   have ha:=Lib.hid ha
   clear hG hf h
   go_enter Tryz.func77,Tryz.ntmps77
   go_wp2_with (first
    | ((with_reducible refine ha.out.mono ?_);rintro e w3 ⟨rfl,hb3⟩))
   go_ret
   exact ⟨rfl,bthen b2 b2.size hb3⟩
 | some y=>
   rw [hG] at ha
   have ha:Calls Tryz.prog 44 #[.agg #[vm], .agg NC] W2 fun e w'=>(∃ k:Nat,e = .returned (.int .i64 k))∧Below W2.heap.size W2 w':=ha.mono fun e w' ⟨h1,h2⟩=>by
    rcases h1 with ⟨k,x,he,_,hx⟩ | ⟨_,hx⟩
    ·exact ⟨⟨k,he⟩,h2⟩
    ·cases hx
   have ha:=Lib.hid ha
   clear hG hf h
   go_enter Tryz.func77,Tryz.ntmps77
   go_wp2_with (first
    | ((with_reducible refine ha.out.mono ?_);rintro e w3 ⟨⟨k,rfl⟩,hb3⟩
       have hk0:(0:Int)≤(k:Int):=by omega))
   all_goals try (exfalso;omega)
   go_ret
   exact ⟨rfl,bthen b2 b2.size hb3⟩
set_option maxRecDepth 100000 in
set_option maxHeartbeats 1000000 in
theorem zAM (h:DocSt w vm es) (n:Txt) (hn:n.length=32) :
 Calls Tryz.prog 21 #[.agg #[vm], .agg (u8s n)] w fun e w'=>e = .returned (.int .i64 (kindS (es.map (·.st)) n))∧Below w.heap.size w w':=by
 obtain ⟨W1,W2,hW1,hW2,b2,hl1,hl2,hf⟩:=boxSt (w:=w) vm n hn
 obtain ⟨c2,r2,q2⟩:=hf W2 (Below.refl _ _)
 have l2:=zAC r2
 have ha:=zBF (h.below b2) n hn
 unfold AtR at ha
 obtain ⟨r,hr⟩ : ∃ r,Hid (kindS (es.map (·.st)) n=r):=⟨_,Lib.hid rfl⟩
 rw [hr.out]
 have hrv:=hr.out
 unfold kindS at hrv
 clear hr
 have heach:=h.each
 have hfew:=h.few
 obtain ⟨A,cap,rfl,hcap1,hcap2,hat⟩:=h.at_
 generalize u8s n=NC at *
 cases hG:getS (es.map (·.st)) n with
 | none=>
   rw [hG] at ha
   have ha:Calls Tryz.prog 44 #[.agg #[.slice A es.length cap], .agg NC] W2 fun e w'=>e = .returned (.int .i64 (-1))∧Below W2.heap.size W2 w':=ha.mono fun e w' ⟨h1,h2⟩=>by
    rcases h1 with ⟨k,x,_,_,hx⟩ | ⟨he,_⟩
    ·cases hx
    ·exact ⟨he,h2⟩
   have ha:=Lib.hid ha
   rw [hG] at hrv
   have hrv:Hid (r=0):=hrv.symm
   clear hG hf h heach hat
   go_enter Tryz.func21,Tryz.ntmps21
   go_wp2_with (first
    | ((with_reducible refine ha.out.mono ?_);rintro e w3 ⟨rfl,hb3⟩))
   go_ret
   exact ⟨by rw [hrv.out];rfl,bthen b2 b2.size hb3⟩
 | some y=>
   rw [hG] at ha
   have ha:Calls Tryz.prog 44 #[.agg #[.slice A es.length cap], .agg NC] W2 fun e w'=>(∃ (k:Nat) (x:DiL),e = .returned (.int .i64 k)∧es[k]?=some x∧y=x.st)∧Below W2.heap.size W2 w':=ha.mono fun e w' ⟨h1,h2⟩=>by
    rcases h1 with ⟨k,x,he,hx0,hx⟩ | ⟨_,hx⟩
    ·exact ⟨⟨k,x,he,hx0,by injection hx⟩,h2⟩
    ·cases hx
   have ha:=Lib.hid ha
   rw [hG] at hrv
   simp only at hrv
   have hrv:Hid (∀ o,decO y.text=some o→r=o.kind):=fun o ho=>by rw [ho] at hrv;exact hrv.symm
   clear hG h
   go_enter Tryz.func21,Tryz.ntmps21
   go_wp2_with (first
    | ((with_reducible refine ha.out.mono ?_);rintro e w3 ⟨⟨k,x,rfl,hx,rfl⟩,hb3⟩
       have hlt:=(List.getElem?_eq_some_iff.1 hx).1
       have hk0 : ¬ (k:Int)<0:=by omega
       have hki:(k:Int)<(es.length:Int):=by omega
       obtain ⟨ga,oa,rfl,hga,hca⟩:=hat (by omega)
       have hd:=heach x (List.mem_of_getElem? hx)
       have b3:=bthen b2 b2.size hb3
       have k3:=dit_kind (zAc (hca k x hx) hga b3) hd.id
       have c3:=(hf w3 hb3).1
       have hdx:=Lib.hid hd.dec
       clear hx hca hat heach hd hf))
   all_goals try (exfalso;omega)
   go_ret
   exact ⟨by rw [hrv.out _ hdx.out];rfl,b3⟩
def ObjG (s:List StL) (n:Txt) (w':World) (e:Ending):Prop:=match getS s n with
 | some x => ∃ o A1 A2 k1 k2,decO x.text=some o∧e = .returned (.agg (objC o (.slice A1 o.ents.length k1) (.slice A2 o.pars.length k2)).toArray)∧ObjV w' (.slice A1 o.ents.length k1) (.slice A2 o.pars.length k2) o
 | none=>e = .returned (.agg zObj)
theorem ObjG.below {s:List StL} {n:Txt} {w w':World} {e:Ending} (h:ObjG s n w e) (hb:Below w.heap.size w w'):ObjG s n w' e:=by
 unfold ObjG at h ⊢
 cases hG:getS s n with
 | none=>rw [hG] at h;exact h
 | some x=>
   rw [hG] at h
   obtain ⟨o,A1,A2,k1,k2,h1,h2,h3⟩:=h
   exact ⟨o,A1,A2,k1,k2,h1,h2,h3.below hb⟩
set_option maxRecDepth 100000 in
set_option maxHeartbeats 2000000 in
theorem zCK {w0:World} (h0:DocSt w0 vm es) (hb0:Below w0.heap.size w0 w) (n:Txt) (hn:n.length=32) :
 Calls Tryz.prog 35 #[.agg #[vm], .agg (u8s n)] w fun e w'=>ObjG (es.map (·.st)) n w0 e∧Below w.heap.size w w':=by
 have h:=h0.below hb0
 have heach0:=h0.each
 clear h0 hb0
 have hzo:=zeroObj
 have hz72:=zAF
 have hrb:=fun W=>run_build (P:=Tryz.prog) W _ _ _ zBu
 have hsz : ∀ cs:Array Value,cs.size=72→(Tryz.prog.info? 68).map (·.size)=some cs.size:=fun cs h=>by rw [h];exact szObj
 have hzone:zObj.all (·.oneCell')=true:=zAv zeroO none none 0 0 0 0
 obtain ⟨W1,W2,hW1,hW2,b2,hl1,hl2,hf⟩:=boxSt (w:=w) vm n hn
 obtain ⟨W3,hW3⟩ : ∃ W3,W2.alloc (.cells zObj 68)=W3:=⟨_,rfl⟩
 have z3:Blk W3 W2.heap.size 68 zObj:=by rw [←hW3];exact Blk.new _ _ _
 have bb3:Below W2.heap.size W2 W3:=by rw [←hW3];exact (Below.refl _ _).alloc (Nat.le_refl _) _
 have b3:=bthen b2 b2.size bb3
 obtain ⟨c3,r3,q3⟩:=hf W3 bb3
 have l3:=zAC r3
 have hle2:=b2.size
 have ha:=zBF (h.below b3) n hn
 unfold AtR at ha
 unfold ObjG
 have heach:=h.each
 have hfew:=h.few
 obtain ⟨A,cap,rfl,hcap1,hcap2,hat⟩:=h.at_
 generalize u8s n=NC at *
 generalize zObj=ZO at *
 cases hG:getS (es.map (·.st)) n with
 | none=>
   rw [hG] at ha
   have ha:Calls Tryz.prog 44 #[.agg #[.slice A es.length cap], .agg NC] W3 fun e w'=>e = .returned (.int .i64 (-1))∧Below W3.heap.size W3 w':=ha.mono fun e w' ⟨h1,h2⟩=>by
    rcases h1 with ⟨k,x,_,_,hx⟩ | ⟨he,_⟩
    ·cases hx
    ·exact ⟨he,h2⟩
   have ha:=Lib.hid ha
   clear hG hf h heach heach0 hat
   go_enter Tryz.func35,Tryz.ntmps35
   go_wp2_with (first
    | ((with_reducible refine ha.out.mono ?_);rintro e w4 ⟨rfl,hb4⟩
       have b4:=bthen b3 b3.size hb4
       have z4:=z3.below hb4 z3.lt)
    | (refine wpList_store_row rfl 68 (.tmp 4) (.tmp 11) rfl W2.heap.size ZO rfl rfl _ _ z4 (hsz ZO hz72) rfl hzone ?_))
   refine bodyPost_ret (results_cell_row rfl _ _ W2.heap.size _ _ _ _ rfl (setRow_heap _ _ _ _ _ _ z4) Tryz.underlying68 rfl (hsz ZO hz72)) rfl ⟨rfl,zAa b4 hle2 _⟩
 | some y=>
   rw [hG] at ha
   have ha:Calls Tryz.prog 44 #[.agg #[.slice A es.length cap], .agg NC] W3 fun e w'=>(∃ (k:Nat) (x:DiL),e = .returned (.int .i64 k)∧es[k]?=some x∧y=x.st)∧Below W3.heap.size W3 w':=ha.mono fun e w' ⟨h1,h2⟩=>by
    rcases h1 with ⟨k,x,he,hx0,hx⟩ | ⟨_,hx⟩
    ·exact ⟨⟨k,x,he,hx0,by injection hx⟩,h2⟩
    ·cases hx
   have ha:=Lib.hid ha
   clear hG h
   go_enter Tryz.func35,Tryz.ntmps35
   go_wp2_with (first
    | ((with_reducible refine ha.out.mono ?_);rintro e w4 ⟨⟨k,x,rfl,hx,rfl⟩,hb4⟩
       have hlt:=(List.getElem?_eq_some_iff.1 hx).1
       have hk0 : ¬ (k:Int)<0:=by omega
       have hki:(k:Int)<(es.length:Int):=by omega
       obtain ⟨ga,oa,rfl,hga,hca⟩:=hat (by omega)
       have hd:=heach x (List.mem_of_getElem? hx)
       have b4:=bthen b3 b3.size hb4
       have z4:=z3.below hb4 z3.lt
       have ld4:(ldvO ⟨ga,oa+k*105+33,none⟩).run Tryz.prog w4 = .ok (.agg (objC x.o x.ve x.vp).toArray) w4:=run_loadVar_mid (P:=Tryz.prog) w4 ga (oa+k*105+33) 68 (objC x.o x.ve x.vp) _ (dit_obj (zAc (hca k x hx) hga b4) hd.id) Tryz.underlying68 rfl (by rw [zAy hd.val.ok];exact szObj)
       have c4:=(hf w4 (bthen bb3 bb3.size hb4)).1
       obtain ⟨A1,A2,k1,k2,e1,e2⟩:=hd.forms
       have hval:=(heach0 x (List.mem_of_getElem? hx)).val
       rw [e1,e2] at ld4 hval
       have hdx:=Lib.hid hd.dec
       have hc72:(objC x.o (.slice A1 x.o.ents.length k1) (.slice A2 x.o.pars.length k2)).toArray.size=72:=by rw [List.size_toArray,zAy hval.ok]
       have hcone:=zAv x.o A1 A2 x.o.ents.length k1 x.o.pars.length k2
       clear hx hca hat heach heach0 hd hf e1 e2)
    | (refine wpList_store_row rfl 68 (.tmp 4) (.tmp 17) rfl W2.heap.size (objC x.o (.slice A1 x.o.ents.length k1) (.slice A2 x.o.pars.length k2)).toArray rfl rfl _ _ z4 (hsz _ hc72) (hz72.trans hc72.symm) hcone ?_))
   all_goals try (exfalso;omega)
   have bF:=zAa b4 hle2 (objC x.o (.slice A1 x.o.ents.length k1) (.slice A2 x.o.pars.length k2)).toArray
   refine bodyPost_ret (results_cell_row rfl _ _ W2.heap.size _ _ _ _ rfl (setRow_heap _ _ _ _ _ _ z4) Tryz.underlying68 rfl (hsz _ hc72)) rfl ⟨⟨x.o,A1,A2,k1,k2,hdx.out,rfl,hval⟩,bF⟩
theorem zCP (h:DocSt w vm es) (n:Txt) (hn:n.length=32) :
 Calls Tryz.prog 35 #[.agg #[vm], .agg (u8s n)] w fun e w'=>ObjG (es.map (·.st)) n w' e∧Below w.heap.size w w':=(zCK h (Below.refl _ _) n hn).mono fun _ _ ⟨q1,q2⟩=>⟨q1.below q2,q2⟩
end
end
section
attribute [local go_sem ↓] ldvI_eq
def LnkR (V:Nat→Value) (base:Nat) (vo:Value) (acc:List LinkL) (x:LinkL) (i:Nat) (v:Value) (w:World):Prop:=
 if i<14 then v=V i else if i=14 then (∃ b,v = .slice (some ⟨b,0,none⟩) 1 1∧Blk w b 183 (linkC x).toArray∧some b≠vo.ownBlock) else zAE w base v (acc++[x])
section
variable {V:Nat→Value} {base:Nat} {vo:Value} {acc:List LinkL} {x:LinkL} {i:Nat} {v:Value} {w w':World}
theorem lnkR_at (hi:i<14) (h:LnkR V base vo acc x i v w):v=V i:=by unfold LnkR at h;rwa [if_pos hi] at h
theorem lnkR_mk (hi:i<14) (h:v=V i):LnkR V base vo acc x i v w:=by unfold LnkR;rwa [if_pos hi]
theorem lnkR_5 {b:Nat} (h:Blk w b 183 (linkC x).toArray) (hne:some b≠vo.ownBlock):LnkR V base vo acc x 14 (.slice (some ⟨b,0,none⟩) 1 1) w:=by
 unfold LnkR;rw [if_neg (by omega),if_pos rfl];exact ⟨b,rfl,h,hne⟩
theorem lnkR_5at (h:LnkR V base vo acc x 14 v w) : ∃ b,v = .slice (some ⟨b,0,none⟩) 1 1∧Blk w b 183 (linkC x).toArray∧some b≠vo.ownBlock:=by
 unfold LnkR at h;rwa [if_neg (by omega),if_pos rfl] at h
theorem lnkR_own (hi:15≤i) (h:zAE w base v (acc++[x])):LnkR V base vo acc x i v w:=by unfold LnkR;rwa [if_neg (by omega),if_neg (by omega)]
theorem zEi (hi:15≤i) (h:LnkR V base vo acc x i v w):zAE w base v (acc++[x]):=by unfold LnkR at h;rwa [if_neg (by omega),if_neg (by omega)] at h
theorem lnkR_alloc (h:LnkR V base vo acc x i v w) (o:Obj):LnkR V base vo acc x i v (w.alloc o):=by
 by_cases h5:i<14
 ·exact lnkR_mk h5 (lnkR_at h5 h)
 ·by_cases h6:i=14
  ·subst h6
   obtain ⟨b,rfl,h1,h2⟩:=lnkR_5at h
   exact lnkR_5 (h1.alloc o) h2
  ·exact lnkR_own (by omega) (World.ownsRow.alloc (zEi (by omega) h) o)
theorem lnkR_append (hi : ¬ 15≤i) (h:LnkR V base vo acc x i v w) (hg:w.grownBy w' vo.ownBlock):LnkR V base vo acc x i v w':=by
 by_cases h5:i<14
 ·exact lnkR_mk h5 (lnkR_at h5 h)
 ·obtain rfl:i=14:=by omega
  obtain ⟨b,rfl,h1,h2⟩:=lnkR_5at h
  exact lnkR_5 (h1.grown hg h2) h2
end
structure LnkC (w0:World) (vo:Value) (acc:List LinkL) (listed:Array Bool) (w:World):Prop where
 bel:Below w0.heap.size w0 w
 own:listed.getD 15 false=false→zAE w w0.heap.size vo acc
section
variable {w0 w w':World} {vo:Value} {acc:List LinkL} {listed:Array Bool}
theorem LnkC.same (h:LnkC w0 vo acc listed w) {i:Nat} (hsz:listed.size=17) (hi:i<17) (h6:i≠15):LnkC w0 vo acc (listed.setIfInBounds i true) w:=
 ⟨h.bel,fun hl=>h.own (by rwa [zAY (by omega),if_neg (fun e=>h6 e.symm)] at hl)⟩
theorem LnkC.alloc (h:LnkC w0 vo acc listed w) (o:Obj):LnkC w0 vo acc listed (w.alloc o):=⟨h.bel.alloc h.bel.size o,fun hl=>World.ownsRow.alloc (h.own hl) o⟩
theorem LnkC.drew (h:LnkC w0 vo acc listed w):LnkC w0 vo acc listed w.drew:=⟨h.bel.drew,h.own⟩
theorem LnkC.fresh (h:LnkC w0 vo acc listed w) (hl:listed.getD 15 false=false):some w.heap.size≠vo.ownBlock:=fun e=>by
 have:=(World.ownsRow.lt (h.own hl) _ e.symm).2
 omega
theorem LnkC.grown (_:LnkC w0 vo acc listed w) (hsz:listed.size=17) (_:15<17) (_:listed.getD 15 false=false) (hb:Below w0.heap.size w0 w') (_:w.grownBy w' vo.ownBlock):LnkC w0 vo acc (listed.setIfInBounds 15 true) w':=
 ⟨hb,fun hl'=>by rw [zAY (by omega),if_pos rfl] at hl';cases hl'⟩
end
theorem wp_build_linkK {o:Oper} {a:Act} {w:World} {Q:Exit→Act→World→Prop} {K:Act→World→Prop} (x y:Operand) (ho:o.op = .build 183 #[(0,x),(1,y)])
 (id:Txt) (n:Int) (hid:id.length=32) (hx:a.eval x = .agg (u8s id)) (hy:a.eval y = .int .i64 n) (h:K (a.put o.dst (.agg (linkC ⟨id,n⟩).toArray)) w):o.wp Tryz.prog a w K Q:=by
 have hb:=zDa id n hid
 have e:((#[(0,x),(1,y)]:Array (Nat×Operand)).map fun (i,x)=>(i,a.eval x)).toList=[(0, .agg (u8s id)),(1, .int .i64 n)]:=by simp [hx,hy]
 exact wp_build _ _ ho (by rw [e,hb];rfl) (by rw [e,hb];exact h)
theorem zDx (w:World) (r:LinkL) (hr:r.id.length=32):(Instr.buildSlice 180 1 #[(0, .agg (linkC r).toArray)]).run Tryz.prog w = .ok (.slice (some ⟨w.heap.size,0,none⟩) 1 1) (w.alloc (.cells (linkC r).toArray 183)):=by
 obtain ⟨it,hi,hz,hs,hb⟩:=Tryz.linkTy.hi
 refine run_buildSlice w _ _ 1 _ _ it zLink Tryz.underlying180 hi hz (by rw [hs];omega) (by rw [hs];omega) ?_
 rw [hs]
 have:=Great.fill_whole (s:=33) (by omega) [Value.agg (linkC r).toArray] ((Array.range (1*33)).map (zLink.cells[· % zLink.cells.size]!)) (by
  intro v hv
  simp at hv
  subst hv
  show (linkC r).toArray.size=33
  rw [List.size_toArray,linkC_len hr]) (by simp)
 simpa [Value.cells] using this
theorem wp_slice_linkK {o:Oper} {a:Act} {w:World} {Q:Exit→Act→World→Prop} {K:Act→World→Prop} (x:Operand) (ho:o.op = .buildSlice 180 1 #[(0,x)]) (r:LinkL) (hr:r.id.length=32) (hx:a.eval x = .agg (linkC r).toArray)
 (h:K (a.put o.dst (.slice (some ⟨w.heap.size,0,none⟩) 1 1)) (w.alloc (.cells (linkC r).toArray 183))):o.wp Tryz.prog a w K Q:=by
 have e:((#[(0,x)]:Array (Nat×Operand)).map fun (i,x)=>(i,a.eval x)) = #[(0, .agg (linkC r).toArray)]:=by simp [hx]
 have hr':=zDx w r hr
 unfold Oper.wp execOp
 simp only [ho,Sem.run_bind,e,hr',Result.andThen_ok]
 exact h
set_option maxRecDepth 100000 in
set_option maxHeartbeats 4000000 in
theorem zDo (o:ObjL) (hs:Small o) (A1 A2:Option Addr) (k1 k2:Nat) (w:World) (hv:ObjV w (.slice A1 o.ents.length k1) (.slice A2 o.pars.length k2) o):Calls Tryz.prog 142 #[.agg (objC o (.slice A1 o.ents.length k1) (.slice A2 o.pars.length k2)).toArray] w fun e w' => ∃ v',e = .returned v'∧zAE w' w.heap.size v' (linksL o)∧Below w.heap.size w w':=by
 have ho:=hv.ok
 have hO:=boxed (w:=w) (ve := .slice A1 o.ents.length k1) (vp := .slice A2 o.pars.length k2) ho
 have b0:Below w.heap.size w (w.alloc (.cells (objC o (.slice A1 o.ents.length k1) (.slice A2 o.pars.length k2)).toArray 68)):=(Below.refl _ _).alloc (Nat.le_refl _) _
 have hv0:=hv.below b0
 obtain ⟨W0,hW0⟩ : ∃ W0,w.alloc (.cells (objC o (.slice A1 o.ents.length k1) (.slice A2 o.pars.length k2)).toArray 68)=W0:=⟨_,rfl⟩
 rw [hW0] at hO b0 hv0
 have hgW:w.heap.size<W0.heap.size:=by rw [←hW0];simp
 have s0:=b0.size
 have c0:=hO.kind
 have hoE:=Lib.hid ho.ents
 have hoP:=Lib.hid ho.pars
 have htr:=ho.tree
 have hta:=ho.target
 have hen70:=hs.ents
 have hp20:=hs.pars
 have hn0:=zAE.nil W0 W0.heap.size
 obtain ⟨r,hr⟩ : ∃ r,Hid (linksL o=r):=⟨_,Lib.hid rfl⟩
 rw [hr.out]
 clear hv ho hs
 generalize (objC o (.slice A1 o.ents.length k1) (.slice A2 o.pars.length k2)).toArray=cs at *
 by_cases h2:o.kind=2
 ·have hrr:Hid (zBy o.ents=r):=by show _=_;rw [←links_two h2];exact hr.out
  rw [h2] at c0
  have c2:=hO.ents
  have hat:Hid (0<o.ents.length → ∃ g os,A1=some ⟨g,os,none⟩∧g<W0.heap.size ∧ ∀ i x,o.ents[i]?=some x→W0.rangeAt g (os+i*34) (entC x)):=by
   obtain ⟨A,cap,he,_,_,h⟩:=hv0.ents
   injection he with he _ _
   subst he
   exact h
  have hk2:=h2
  clear hr h2 hv0
  go_enter Tryz.func142,Tryz.ntmps142
  go_wp2
  go_loopw [3,4] (fun vo vi wr => ∃ k:Nat,vi = .int .i64 k∧k≤o.ents.length∧zAE wr W0.heap.size vo (zBy (o.ents.take k))∧Below W0.heap.size W0 wr) (fun _ vi _=>o.ents.length-(intOf vi).toNat)
  case atStart=>exact ⟨0,rfl,by omega,hn0,Below.refl _ _⟩
  case round=>
   obtain ⟨k,rfl,hk,hown,hbel⟩:=hrel
   have hsz:=hbel.size
   have hOr:=hO.under hbel hgW
   have d2:=hOr.ents
   clear hW0
   by_cases hlt:k<o.ents.length
   ·have hki:(k:Int)<(o.ents.length:Int):=by omega
    obtain ⟨gs,os,rfl,hgs,hcell⟩:=hat.out (by omega)
    obtain ⟨x,hx⟩ : ∃ x,o.ents[k]?=some x:=⟨_,List.getElem?_eq_getElem hlt⟩
    have hxok:EntOk x:=hoE.out x (List.mem_of_getElem? hx)
    have hx0:=zAc (hcell k x hx) hgs hbel
    have hst:=Lib.hid (entLinks_take hx)
    have hln:(zBy (o.ents.take k)).length≤k:=by unfold zBy;rw [List.length_map,List.length_take];omega
    generalize zBy (o.ents.take k)=L at *
    have hx32:=hxok.id
    have hcs:=zCr (l:=⟨x.id,x.kind⟩) hx32
    have hc1:=zBZ ⟨x.id,x.kind⟩
    have m1:L.length+1≤9223372036854775807:=by omega
    have m2:(L.length+1)*40≤140737488355328:=by omega
    have hc33:(linkC ⟨x.id,x.kind⟩).toArray.size=33:=by rw [hcs]
    obtain ⟨vA,kA,rfl⟩:=zAl hown
    have hx00:=hcell k x hx
    obtain ⟨g,hg⟩ : ∃ g,w.heap.size=g:=⟨_,rfl⟩
    have hC0 : ∀ n,LnkC W0 (.slice vA L.length kA) L (Array.replicate n false) wr:=fun n=>⟨hbel,fun _=>hown⟩
    simp only [hg] at hO hgW d2 ⊢
    clear hx hat hcell hoE hoP hown hx0 hcs hc1 hc33 hOr hbel hsz hrr c2 c0 hn0
    go_wp2
    obtain ⟨V,hV⟩ : ∃ V:Nat→Value,V=fun i=>[(.slice vA L.length kA),(.pointer (some ⟨g,2,none⟩)),(.slice (some ⟨gs,os,none⟩) o.ents.length k1),(.int .i64 k),(.pointer (some ⟨gs,os+k*34,none⟩)),(.pointer (some ⟨gs,os+k*34+2,none⟩)),(.agg (u8s x.id)),(.pointer (some ⟨g,2,none⟩)),(.slice (some ⟨gs,os,none⟩) o.ents.length k1),(.int .i64 k),(.pointer (some ⟨gs,os+k*34,none⟩)),(.pointer (some ⟨gs,os+k*34+1,none⟩)),(.int .i64 x.kind),(.agg (linkC ⟨x.id,x.kind⟩).toArray),undef,undef,undef].getD i undef:=⟨_,rfl⟩
    have v0:V 0=(.slice vA L.length kA):=by rw [hV];rfl
    have v1:V 1=(.pointer (some ⟨g,2,none⟩)):=by rw [hV];rfl
    have v2:V 2=(.slice (some ⟨gs,os,none⟩) o.ents.length k1):=by rw [hV];rfl
    have v3:V 3=(.int .i64 k):=by rw [hV];rfl
    have v4:V 4=(.pointer (some ⟨gs,os+k*34,none⟩)):=by rw [hV];rfl
    have v5:V 5=(.pointer (some ⟨gs,os+k*34+2,none⟩)):=by rw [hV];rfl
    have v6:V 6=(.agg (u8s x.id)):=by rw [hV];rfl
    have v7:V 7=(.pointer (some ⟨g,2,none⟩)):=by rw [hV];rfl
    have v8:V 8=(.slice (some ⟨gs,os,none⟩) o.ents.length k1):=by rw [hV];rfl
    have v9:V 9=(.int .i64 k):=by rw [hV];rfl
    have v10:V 10=(.pointer (some ⟨gs,os+k*34,none⟩)):=by rw [hV];rfl
    have v11:V 11=(.pointer (some ⟨gs,os+k*34+1,none⟩)):=by rw [hV];rfl
    have v12:V 12=(.int .i64 x.kind):=by rw [hV];rfl
    have v13:V 13=(.agg (linkC ⟨x.id,x.kind⟩).toArray):=by rw [hV];rfl
    clear hV
    refine zAR (C:=LnkC W0 (.slice vA L.length kA) L) (R:=LnkR V W0.heap.size (.slice vA L.length kA) L ⟨x.id,x.kind⟩) (by kernel_rfl) (by kernel_rfl) (by kernel_rfl) ?_ (hC0 _).drew ?_ ?_
    ·exact zAV (n:=69) (by kernel_rfl)
    ·intro i o listed a w1 ho hi hL
     have hin:=(zAt hi).1
     have hsz:listed.size=17:=hL.size
     match i,ho with
     | 0,ho=>
       obtain rfl:=(Option.some.inj ho).symm
       have e0:a.tmps[3]?.getD undef=(.slice vA L.length kA):=(zAf a 3).trans (hL.get_old hi (by kernel_rfl))
       have hc:=hL.cls
       refine step_wp rfl rfl ?_
       clear ho hL
       refine wp_val (v:=(.slice vA L.length kA)) ?_ ⟨_,rfl,lnkR_mk (by omega) v0.symm,hc.same hsz hin (by omega),fun _ _ _ h=>h⟩
       clear hi hin hsz v0 v1 v2 v3 v4 v5 v6 v7 v8 v9 v10 v11 v12 v13  hc
       unfold execOp
       go_simp
     | 1,ho=>
       obtain rfl:=(Option.some.inj ho).symm
       have e0:a.tmps[1]?.getD undef=(.pointer (some ⟨g,0,none⟩)):=(zAf a 1).trans (hL.get_old hi (by kernel_rfl))
       have hc:=hL.cls
       refine step_wp rfl rfl ?_
       clear ho hL
       refine wp_val (v:=(.pointer (some ⟨g,2,none⟩))) ?_ ⟨_,rfl,lnkR_mk (by omega) v1.symm,hc.same hsz hin (by omega),fun _ _ _ h=>h⟩
       clear hi hin hsz v0 v1 v2 v3 v4 v5 v6 v7 v8 v9 v10 v11 v12 v13  hc
       unfold execOp
       go_simp
     | 2,ho=>
       obtain rfl:=(Option.some.inj ho).symm
       have e0:a.tmps[17]?.getD undef=(.pointer (some ⟨g,2,none⟩)):=(zAf a 17).trans ((lnkR_at (by omega) (hL.get_new (j:=1) hi (by kernel_rfl))).trans v1)
       have hc:=hL.cls
       refine step_wp rfl rfl ?_
       clear ho hL
       refine wp_val (v:=(.slice (some ⟨gs,os,none⟩) o.ents.length k1)) ?_ ⟨_,rfl,lnkR_mk (by omega) v2.symm,hc.same hsz hin (by omega),fun _ _ _ h=>h⟩
       have q2:=(hO.under hc.bel hgW).ents
       clear hi hin hsz v0 v1 v2 v3 v4 v5 v6 v7 v8 v9 v10 v11 v12 v13  hc
       unfold execOp
       go_simp
     | 3,ho=>
       obtain rfl:=(Option.some.inj ho).symm
       have e0:a.tmps[4]?.getD undef=(.int .i64 k):=(zAf a 4).trans (hL.get_old hi (by kernel_rfl))
       have hc:=hL.cls
       refine step_wp rfl rfl ?_
       clear ho hL
       refine wp_val (v:=(.int .i64 k)) ?_ ⟨_,rfl,lnkR_mk (by omega) v3.symm,hc.same hsz hin (by omega),fun _ _ _ h=>h⟩
       clear hi hin hsz v0 v1 v2 v3 v4 v5 v6 v7 v8 v9 v10 v11 v12 v13  hc
       unfold execOp
       go_simp
     | 4,ho=>
       obtain rfl:=(Option.some.inj ho).symm
       have e0:a.tmps[18]?.getD undef=(.slice (some ⟨gs,os,none⟩) o.ents.length k1):=(zAf a 18).trans ((lnkR_at (by omega) (hL.get_new (j:=2) hi (by kernel_rfl))).trans v2)
       have e1:a.tmps[19]?.getD undef=(.int .i64 k):=(zAf a 19).trans ((lnkR_at (by omega) (hL.get_new (j:=3) hi (by kernel_rfl))).trans v3)
       have hc:=hL.cls
       refine step_wp rfl rfl ?_
       clear ho hL
       refine wp_val (v:=(.pointer (some ⟨gs,os+k*34,none⟩))) ?_ ⟨_,rfl,lnkR_mk (by omega) v4.symm,hc.same hsz hin (by omega),fun _ _ _ h=>h⟩
       clear hi hin hsz v0 v1 v2 v3 v4 v5 v6 v7 v8 v9 v10 v11 v12 v13  hc
       unfold execOp
       go_simp
     | 5,ho=>
       obtain rfl:=(Option.some.inj ho).symm
       have e0:a.tmps[20]?.getD undef=(.pointer (some ⟨gs,os+k*34,none⟩)):=(zAf a 20).trans ((lnkR_at (by omega) (hL.get_new (j:=4) hi (by kernel_rfl))).trans v4)
       have hc:=hL.cls
       refine step_wp rfl rfl ?_
       clear ho hL
       refine wp_val (v:=(.pointer (some ⟨gs,os+k*34+2,none⟩))) ?_ ⟨_,rfl,lnkR_mk (by omega) v5.symm,hc.same hsz hin (by omega),fun _ _ _ h=>h⟩
       clear hi hin hsz v0 v1 v2 v3 v4 v5 v6 v7 v8 v9 v10 v11 v12 v13  hc
       unfold execOp
       go_simp
     | 6,ho=>
       obtain rfl:=(Option.some.inj ho).symm
       have e0:a.tmps[21]?.getD undef=(.pointer (some ⟨gs,os+k*34+2,none⟩)):=(zAf a 21).trans ((lnkR_at (by omega) (hL.get_new (j:=5) hi (by kernel_rfl))).trans v5)
       have hc:=hL.cls
       refine step_wp rfl rfl ?_
       clear ho hL
       refine wp_val (v:=(.agg (u8s x.id))) ?_ ⟨_,rfl,lnkR_mk (by omega) v6.symm,hc.same hsz hin (by omega),fun _ _ _ h=>h⟩
       have q2:=zAb (range_entId (zAc hx00 hgs hc.bel)) hx32
       clear hi hin hsz v0 v1 v2 v3 v4 v5 v6 v7 v8 v9 v10 v11 v12 v13  hc
       unfold execOp
       go_simp
     | 7,ho=>
       obtain rfl:=(Option.some.inj ho).symm
       have e0:a.tmps[1]?.getD undef=(.pointer (some ⟨g,0,none⟩)):=(zAf a 1).trans (hL.get_old hi (by kernel_rfl))
       have hc:=hL.cls
       refine step_wp rfl rfl ?_
       clear ho hL
       refine wp_val (v:=(.pointer (some ⟨g,2,none⟩))) ?_ ⟨_,rfl,lnkR_mk (by omega) v7.symm,hc.same hsz hin (by omega),fun _ _ _ h=>h⟩
       clear hi hin hsz v0 v1 v2 v3 v4 v5 v6 v7 v8 v9 v10 v11 v12 v13  hc
       unfold execOp
       go_simp
     | 8,ho=>
       obtain rfl:=(Option.some.inj ho).symm
       have e0:a.tmps[23]?.getD undef=(.pointer (some ⟨g,2,none⟩)):=(zAf a 23).trans ((lnkR_at (by omega) (hL.get_new (j:=7) hi (by kernel_rfl))).trans v7)
       have hc:=hL.cls
       refine step_wp rfl rfl ?_
       clear ho hL
       refine wp_val (v:=(.slice (some ⟨gs,os,none⟩) o.ents.length k1)) ?_ ⟨_,rfl,lnkR_mk (by omega) v8.symm,hc.same hsz hin (by omega),fun _ _ _ h=>h⟩
       have q2:=(hO.under hc.bel hgW).ents
       clear hi hin hsz v0 v1 v2 v3 v4 v5 v6 v7 v8 v9 v10 v11 v12 v13  hc
       unfold execOp
       go_simp
     | 9,ho=>
       obtain rfl:=(Option.some.inj ho).symm
       have e0:a.tmps[4]?.getD undef=(.int .i64 k):=(zAf a 4).trans (hL.get_old hi (by kernel_rfl))
       have hc:=hL.cls
       refine step_wp rfl rfl ?_
       clear ho hL
       refine wp_val (v:=(.int .i64 k)) ?_ ⟨_,rfl,lnkR_mk (by omega) v9.symm,hc.same hsz hin (by omega),fun _ _ _ h=>h⟩
       clear hi hin hsz v0 v1 v2 v3 v4 v5 v6 v7 v8 v9 v10 v11 v12 v13  hc
       unfold execOp
       go_simp
     | 10,ho=>
       obtain rfl:=(Option.some.inj ho).symm
       have e0:a.tmps[24]?.getD undef=(.slice (some ⟨gs,os,none⟩) o.ents.length k1):=(zAf a 24).trans ((lnkR_at (by omega) (hL.get_new (j:=8) hi (by kernel_rfl))).trans v8)
       have e1:a.tmps[25]?.getD undef=(.int .i64 k):=(zAf a 25).trans ((lnkR_at (by omega) (hL.get_new (j:=9) hi (by kernel_rfl))).trans v9)
       have hc:=hL.cls
       refine step_wp rfl rfl ?_
       clear ho hL
       refine wp_val (v:=(.pointer (some ⟨gs,os+k*34,none⟩))) ?_ ⟨_,rfl,lnkR_mk (by omega) v10.symm,hc.same hsz hin (by omega),fun _ _ _ h=>h⟩
       clear hi hin hsz v0 v1 v2 v3 v4 v5 v6 v7 v8 v9 v10 v11 v12 v13  hc
       unfold execOp
       go_simp
     | 11,ho=>
       obtain rfl:=(Option.some.inj ho).symm
       have e0:a.tmps[26]?.getD undef=(.pointer (some ⟨gs,os+k*34,none⟩)):=(zAf a 26).trans ((lnkR_at (by omega) (hL.get_new (j:=10) hi (by kernel_rfl))).trans v10)
       have hc:=hL.cls
       refine step_wp rfl rfl ?_
       clear ho hL
       refine wp_val (v:=(.pointer (some ⟨gs,os+k*34+1,none⟩))) ?_ ⟨_,rfl,lnkR_mk (by omega) v11.symm,hc.same hsz hin (by omega),fun _ _ _ h=>h⟩
       clear hi hin hsz v0 v1 v2 v3 v4 v5 v6 v7 v8 v9 v10 v11 v12 v13  hc
       unfold execOp
       go_simp
     | 12,ho=>
       obtain rfl:=(Option.some.inj ho).symm
       have e0:a.tmps[27]?.getD undef=(.pointer (some ⟨gs,os+k*34+1,none⟩)):=(zAf a 27).trans ((lnkR_at (by omega) (hL.get_new (j:=11) hi (by kernel_rfl))).trans v11)
       have hc:=hL.cls
       refine step_wp rfl rfl ?_
       clear ho hL
       refine wp_val (v:=(.int .i64 x.kind)) ?_ ⟨_,rfl,lnkR_mk (by omega) v12.symm,hc.same hsz hin (by omega),fun _ _ _ h=>h⟩
       have q2:=(zAA (zAc hx00 hgs hc.bel)).2
       clear hi hin hsz v0 v1 v2 v3 v4 v5 v6 v7 v8 v9 v10 v11 v12 v13  hc
       unfold execOp
       go_simp
     | 13,ho=>
       obtain rfl:=(Option.some.inj ho).symm
       have e0:a.tmps[22]?.getD undef=(.agg (u8s x.id)):=(zAf a 22).trans ((lnkR_at (by omega) (hL.get_new (j:=6) hi (by kernel_rfl))).trans v6)
       have e1:a.tmps[28]?.getD undef=(.int .i64 x.kind):=(zAf a 28).trans ((lnkR_at (by omega) (hL.get_new (j:=12) hi (by kernel_rfl))).trans v12)
       have hc:=hL.cls
       refine step_wp rfl rfl ?_
       refine wp_build_linkK (.tmp 22) (.tmp 28) rfl x.id x.kind hx32 ((zAf a 22).symm.trans e0) ((zAf a 28).symm.trans e1) ⟨_,rfl,lnkR_mk (by omega) v13.symm,hc.same hsz hin (by omega),fun _ _ _ h=>h⟩
     | 14,ho=>
       obtain rfl:=(Option.some.inj ho).symm
       have e0:a.tmps[29]?.getD undef=(.agg (linkC ⟨x.id,x.kind⟩).toArray):=(zAf a 29).trans ((lnkR_at (by omega) (hL.get_new (j:=13) hi (by kernel_rfl))).trans v13)
       have hc:=hL.cls
       have hl6:=hL.later (j:=15) hi (by kernel_rfl)
       clear ho hL
       refine step_wp rfl rfl ?_
       refine wp_slice_linkK (.tmp 29) rfl ⟨x.id,x.kind⟩ hx32 ((zAf a 29).symm.trans e0) ⟨_,rfl,lnkR_5 (Blk.new _ _ _) (hc.fresh hl6),(hc.same hsz hin (by omega)).alloc _,fun j u _ h=>lnkR_alloc h _⟩
     | 15,ho=>
       obtain rfl:=(Option.some.inj ho).symm
       have e0:a.tmps[16]?.getD undef=(.slice vA L.length kA):=(zAf a 16).trans ((lnkR_at (by omega) (hL.get_new (j:=0) hi (by kernel_rfl))).trans v0)
       have e1:=hL.get_new (j:=14) (t:=30) hi (by kernel_rfl)
       have hc:=hL.cls
       have hl6:listed.getD 15 false=false:=by rw [zAw (by rw [hsz];exact hin)];exact (zAt hi).2.1
       have hl7:=hL.later (j:=16) hi (by kernel_rfl)
       obtain ⟨b5,h5,hb5,hne5⟩:=lnkR_5at e1
       clear ho hL
       refine step_wp rfl rfl ?_
       refine zDZ (.tmp 16) (.tmp 30) 180 rfl _ _ 33 40 Tryz.linkTy W0.heap.size (.slice vA L.length kA) L.length (rowsOf linkC L) ((zAf a 16).symm.trans e0) (hc.own hl6) b5 1 1 _ _ h5 hb5 (zCr hx32) (zBZ _) m1 m2 W0 hc.bel hc.bel.size ?_
       intro v6 w6 hown6 hbel6 hg6
       refine ⟨_,rfl,lnkR_own (by omega) (zAE.more hown6),hc.grown hsz hin hl6 hbel6 hg6,fun j u hj h=>lnkR_append ?_ h hg6⟩
       intro hj6
       have:j=15∨j=16∨17≤j:=by omega
       rcases this with rfl | rfl | h8
       ·rw [hl6] at hj;cases hj
       ·rw [hl7] at hj;cases hj
       ·simp [Array.getD,hsz,show ¬ j<17 by omega] at hj
     | 16,ho=>
       obtain rfl:=(Option.some.inj ho).symm
       have e0:=hL.get_new (j:=15) (t:=31) hi (by kernel_rfl)
       have hc:=hL.cls
       clear ho hL
       refine step_wp rfl rfl ?_
       have e1:a.tmps[31]?.getD undef=a.eval (.tmp 31):=zAf a 31
       generalize a.eval (.tmp 31)=z6 at e0 e1
       refine wp_val (v:=z6) ?_ ⟨_,rfl,lnkR_own (by omega) (zEi (by omega) e0),hc.same hsz hin (by omega),fun _ _ _ h=>h⟩
       clear hc hi hin hsz v0 v1 v2 v3 v4 v5 v6 v7 v8 v9 v10 v11 v12 v13 e0
       unfold execOp
       go_simp
     | (n+17),ho=>exact absurd hin (by simp)
    ·intro a w1 listed hL hall
     have hc:=hL.cls
     obtain ⟨vs,rfl,hR⟩:=hL.frame (by kernel_rfl) (zAV (n:=69) (by kernel_rfl)) hall
     simp only [putAll,Act.put,List.setIfInBounds_toArray,List.set_cons_zero,List.set_cons_succ]
     simp only [Nat.zero_add,Nat.reduceAdd]
     have h16:=zEi (by omega) (hR 16 _ 3 rfl rfl)
     have bel3:=hc.bel
     generalize vs 16=v3 at *
     have hmv4:zAE w1 W0.heap.size v3 (zBy (o.ents.take (k+1))):=by rw [hst.out];exact h16
     clear h16 hst m1 m2 hR hL
     go_wp2
     go_roundw
     case rel=>exact ⟨k+1,by go_num,by omega,hmv4,bel3⟩
     case measure=>simp [intOf];omega
   ·have hki : ¬ (k:Int)<(o.ents.length:Int):=by omega
    have he:Hid (zBy (o.ents.take k)=r):=by show _=_;rw [List.take_of_length_le (by omega)];exact hrr.out
    rw [he.out] at hown
    have d0:=hOr.kind
    rw [hk2] at d0
    clear hat hoE hoP he hrr
    go_wp2
    go_ret
    exact ⟨_,rfl,own_low hown (by omega),b0.trans (hbel.mono s0)⟩
 by_cases h3:o.kind=3
 ·have hrr:Hid (⟨o.tree,2⟩::zA7 o.pars=r):=by show _=_;rw [←zDu h3];exact hr.out
  rw [h3] at c0
  have hat:Hid (0<o.pars.length → ∃ g os,A2=some ⟨g,os,none⟩∧g<W0.heap.size ∧ ∀ i x,o.pars[i]?=some x→W0.rangeAt g (os+i*32) (idC x)):=by
   obtain ⟨A,cap,he,_,_,h⟩:=hv0.pars
   injection he with he _ _
   subst he
   exact h
  have hbd:=zDa o.tree 2 htr
  have hcs:=zCr (l:=⟨o.tree,2⟩) htr
  have hc1:=zBZ ⟨o.tree,2⟩
  have hc33:(linkC ⟨o.tree,2⟩).toArray.size=33:=by rw [hcs]
  have hti:=hO.tree
  have hk3:=h3
  have m1:([]:List LinkL).length+1≤9223372036854775807:=by simp
  have m2:(([]:List LinkL).length+1)*40≤140737488355328:=by simp
  clear hr h2 h3 hv0
  go_enter Tryz.func142,Tryz.ntmps142
  go_wp2_with (first
   | ((with_reducible refine zCJ (.tmp 36) w.heap.size 3 o.tree htr hti ?_ ?_);rfl)
   | ((with_reducible refine zDh hbd ?_ ?_ ?_);rfl;rfl)
   | ((with_reducible refine zAq (.tmp 38) Tryz.linkTy (linkC ⟨o.tree,2⟩).toArray hc33 (by omega) ?_ ?_);rfl)
   | (at_builtin
      (with_reducible refine zAn (.tmp 35) (.tmp 39) 1 _ Tryz.linkTy hn0 (linkC ⟨o.tree,2⟩).toArray hcs hc1 m1 m2 (Nat.le_refl _) ?_ ?_ ?_);rfl;rfl
      intro v3 w3 hv3 hbv3 hgv3 hnv3
      have hmv3:zAE w3 W0.heap.size v3 [⟨o.tree,2⟩]:=zAE.more (o:=[]) hv3
      have hO3:=hO.under hbv3 hgW
      obtain ⟨vA,kA,rfl⟩:=zAl hmv3
      clear hgv3 hnv3 hv3))
  have s3:=hbv3.size
  clear hW0 c0 hti hbd hcs hc1 hc33 m1 m2 hO3
  go_loopw [3,5] (fun vo vi wr => ∃ k:Nat,vi = .int .i64 k∧k≤o.pars.length∧zAE wr W0.heap.size vo (⟨o.tree,2⟩::zA7 (o.pars.take k))∧Below W0.heap.size W0 wr) (fun _ vi _=>o.pars.length-(intOf vi).toNat)
  case atStart=>exact ⟨0,rfl,by omega,hmv3,hbv3⟩
  case round=>
   obtain ⟨k,rfl,hk,hown,hbel⟩:=hrel
   have hsz:=hbel.size
   have hOr:=hO.under hbel hgW
   have d35:=hOr.pars
   have d0:=hOr.kind
   rw [hk3] at d0
   clear hmv3
   by_cases hlt:k<o.pars.length
   ·have hki:(k:Int)<(o.pars.length:Int):=by omega
    obtain ⟨gs,os,rfl,hgs,hcell⟩:=hat.out (by omega)
    obtain ⟨x,hx⟩ : ∃ x,o.pars[k]?=some x:=⟨_,List.getElem?_eq_getElem hlt⟩
    have hx32:x.length=32:=hoP.out x (List.mem_of_getElem? hx)
    have hx0:wr.rangeAt gs (os+k*32) (u8s x).toList:=zAc (hcell k x hx) hgs hbel
    have hst:Hid ((⟨o.tree,2⟩::zA7 (o.pars.take (k+1)):List LinkL)=(⟨o.tree,2⟩::zA7 (o.pars.take k))++[⟨x,3⟩]):=by show _=_;rw [parLinks_take hx];simp
    have hln:((⟨o.tree,2⟩::zA7 (o.pars.take k):List LinkL)).length≤k+1:=by unfold zA7;rw [List.length_cons,List.length_map,List.length_take];omega
    generalize (⟨o.tree,2⟩::zA7 (o.pars.take k):List LinkL)=L at *
    have hbd:=zDa x 3 hx32
    have hcs:=zCr (l:=⟨x,3⟩) hx32
    have hc1:=zBZ ⟨x,3⟩
    have m1:L.length+1≤9223372036854775807:=by omega
    have m2:(L.length+1)*40≤140737488355328:=by omega
    have hc33:(linkC ⟨x,3⟩).toArray.size=33:=by rw [hcs]
    obtain ⟨vB,kB,rfl⟩:=zAl hown
    clear hx hat hcell hoE hoP
    go_wp2_with (first
     | ((with_reducible refine zCJ (.tmp 52) gs (os+k*32) x hx32 hx0 ?_ ?_);rfl)
     | ((with_reducible refine zDh hbd ?_ ?_ ?_);rfl;rfl)
     | ((with_reducible refine zAq (.tmp 54) Tryz.linkTy (linkC ⟨x,3⟩).toArray hc33 (by omega) ?_ ?_);rfl)
     | (at_builtin
        (with_reducible refine zAn (.tmp 48) (.tmp 55) 1 _ Tryz.linkTy hown (linkC ⟨x,3⟩).toArray hcs hc1 m1 m2 hsz ?_ ?_ ?_);rfl;rfl
        intro v5 w5 hv5 hbv5 hgv5 hnv5
        have hmv5:zAE w5 W0.heap.size v5 (L++[⟨x,3⟩]):=zAE.more hv5
        have bel5:=hbel.trans hbv5
        clear hgv5 hnv5 hv5))
    have hmv6:zAE w5 W0.heap.size v5 (⟨o.tree,2⟩::zA7 (o.pars.take (k+1))):=by rw [hst.out];exact hmv5
    clear hmv5 hst m1 m2
    go_roundw
    case rel=>exact ⟨k+1,by go_num,by omega,hmv6,bel5⟩
    case measure=>simp [intOf];omega
   ·have hki : ¬ (k:Int)<(o.pars.length:Int):=by omega
    have he:Hid ((⟨o.tree,2⟩::zA7 (o.pars.take k):List LinkL)=r):=by show _=_;rw [List.take_of_length_le (by omega)];exact hrr.out
    rw [he.out] at hown
    clear hat hoE hoP he hrr
    go_wp2
    go_ret
    exact ⟨_,rfl,own_low hown (by omega),b0.trans (hbel.mono s0)⟩
 by_cases h4:o.kind=4
 ·have hrr:Hid (([⟨o.target,o.of_⟩]:List LinkL)=r):=by show _=_;rw [←links_four h4];exact hr.out
  rw [h4] at c0
  have hbd:=zDa o.target o.of_ hta
  have hcs:=zCr (l:=⟨o.target,o.of_⟩) hta
  have hc1:=zBZ ⟨o.target,o.of_⟩
  have hc33:(linkC ⟨o.target,o.of_⟩).toArray.size=33:=by rw [hcs]
  have hti:=hO.target
  have c70:=hO.of_
  have m1:([]:List LinkL).length+1≤9223372036854775807:=by simp
  have m2:(([]:List LinkL).length+1)*40≤140737488355328:=by simp
  clear hr h2 h3 h4 hv0 hO
  go_enter Tryz.func142,Tryz.ntmps142
  go_wp2_with (first
   | ((with_reducible refine zCJ (.tmp 61) w.heap.size 38 o.target hta hti ?_ ?_);rfl)
   | ((with_reducible refine zDh hbd ?_ ?_ ?_);rfl;rfl)
   | ((with_reducible refine zAq (.tmp 65) Tryz.linkTy (linkC ⟨o.target,o.of_⟩).toArray hc33 (by omega) ?_ ?_);rfl)
   | (at_builtin
      (with_reducible refine zAn (.tmp 60) (.tmp 66) 1 _ Tryz.linkTy hn0 (linkC ⟨o.target,o.of_⟩).toArray hcs hc1 m1 m2 (Nat.le_refl _) ?_ ?_ ?_);rfl;rfl
      intro v3 w3 hv3 hbv3 hgv3 hnv3
      have hmv3:zAE w3 W0.heap.size v3 [⟨o.target,o.of_⟩]:=zAE.more (o:=[]) hv3
      obtain ⟨vA,kA,rfl⟩:=zAl hmv3
      clear hgv3 hnv3 hv3))
  have hmv4:zAE w3 W0.heap.size (.slice vA 1 kA) r:=by rw [←hrr.out];exact hmv3
  clear hmv3
  go_ret
  exact ⟨_,rfl,own_low hmv4 (by omega),b0.trans (hbv3.mono s0)⟩
 have hrr:Hid (([]:List LinkL)=r):=by show _=_;rw [←links_none h2 h3 h4];exact hr.out
 have e2:(o.kind==2)=false:=by rw [beq_eq_false_iff_ne];exact h2
 have e3:(o.kind==3)=false:=by rw [beq_eq_false_iff_ne];exact h3
 have e4:(o.kind==4)=false:=by rw [beq_eq_false_iff_ne];exact h4
 rw [hrr.out] at hn0
 clear hr hO hv0
 go_enter Tryz.func142,Tryz.ntmps142
 go_wp2
 go_ret
 exact ⟨_,rfl,own_low hn0 (by omega),b0⟩
end
end Go.Proofs.YtbcbmjdmlcldjaaGreatDoor
