/- Texts of this claim, laid together: GsP, RdD, RdE, GsW, StoO, GraM, GraR, DocW. -/
import Derived.Test.YtlojebhcemfodaaGreatDoorMf
namespace Go.Proofs.YtlojebhcemfodaaGreatDoor
open Go.RowKit
def idG (s:Txt):Txt:=s.take 32++List.replicate (32-s.length) 0
theorem idG_len (s:Txt):(idG s).length=32:=by unfold idG;simp;omega
def gEnt (d:UInt8) (t:Txt):EntL:=⟨(takeN t).1,d.toNat,idG (t.drop (takeN t).2)⟩
def gTree : Nat→Txt→List EntL→List EntL
 | f+1,d::t,acc=>gTree f ((t.drop (takeN t).2).drop 32) (acc++[gEnt d t])
 | _,_,acc=>acc
def gPars : Nat→Txt→List Txt→List Txt×Txt
 | 0,t,acc=>(acc,t)
 | n+1,t,acc=>gPars n (t.drop 32) (acc++[idG t])
def gCommit (t:Txt):ObjL:=
 let a:=t.drop 32
 let b:=a.drop (getN a).2
 let p:=gPars (min (getN a).1 9) b []
 ⟨3,[],[],idG t,p.1,(getN p.2).1%4294967296,(takeN (p.2.drop (getN p.2).2)).1,noId,0,[]⟩
def gTag (t:Txt):ObjL:=⟨4,[],[],noId,[],0,[],idG (t.drop 1),(t.headD 0).toNat,(takeN ((t.drop 1).drop 32)).1⟩
def zeroO : ObjL:=⟨0,[],[],noId,[],0,[],noId,0,[]⟩
def guessB (k:Nat) (t:Txt):ObjL:=if k=1 then ⟨1,t,[],noId,[],0,[],noId,0,[]⟩ else if k=2 then ⟨2,[],gTree 65 t [],noId,[],0,[],noId,0,[]⟩ else if k=3 then gCommit t else if k=4 then gTag t else nObj k
/-- The object that bytes may be the encoding of. -/
def guessL (c:UInt8) (q:Txt):ObjL:=if (takeN q).2=0 then zeroO else guessB c.toNat (takeN q).1
theorem put_pos (n:Nat):0<(put n).length:=putF_pos 9 n
theorem getN_app (n:Nat) (hn:n≤18446744073709551615) (b:Txt):getN (put n++b)=(n,(put n).length):=by unfold getN;rw [get_put n hn b];rfl
theorem takeN_app (t b:Txt) (ht:t.length≤18446744073709551615):takeN (textE t++b)=(t,(textE t).length):=by
 have hg:getN (textE t++b)=(t.length,(put t.length).length):=by
  unfold textE
  rw [List.append_assoc,getN_app _ ht]
 have hp:=put_pos t.length
 unfold takeN
 rw [hg]
 simp only
 rw [if_neg]
 ·unfold textE
  rw [List.append_assoc,List.drop_left,List.take_left,List.length_append]
 ·unfold textE
  simp only [List.length_append]
  omega
theorem idG_app (i b:Txt) (hi:i.length=32):idG (i++b)=i:=by
 unfold idG
 rw [show 32-(i++b).length=0 from by simp;omega,←hi,List.take_left]
 simp
theorem drop32 (i b:Txt) (hi:i.length=32):(i++b).drop 32=b:=by rw [←hi,List.drop_left]
theorem gTree_app : ∀ (l:List EntL) (f:Nat) (acc:List EntL),(∀ e∈l,(e.kind=1∨e.kind=2)∧e.id.length=32∧e.name.length≤18446744073709551615)→l.length≤f→gTree f (entsE l) acc=acc++l
 | [],0,acc,_,_=>by simp [gTree]
 | [],f+1,acc,_,_=>by simp [gTree,entsE]
 | e::l,0,acc,_,hf=>by simp at hf
 | e::l,f+1,acc,h,hf=>by
   obtain ⟨h1,h2,h3⟩:=h e (by simp)
   have he:entsE (e::l)=byteK e.kind::(textE e.name++(e.id++entsE l)):=by simp [entsE,entE]
   have ht:=takeN_app e.name (e.id++entsE l) h3
   rw [he,gTree,gEnt,ht]
   simp only [List.drop_left]
   rw [drop32 e.id _ h2,idG_app e.id _ h2,gTree_app l f _ (fun x hx=>h x (by simp [hx])) (by simp at hf;omega)]
   have:=byteK_nat (k:=e.kind) (by omega) (by omega)
   rw [this]
   simp
theorem gPars_app (b:Txt) : ∀ (l:List Txt) (acc:List Txt),(∀ p∈l,p.length=32)→gPars l.length (l.flatten++b) acc=(acc++l,b)
 | [],acc,_=>by simp [gPars]
 | p::l,acc,h=>by
   have hp:=h p (by simp)
   rw [List.length_cons,gPars,List.flatten_cons,List.append_assoc,idG_app p _ hp,drop32 p _ hp,gPars_app b l _ (fun x hx=>h x (by simp [hx]))]
   simp
theorem guess_enc (o:ObjL) (hm:mayB o=true) (hs:Sound o) (hl:(bodyO o).length≤4096):guessB (byteK o.kind).toNat (bodyO o)=o:=by
 obtain ⟨htr,hta,he,hp,htm⟩:=hs
 have ha:=may_alone hm
 unfold aloneB at ha
 rcases may_kind hm with hk | hk | hk | hk
 ·rw [hk] at ha
  simp at ha
  obtain ⟨c1,c2,c3,c4⟩:=commit_all ha.1.2
  obtain ⟨t1,t2,t3⟩:=tag_all ha.2
  have e1:=tree_nil ha.1.1
  have hb:bodyO o=o.data:=by unfold bodyO;rw [if_pos hk]
  rw [hb,hk]
  show guessB 1 _=_
  unfold guessB
  rw [if_pos rfl]
  obtain ⟨kind,data,ents,tree,pars,time,text,target,of_,name⟩:=o
  simp only at *
  subst hk c1 c2 c3 c4 t1 t2 t3 e1
  rfl
 ·have hf:entsB o.ents=true:=by
   unfold mayB at hm
   rw [if_pos hk] at hm
   simp at hm
   exact hm.2
  rw [hk] at ha
  simp at ha
  obtain ⟨c1,c2,c3,c4⟩:=commit_all ha.1.2
  obtain ⟨t1,t2,t3⟩:=tag_all ha.2
  have e1:=blob_nil ha.1.1
  have hb:bodyO o=entsE o.ents:=by unfold bodyO;rw [if_neg (by omega),if_pos hk]
  rw [hb,hk]
  show guessB 2 _=_
  unfold guessB
  rw [if_neg (by omega),if_pos rfl]
  have hfine:=(ents_fine hf).2
  have:=gTree_app o.ents 65 [] (fun e hx=>⟨(hfine e hx).2,he e hx,by have:=name_len (hfine e hx).1;omega⟩) (by have:=(ents_fine hf).1;omega)
  simp only [this,List.nil_append]
  obtain ⟨kind,data,ents,tree,pars,time,text,target,of_,name⟩:=o
  simp only at *
  subst hk c1 c2 c3 c4 t1 t2 t3 e1
  rfl
 ·have hp8:o.pars.length≤8:=by
   unfold mayB at hm
   rw [if_neg (by omega),if_pos hk] at hm
   simp at hm
   exact hm.2
  rw [hk] at ha
  simp at ha
  obtain ⟨t1,t2,t3⟩:=tag_all ha.2
  have e1:=blob_nil ha.1.1
  have e2:=tree_nil ha.1.2
  have hb:bodyO o=commitE o:=by unfold bodyO;rw [if_neg (by omega),if_neg (by omega),if_pos hk]
  rw [hb] at hl ⊢
  rw [hk]
  show guessB 3 _=_
  unfold guessB
  rw [if_neg (by omega),if_neg (by omega),if_pos rfl]
  have htx:o.text.length≤18446744073709551615:=by
   unfold commitE textE at hl
   simp only [List.length_append] at hl
   omega
  have hc:commitE o=o.tree++(put o.pars.length++(o.pars.flatten++(put o.time++(textE o.text++[])))):=by unfold commitE;simp
  rw [hc]
  unfold gCommit
  simp only [idG_app o.tree _ htr,drop32 o.tree _ htr,getN_app o.pars.length (by omega),List.drop_left,show min o.pars.length 9=o.pars.length from by omega,gPars_app _ o.pars [] hp,getN_app o.time (by omega),takeN_app o.text [] htx,List.nil_append]
  rw [Nat.mod_eq_of_lt htm]
  obtain ⟨kind,data,ents,tree,pars,time,text,target,of_,name⟩:=o
  simp only at *
  subst hk t1 t2 t3 e1 e2
  rfl
 ·have hfn:kindB o.of_=true∧nameB o.name=true:=by
   unfold mayB at hm
   rw [if_neg (by omega),if_neg (by omega),if_pos hk] at hm
   simp at hm
   exact ⟨hm.1.2,hm.2⟩
  rw [hk] at ha
  simp at ha
  obtain ⟨c1,c2,c3,c4⟩:=commit_all ha.2
  have e1:=blob_nil ha.1.1
  have e2:=tree_nil ha.1.2
  have hb:bodyO o=tagE o:=by unfold bodyO;rw [if_neg (by omega),if_neg (by omega),if_neg (by omega),if_pos hk]
  rw [hb,hk]
  show guessB 4 _=_
  unfold guessB
  rw [if_neg (by omega),if_neg (by omega),if_neg (by omega),if_pos rfl]
  have hnl:=name_len hfn.2
  have hof:1≤o.of_∧o.of_≤4:=by
   have:=hfn.1
   unfold kindB at this
   simp at this
   exact this
  have hc:tagE o=byteK o.of_::(o.target++(textE o.name++[])):=by unfold tagE;simp
  rw [hc]
  unfold gTag
  have hbk:=byteK_nat (k:=o.of_) (by omega) (by omega)
  simp only [List.drop_succ_cons,List.drop_zero,List.headD_cons,idG_app o.target _ hta,drop32 o.target _ hta,takeN_app o.name [] (by omega),hbk]
  obtain ⟨kind,data,ents,tree,pars,time,text,target,of_,name⟩:=o
  simp only at *
  subst hk c1 c2 c3 c4 e1 e2
  rfl
theorem guess_whole (o:ObjL) (hm:mayB o=true) (hs:Sound o) (hl:(bodyO o).length≤4096):guessL (byteK o.kind) (textE (bodyO o))=o:=by
 have ht:=takeN_app (bodyO o) [] (by omega)
 rw [List.append_nil] at ht
 unfold guessL
 rw [ht,if_neg (show ¬ (textE (bodyO o)).length=0 from by unfold textE;have:=put_pos (bodyO o).length;rw [List.length_append];omega)]
 exact guess_enc o hm hs hl
theorem gTree_sound : ∀ (f:Nat) (t:Txt) (acc:List EntL),(∀ e∈acc,e.id.length=32) → ∀ e∈gTree f t acc,e.id.length=32
 | 0,t,acc,h=>by rw [gTree];exact h;intro a b c hc;cases hc
 | f+1,[],acc,h=>by rw [gTree];exact h;intro a b c hc hd;cases hd
 | f+1,d::t,acc,h=>by
   rw [gTree]
   refine gTree_sound f _ _ ?_
   intro e he
   rcases List.mem_append.1 he with he | he
   ·exact h e he
   ·obtain rfl:=List.mem_singleton.1 he
    exact idG_len _
theorem gPars_sound : ∀ (n:Nat) (t:Txt) (acc:List Txt),(∀ e∈acc,e.length=32) → ∀ e∈(gPars n t acc).1,e.length=32
 | 0,t,acc,h=>h
 | n+1,t,acc,h=>by
   rw [gPars]
   refine gPars_sound n _ _ ?_
   intro e he
   rcases List.mem_append.1 he with he | he
   ·exact h e he
   ·obtain rfl:=List.mem_singleton.1 he
    exact idG_len _
theorem guess_sound (c:UInt8) (q:Txt):Sound (guessL c q):=by
 unfold guessL guessB
 repeat' split
 ·exact ⟨noId_len,noId_len,(by intro p hp;cases hp),(by intro p hp;cases hp),by show 0<_;omega⟩
 ·exact ⟨noId_len,noId_len,(by intro p hp;cases hp),(by intro p hp;cases hp),by show 0<_;omega⟩
 ·exact ⟨noId_len,noId_len,gTree_sound _ _ _ (by simp),(by intro p hp;cases hp),by show 0<_;omega⟩
 ·exact ⟨idG_len _,noId_len,(by intro p hp;cases hp),gPars_sound _ _ _ (by simp),Nat.mod_lt _ (by omega)⟩
 ·exact ⟨noId_len,idG_len _,(by intro p hp;cases hp),(by intro p hp;cases hp),by show 0<_;omega⟩
 ·exact ⟨noId_len,noId_len,(by intro p hp;cases hp),(by intro p hp;cases hp),by show 0<_;omega⟩
/-- The document's decoding is ours. -/
theorem dec_same (c:UInt8) (q:Txt):decO (c::q)=if encO (guessL c q)=some (c::q) then some (guessL c q) else none:=by
 split
 ·rename_i h
  have hs:=guess_sound c q
  exact (dec_enc h hs.tree hs.target hs.ents hs.pars hs.time).1
 ·rename_i h
  cases hd:decO (c::q) with
  | none=>rfl
  | some o=>
    exfalso
    apply h
    obtain ⟨h1,hs⟩:=dec_back hd
    have hm:=(dec_len hd).2
    have h2:=h1
    unfold encO at h2
    split at h2
    ·rename_i hc
     injection h2 with h2
     have hw:wholeO o=byteK o.kind::textE (bodyO o):=rfl
     rw [hw] at h2 hc
     have hbl:(bodyO o).length≤4096:=by have:=hc.2;unfold textE at this;simp at this;omega
     injection h2 with h3 h4
     have hg:=guess_whole o hm hs hbl
     rw [h3,h4] at hg
     rw [hg]
     exact h1
    ·cases h2
end Go.Proofs.YtlojebhcemfodaaGreatDoor
namespace Go.Proofs.YtlojebhcemfodaaGreatDoor
open Go.RowKit
attribute [local go_sem ↓] ldvO_eq
theorem rKind_lt (r:Rd):(rKind r).1<256:=by
 unfold rKind
 split
 ·show (0:Nat)<256
  omega
 ·exact UInt8.toNat_lt _
theorem rEnt_ok (r:Rd) (h:r.1.length≤1000000):EntOk (rEnt r).1:=by
 have h1:=rKind_lt r
 have h2:=rText_len (rKind r).2
 have h3:=rKind_le r
 exact ⟨rId_len _,by show (rText (rKind r).2).1.length≤_;omega,by show _≤((rKind r).1:Int);omega,by show ((rKind r).1:Int)≤_;omega⟩
theorem rEnt_le (r:Rd):(rEnt r).2.1.length≤r.1.length:=Nat.le_trans (rId_le _) (Nat.le_trans (rText_le _) (rKind_le _))
theorem rTree_ok : ∀ (f:Nat) (r:Rd) (acc:List EntL),r.1.length≤1000000→(∀ e∈acc,EntOk e) → ∀ e∈(rTree f r acc).1,EntOk e
 | 0,r,acc,_,h=>h
 | f+1,r,acc,hl,h=>by
   rw [rTree]
   split
   ·exact h
   ·refine rTree_ok f _ _ (Nat.le_trans (rEnt_le r) hl) ?_
    intro e he
    rcases List.mem_append.1 he with he | he
    ·exact h e he
    ·obtain rfl:=List.mem_singleton.1 he
     exact rEnt_ok r hl
theorem readO_ok (k:Nat) (hk:k<256) (r:Rd) (hr:r.1.length≤100000):ObjOk (readO k r).1:=by
 have hs:=readO_sound k r
 have h0:([]:Txt).length≤9223372036854775807:=by simp
 have hkk:=readO_kind k r
 refine ⟨hs.tree,hs.target,?_,hs.pars,?_,?_,?_,hs.time,by rw [hkk];omega,by rw [hkk];omega,?_,?_⟩
 all_goals
  unfold readO
  split
  ·first
    | exact rTree_ok _ _ _ (by omega) (by simp)
    | exact h0
    | (show (-9223372036854775808:Int)≤0;omega)
    | (show (0:Int)≤9223372036854775807;omega)
  ·split
   ·first
     | exact h0
     | (intro e he;cases he;done)
     | (refine Nat.le_trans (rText_len _) ?_
        rw [badIf_le]
        refine Nat.le_trans (Nat.le_trans (rNum_le _) (Nat.le_trans (rPars_le _ _ _) ?_)) (Nat.le_trans hr (by omega))
        rw [badIf_le]
        exact Nat.le_trans (rNum_le _) (rId_le _))
     | (show (-9223372036854775808:Int)≤0;omega)
     | (show (0:Int)≤9223372036854775807;omega)
   ·split
    ·first
      | exact h0
      | (intro e he;cases he;done)
      | (refine Nat.le_trans (rText_len _) (Nat.le_trans (Nat.le_trans (rId_le _) (rKind_le _)) (by omega)))
      | (have:=rKind_lt r;show (-9223372036854775808:Int)≤((rKind r).1:Int);omega)
      | (have:=rKind_lt r;show ((rKind r).1:Int)≤9223372036854775807;omega)
    ·first
      | exact h0
      | (intro e he;cases he;done)
      | (show (rBytes r.1.length r).1.length≤_
         rcases bytes_or (n:=r.1.length) r with h | h
         ·rw [h];exact h0
         ·rw [h];omega)
      | (show (-9223372036854775808:Int)≤0;omega)
      | (show (0:Int)≤9223372036854775807;omega)
theorem built_kobj (k:Int):Tryz.prog.built 54 [(0, .int .i64 k)]=some (objC ⟨k,[],[],noId,[],0,[],noId,0,[]⟩ (.slice none 0 0) (.slice none 0 0)).toArray:=by kernel_rfl
theorem built_rd (t:Txt):Tryz.prog.built 144 [(0, .string (B t))]=some #[.string (B t), .bool false]:=by kernel_rfl
/-- What Decode returns. -/
def DecR (x:Option ObjL) (B:Nat) (w':World) (e:Ending):Prop:=match x with
 | some o => ∃ A1 A2 k1 k2,e = .returned (.tuple #[.agg (objC o (.slice A1 o.ents.length k1) (.slice A2 o.pars.length k2)).toArray, .int .i64 0])∧ObjV w' (.slice A1 o.ents.length k1) (.slice A2 o.pars.length k2) o∧OwnEnts w' B (.slice A1 o.ents.length k1) o.ents∧OwnIds w' B (.slice A2 o.pars.length k2) o.pars
 | none=>e = .returned (.tuple #[.agg zObj, .int .i64 2])
theorem Did.val {w w':World} {gO gR:Nat} {x:ObjL×Rd} {ve vp:Value} (h:Been w gO gR w.heap.size x.1 x.2 ve vp w') (ho:ObjOk x.1) : ∃ A1 A2 k1 k2,ve = .slice A1 x.1.ents.length k1∧vp = .slice A2 x.1.pars.length k2∧ObjV w' ve vp x.1:=by
 have he:Ents w' ve x.1.ents:=SliceAt.of_own (fun e h=>entC_len (ho.ents e h)) h.ents
 have hp:Ids w' vp x.1.pars:=SliceAt.of_own (fun e h=>idC_len (ho.pars e h)) h.pars
 have he':=he
 have hp':=hp
 obtain ⟨A1,k1,e1,_⟩:=he'
 obtain ⟨A2,k2,e2,_⟩:=hp'
 exact ⟨A1,A2,k1,k2,e1,e2,ho,he,hp⟩
theorem own_row {w:World} {B g:Nat} {e:TypeId} {k m:Nat} {v:Value} {zs:List Value} (h:w.ownsRow B e k v m zs) (hg:g<B) (cs:Array Value):(w.setRow g cs).ownsRow B e k v m zs:=
 Far.own (S:=[some g]) (Far.row (Far.refl _ w) (.inl (by simp)) cs) h fun q hq=>by
  have:=(World.ownsRow.lt h q hq).1
  simp;omega
theorem objV_row {w:World} {B g:Nat} {ve vp:Value} {o:ObjL} (ho:ObjOk o) (he:OwnEnts w B ve o.ents) (hp:OwnIds w B vp o.pars) (hg:g<B) (cs:Array Value):ObjV (w.setRow g cs) ve vp o:=
 ⟨ho,SliceAt.of_own (fun e h=>entC_len (ho.ents e h)) (own_row he hg cs),SliceAt.of_own (fun e h=>idC_len (ho.pars e h)) (own_row hp hg cs)⟩
theorem objC_all (o:ObjL) (A1 A2:Option Addr) (a b c d:Nat):(objC o (.slice A1 a b) (.slice A2 c d)).toArray.all (·.oneCell')=true:=by
 refine all_oneCell_toArray ?_
 intro v hv
 unfold objC at hv
 simp only [List.mem_cons,List.mem_append] at hv
 have h8 : ∀ l:Txt,v∈(u8s l).toList→v.oneCell'=true:=fun l h=>u8v_one l v (by simpa [u8s] using h)
 rcases hv with rfl | rfl | rfl | hv | rfl | rfl | rfl | hv | rfl | rfl | hv
 ·rfl
 ·rfl
 ·rfl
 ·exact h8 _ hv
 ·rfl
 ·rfl
 ·rfl
 ·exact h8 _ hv
 ·rfl
 ·rfl
 ·cases hv
set_option maxRecDepth 100000 in
set_option maxHeartbeats 2000000 in
theorem decode_no (s:Txt) (hs:s.length≤4611686018427387904) (h:s=[]∨4096<s.length∨takeP (s.drop 1)=none ∨ ∃ t c q,takeP (s.drop 1)=some (t,c::q)) (w:World) :
 Calls Tryz.prog 55 #[.string (B s)] w fun e w'=>e = .returned (.tuple #[.agg zObj, .int .i64 2])∧Below w.heap.size w w':=by
 have hzv:=zeroObj
 obtain ⟨W0,hW0⟩ : ∃ W0,w.alloc (.cells zObj 54)=W0:=⟨_,rfl⟩
 have hz0:Blk W0 w.heap.size 54 zObj:=by rw [←hW0];exact Blk.new _ _ _
 have b0:Below w.heap.size w W0:=by rw [←hW0];exact (Below.refl _ _).alloc (Nat.le_refl _) _
 have hrb:=fun W=>run_build (P:=Tryz.prog) W _ _ _ built_zObj
 have hone:=zObj_one
 have hsz:=sizedObj
 by_cases h1:s=[]∨4096<s.length
 ·clear h
  rcases h1 with rfl | h1
  ·go_enter Tryz.func55,Tryz.ntmps55
   go_wp2_with (first
    | (refine wpList_store_row rfl 54 (.tmp 2) (.tmp 17) rfl w.heap.size zObj rfl rfl _ _ hz0 hsz rfl hone ?_))
   refine bodyPost_ret (results_row_tmp rfl _ _ w.heap.size _ _ _ _ rfl (setRow_heap _ _ _ _ _ _ hz0) Tryz.underlying54 rfl hsz) rfl ⟨rfl,below_setRow b0 (Nat.le_refl _) _⟩
  ·match s,h1,hs with
   | c::q,h1,hs=>
     simp only [List.length_cons] at h1 hs
     have i1:(4096:Int)<(q.length:Int)+1:=by omega
     go_enter Tryz.func55,Tryz.ntmps55
     go_wp2_with (first
      | (refine wpList_store_row rfl 54 (.tmp 2) (.tmp 17) rfl w.heap.size zObj rfl rfl _ _ hz0 hsz rfl hone ?_))
     refine bodyPost_ret (results_row_tmp rfl _ _ w.heap.size _ _ _ _ rfl (setRow_heap _ _ _ _ _ _ hz0) Tryz.underlying54 rfl hsz) rfl ⟨rfl,below_setRow b0 (Nat.le_refl _) _⟩
 ·match s,h1,hs,h with
  | [],h1,_,_=>exact absurd (.inl rfl) h1
  | c::q,h1,hs,h=>
    simp only [List.length_cons,List.drop_succ_cons,List.drop_zero,reduceCtorEq,false_or] at h1 hs h
    have hex:(B (c::q)).extract 1 (q.length+1)=B q:=by
     rw [extract_B]
     simp
    have i1 : ¬ (4096:Int)<((q.length:Int)+1):=by omega
    have ht:=take_calls q (by omega) W0
    rcases h with h | h | ⟨t,c2,q2,h⟩
    ·omega
    ·rw [takeV_none h] at ht
     have ht:=Lib.hid ht
     clear h h1
     go_enter Tryz.func55,Tryz.ntmps55
     go_wp2_with (first
      | ((with_reducible refine ht.out.mono ?_);rintro e w1 ⟨rfl,nq,rfl⟩
         have hz1:=hz0.drewN nq)
      | (refine wpList_store_row rfl 54 (.tmp 2) (.tmp 31) rfl w.heap.size zObj rfl rfl _ _ hz1 hsz rfl hone ?_))
     refine bodyPost_ret (results_row_tmp rfl _ _ w.heap.size _ _ _ _ rfl (setRow_heap _ _ _ _ _ _ hz1) Tryz.underlying54 rfl hsz) rfl ⟨rfl,below_setRow (bdrewN b0 nq) (Nat.le_refl _) _⟩
    ·rw [takeV_some h] at ht
     have ht:=Lib.hid ht
     clear h h1
     go_enter Tryz.func55,Tryz.ntmps55
     go_wp2_with (first
      | ((with_reducible refine ht.out.mono ?_);rintro e w1 ⟨rfl,nq,rfl⟩
         have hz1:=hz0.drewN nq)
      | (refine wpList_store_row rfl 54 (.tmp 2) (.tmp 31) rfl w.heap.size zObj rfl rfl _ _ hz1 hsz rfl hone ?_))
     refine bodyPost_ret (results_row_tmp rfl _ _ w.heap.size _ _ _ _ rfl (setRow_heap _ _ _ _ _ _ hz1) Tryz.underlying54 rfl hsz) rfl ⟨rfl,below_setRow (bdrewN b0 nq) (Nat.le_refl _) _⟩
set_option maxRecDepth 100000 in
set_option maxHeartbeats 4000000 in
theorem decode_yes (c:UInt8) (q t:Txt) (hs:q.length≤4095) (h:takeP q=some (t,[])) (w:World) :
 Calls Tryz.prog 55 #[.string (B (c::q))] w fun e w'=>DecR (decO (c::q)) w.heap.size w' e∧Below w.heap.size w w':=by
 have hzv:=zeroObj
 obtain ⟨W0,hW0⟩ : ∃ W0,w.alloc (.cells zObj 54)=W0:=⟨_,rfl⟩
 have hz0:Blk W0 w.heap.size 54 zObj:=by rw [←hW0];exact Blk.new _ _ _
 have b0:Below w.heap.size w W0:=by rw [←hW0];exact (Below.refl _ _).alloc (Nat.le_refl _) _
 have hrb:=fun W=>run_build (P:=Tryz.prog) W _ _ _ built_zObj
 have hone:=zObj_one
 have hsz:=sizedObj
 have hex:(B (c::q)).extract 1 (q.length+1)=B q:=by
  rw [extract_B]
  simp
 have i1 : ¬ (4096:Int)<((q.length:Int)+1):=by omega
 have hlt:t.length≤100000:=by
  have:=takeP_back h
  rw [this] at hs
  unfold textE at hs
  simp only [List.length_append] at hs
  omega
 have ht:=take_calls q (by omega) W0
 rw [takeV_some h] at ht
 have ht:=Lib.hid ht
 have hdec:Hid (decO (c::q)=if (readO c.toNat (t,false)).2.2=true∨(readO c.toNat (t,false)).2.1≠[]∨mayB (readO c.toNat (t,false)).1=false then none else some (readO c.toNat (t,false)).1):=by
  show _=_
  unfold decO
  simp only [h]
  rw [if_neg (by simp only [List.length_cons];omega),if_neg (by simp)]
 have hk256:c.toNat<256:=c.toNat_lt
 have hc0:0≤(c.toNat:Int):=by omega
 have hc1:(c.toNat:Int)<256:=by omega
 have hrok:=readO_ok c.toNat hk256 (t,false) hlt
 have hbd:=built_kobj (c.toNat:Int)
 have hbr:=built_rd t
 have e72:(objC ⟨c.toNat,[],[],noId,[],0,[],noId,0,[]⟩ (.slice none 0 0) (.slice none 0 0)).toArray.size=72:=by rw [List.size_toArray];unfold objC;simp only [List.length_cons,List.length_append,u8s_len,noId_len,List.length_nil]
 have eone:(objC ⟨c.toNat,[],[],noId,[],0,[],noId,0,[]⟩ (.slice none 0 0) (.slice none 0 0)).toArray.all (·.oneCell')=true:=by kernel_rfl
 obtain ⟨D,hD⟩ : ∃ D,Hid (decO (c::q)=D):=⟨_,Lib.hid rfl⟩
 rw [hD.out] at hdec ⊢
 have hread:Hid (∀ W gO gR,gO≠gR→ObjB W gO (nObj c.toNat) (.slice none 0 0) (.slice none 0 0)→RdB W gR (t,false)→Calls Tryz.prog (if c.toNat=2 then 76 else if c.toNat=3 then 77 else if c.toNat=4 then 78 else 75) #[.pointer (some ⟨gR,0,none⟩), .pointer (some ⟨gO,0,none⟩)] W fun e w'=>e = .returned (.tuple #[])∧Did W gO gR W.heap.size (readO c.toNat (t,false)) w'):=fun W gO gR hne hO hR=>by
  unfold readO
  split
  ·exact tree_calls c.toNat (t,false) hlt gO gR hne W hO hR
  ·split
   ·exact commit_calls c.toNat (t,false) hlt gO gR hne W hO hR
   ·split
    ·exact tag_calls c.toNat (t,false) hlt gO gR hne W hO hR
    ·exact blob_calls c.toNat (t,false) hlt gO gR hne W hO hR
 generalize hX:readO c.toNat (t,false)=X at *
 clear hX h
 go_enter Tryz.func55,Tryz.ntmps55
 go_upto_region 9 with (first
  | ((with_reducible refine ht.out.mono ?_);rintro e w1 ⟨rfl,nq,rfl⟩
     have hz1:=hz0.drewN nq
     have b1:=bdrewN b0 nq
     clear ht)
  | ((with_reducible refine lit_build1 hbd ?_ ?_);rfl)
  | ((with_reducible refine lit_build1 hbr ?_ ?_);rfl)
  | ((with_reducible refine lit_new 54 (.tmp 7) (.tmp 35) (objC ⟨c.toNat,[],[],noId,[],0,[],noId,0,[]⟩ (.slice none 0 0) (.slice none 0 0)).toArray 72 szObj e72 eone _ ?_ ?_ ?_ ?_);rfl;rfl;rfl;intro W2 hb2 hbl2
     have hz2:=hz1.below hbl2 hz1.lt
     have b2:=bthen b1 b1.size hbl2
     clear hz1 b1))
 have hO2:ObjB W2 W0.heap.size (nObj c.toNat) (.slice none 0 0) (.slice none 0 0):=⟨hb2,noId_len,noId_len⟩
 obtain ⟨W3,hW3⟩ : ∃ W3,W2.alloc (.cells #[.string (B t), .bool false] 144)=W3:=⟨_,rfl⟩
 have hR3:RdB W3 W2.heap.size (t,false):=by rw [←hW3];exact Blk.new _ _ _
 have hb3:Below W2.heap.size W2 W3:=by rw [←hW3];exact (Below.refl _ _).alloc (Nat.le_refl _) _
 have hO3:=hO2.below hb3
 have hz3:=hz2.below hb3 hz2.lt
 have b3:=bthen b2 b2.size hb3
 have hb2:Blk W2 W0.heap.size 54 _:=hb2
 have hne:W0.heap.size≠W2.heap.size:=by have:=hb2.lt;omega
 have hsO:w.heap.size<W0.heap.size:=by rw [←hW0];simp
 have hsR:w.heap.size<W2.heap.size:=by have:=hb2.lt;omega
 have hrd:=hread.out W3 _ _ hne hO3 hR3
 have ck:W3.cell? ⟨W0.heap.size,0,none⟩=some (.int .i64 c.toNat):=hO3.kind
 clear hO2 hb2 hz2 b2 hb3 hread hO3 hR3
 rw [hW3]
 clear hW3 hW0 hz0 b0
 generalize W2.heap.size=gR at *
 generalize W0.heap.size=gO at *
 clear ht hbd hbr e72 eone
 have hXk : ∀ W ve vp,ObjB W gO X.1 ve vp→(ldvO ⟨gO,0,none⟩).run Tryz.prog W = .ok (.agg (objC X.1 ve vp).toArray) W:=fun W ve vp h=>run_ldvO h hrok
 have hzlt:w.heap.size<W3.heap.size:=hz3.lt
 have hgz:some w.heap.size ∉ [some gO,some gR]:=by simp;omega
 have hgB : ∀ k,some k∈[some gO,some gR]→w.heap.size≤k:=fun k hk=>by simp at hk;omega
 have hszB:w.heap.size≤W3.heap.size:=Nat.le_of_lt hzlt
 by_cases k2:c.toNat=2
 ·have e2:((c.toNat:Int)==2)=true:=by simp;omega
  rw [if_pos k2] at hrd
  have hrd:=Lib.hid hrd
  clear k2 hne
  by_cases hb1:X.2.2=true
  ·have hDn:Hid (D=none):=by show _=_;rw [hdec.out,if_pos (.inl hb1)]
   clear hdec hD
   go_wp2_with (first
    | ((with_reducible refine hrd.out.mono ?_);rintro e w4 ⟨rfl,ve,vp,hbe⟩
       have c0:=hbe.rd.c0
       have c1:=hbe.rd.c1
       obtain ⟨A1,A2,n1,n2,rfl,rfl,hv⟩:=Did.val hbe hrok
       have hq4:=hXk w4 _ _ hbe.obj
       have hz4:=hbe.far.blk hz3 hgz
       have b4:=b3.trans (hbe.far.below (B:=w.heap.size) hszB hgB)
       rw [hb1] at c1
       clear hq4 hv c0 hb1
       clear hrd hbe)
    | (refine wpList_store_row rfl 54 (.tmp 2) (.tmp 66) rfl w.heap.size zObj rfl rfl _ _ hz4 hsz rfl hone ?_))
   refine bodyPost_ret (results_row_tmp rfl _ _ w.heap.size _ _ _ _ rfl (setRow_heap _ _ _ _ _ _ hz4) Tryz.underlying54 rfl hsz) rfl ⟨by rw [hDn.out];rfl,below_setRow b4 (Nat.le_refl _) _⟩
  ·by_cases hb2:X.2.1=[]
   ·cases hM:mayB X.1 with
    | false=>
      have hDn:Hid (D=none):=by show _=_;rw [hdec.out,if_pos (.inr (.inr hM))]
      clear hdec hD
      have hb1:X.2.2=false:=by simpa using hb1
      go_wp2_with (first
       | ((with_reducible refine hrd.out.mono ?_);rintro e w4 ⟨rfl,ve,vp,hbe⟩
          have c0:=hbe.rd.c0
          have c1:=hbe.rd.c1
          obtain ⟨A1,A2,n1,n2,rfl,rfl,hv⟩:=Did.val hbe hrok
          have hq4:=hXk w4 _ _ hbe.obj
          have hz4:=hbe.far.blk hz3 hgz
          have b4:=b3.trans (hbe.far.below (B:=w.heap.size) hszB hgB)
          rw [hb1] at c1
          rw [hb2] at c0
          have hmay:=may_calls X.1 A1 A2 n1 n2 w4 hv
          rw [hM] at hmay
          have hmay:=Lib.hid hmay
          clear hv hb1 hb2 hM
          clear hrd hbe)
       | ((with_reducible refine hmay.out.mono ?_);rintro e w5 ⟨rfl,hb5⟩
          have hz5:=hz4.below hb5 hz4.lt
          have b5:=bthen b4 b4.size hb5
          skip
          clear hmay)
       | (refine wpList_store_row rfl 54 (.tmp 2) (.tmp 66) rfl w.heap.size zObj rfl rfl _ _ hz5 hsz rfl hone ?_))
      refine bodyPost_ret (results_row_tmp rfl _ _ w.heap.size _ _ _ _ rfl (setRow_heap _ _ _ _ _ _ hz5) Tryz.underlying54 rfl hsz) rfl ⟨by rw [hDn.out];rfl,below_setRow b5 (Nat.le_refl _) _⟩
    | true=>
      have hDn:Hid (D=some X.1):=by
       show _=_
       rw [hdec.out,if_neg]
       rintro (h | h | h)
       ·exact hb1 h
       ·exact h hb2
       ·rw [hM] at h;cases h
      clear hdec hD
      have hb1:X.2.2=false:=by simpa using hb1
      go_wp2_with (first
       | ((with_reducible refine hrd.out.mono ?_);rintro e w4 ⟨rfl,ve,vp,hbe⟩
          have c0:=hbe.rd.c0
          have c1:=hbe.rd.c1
          obtain ⟨A1,A2,n1,n2,rfl,rfl,hv⟩:=Did.val hbe hrok
          have hq4:=hXk w4 _ _ hbe.obj
          have hz4:=hbe.far.blk hz3 hgz
          have b4:=b3.trans (hbe.far.below (B:=w.heap.size) hszB hgB)
          rw [hb1] at c1
          rw [hb2] at c0
          have hmay:=may_calls X.1 A1 A2 n1 n2 w4 hv
          rw [hM] at hmay
          have hmay:=Lib.hid hmay
          have hO4:=hbe.obj
          have hoe:=hbe.ents
          have hop:=hbe.pars
          have hc72:(objC X.1 (.slice A1 X.1.ents.length n1) (.slice A2 X.1.pars.length n2)).toArray.size=72:=by rw [List.size_toArray,objC_len hrok]
          have hcone:=objC_all X.1 A1 A2 X.1.ents.length n1 X.1.pars.length n2
          clear hb1 hb2 hM
          clear hrd hbe)
       | ((with_reducible refine hmay.out.mono ?_);rintro e w5 ⟨rfl,hb5⟩
          have hz5:=hz4.below hb5 hz4.lt
          have b5:=bthen b4 b4.size hb5
          have hO5:=hO4.below hb5
          have hoe5:=own_below hoe hb5
          have hop5:=own_below hop hb5
          have hv5:=hv.below hb5
          have hq5:=hXk w5 _ _ hO5
          generalize hcs:(objC X.1 (.slice A1 X.1.ents.length n1) (.slice A2 X.1.pars.length n2)).toArray=cs at *
          have HCS:=Lib.hid hcs
          clear hcs hq4
          clear hmay)
       | (refine wpList_store_row rfl 54 (.tmp 2) (.tmp 67) rfl w.heap.size cs rfl rfl _ _ hz5 (by rw [hc72];exact szObj) (by rw [hc72];rfl) hcone ?_))
      refine bodyPost_ret (results_row_tmp rfl _ _ w.heap.size _ _ _ _ rfl (setRow_heap _ _ _ _ _ _ hz5) Tryz.underlying54 rfl (by rw [hc72];exact szObj)) rfl ⟨?_,below_setRow b5 (Nat.le_refl _) _⟩
      rw [hDn.out]
      exact ⟨A1,A2,n1,n2,by rw [HCS.out];rfl,objV_row hrok hoe5 hop5 hzlt _,own_low' (own_row hoe5 hzlt _) (Nat.le_of_lt hzlt),own_low' (own_row hop5 hzlt _) (Nat.le_of_lt hzlt)⟩
   ·have hDn:Hid (D=none):=by show _=_;rw [hdec.out,if_pos (.inr (.inl hb2))]
    clear hdec hD
    have hb1:X.2.2=false:=by simpa using hb1
    obtain ⟨x,xs,hx⟩ : ∃ x xs,X.2.1=x::xs:=by
     cases hq:X.2.1 with
     | nil=>exact absurd hq hb2
     | cons x xs=>exact ⟨x,xs,rfl⟩
    clear hb2
    go_wp2_with (first
     | ((with_reducible refine hrd.out.mono ?_);rintro e w4 ⟨rfl,ve,vp,hbe⟩
        have c0:=hbe.rd.c0
        have c1:=hbe.rd.c1
        obtain ⟨A1,A2,n1,n2,rfl,rfl,hv⟩:=Did.val hbe hrok
        have hq4:=hXk w4 _ _ hbe.obj
        have hz4:=hbe.far.blk hz3 hgz
        have b4:=b3.trans (hbe.far.below (B:=w.heap.size) hszB hgB)
        rw [hb1] at c1
        rw [hx] at c0
        clear hq4 hv hb1 hx
        clear hrd hbe)
     | (refine wpList_store_row rfl 54 (.tmp 2) (.tmp 66) rfl w.heap.size zObj rfl rfl _ _ hz4 hsz rfl hone ?_))
    refine bodyPost_ret (results_row_tmp rfl _ _ w.heap.size _ _ _ _ rfl (setRow_heap _ _ _ _ _ _ hz4) Tryz.underlying54 rfl hsz) rfl ⟨by rw [hDn.out];rfl,below_setRow b4 (Nat.le_refl _) _⟩
 ·have e2:((c.toNat:Int)==2)=false:=by simp;omega
  rw [if_neg k2] at hrd
  by_cases k3:c.toNat=3
  ·have e3:((c.toNat:Int)==3)=true:=by simp;omega
   rw [if_pos k3] at hrd
   have hrd:=Lib.hid hrd
   clear k2 k3 hne
   by_cases hb1:X.2.2=true
   ·have hDn:Hid (D=none):=by show _=_;rw [hdec.out,if_pos (.inl hb1)]
    clear hdec hD
    go_wp2_with (first
     | ((with_reducible refine hrd.out.mono ?_);rintro e w4 ⟨rfl,ve,vp,hbe⟩
        have c0:=hbe.rd.c0
        have c1:=hbe.rd.c1
        obtain ⟨A1,A2,n1,n2,rfl,rfl,hv⟩:=Did.val hbe hrok
        have hq4:=hXk w4 _ _ hbe.obj
        have hz4:=hbe.far.blk hz3 hgz
        have b4:=b3.trans (hbe.far.below (B:=w.heap.size) hszB hgB)
        rw [hb1] at c1
        clear hq4 hv c0 hb1
        clear hrd hbe)
     | (refine wpList_store_row rfl 54 (.tmp 2) (.tmp 66) rfl w.heap.size zObj rfl rfl _ _ hz4 hsz rfl hone ?_))
    refine bodyPost_ret (results_row_tmp rfl _ _ w.heap.size _ _ _ _ rfl (setRow_heap _ _ _ _ _ _ hz4) Tryz.underlying54 rfl hsz) rfl ⟨by rw [hDn.out];rfl,below_setRow b4 (Nat.le_refl _) _⟩
   ·by_cases hb2:X.2.1=[]
    ·cases hM:mayB X.1 with
     | false=>
       have hDn:Hid (D=none):=by show _=_;rw [hdec.out,if_pos (.inr (.inr hM))]
       clear hdec hD
       have hb1:X.2.2=false:=by simpa using hb1
       go_wp2_with (first
        | ((with_reducible refine hrd.out.mono ?_);rintro e w4 ⟨rfl,ve,vp,hbe⟩
           have c0:=hbe.rd.c0
           have c1:=hbe.rd.c1
           obtain ⟨A1,A2,n1,n2,rfl,rfl,hv⟩:=Did.val hbe hrok
           have hq4:=hXk w4 _ _ hbe.obj
           have hz4:=hbe.far.blk hz3 hgz
           have b4:=b3.trans (hbe.far.below (B:=w.heap.size) hszB hgB)
           rw [hb1] at c1
           rw [hb2] at c0
           have hmay:=may_calls X.1 A1 A2 n1 n2 w4 hv
           rw [hM] at hmay
           have hmay:=Lib.hid hmay
           clear hv hb1 hb2 hM
           clear hrd hbe)
        | ((with_reducible refine hmay.out.mono ?_);rintro e w5 ⟨rfl,hb5⟩
           have hz5:=hz4.below hb5 hz4.lt
           have b5:=bthen b4 b4.size hb5
           skip
           clear hmay)
        | (refine wpList_store_row rfl 54 (.tmp 2) (.tmp 66) rfl w.heap.size zObj rfl rfl _ _ hz5 hsz rfl hone ?_))
       refine bodyPost_ret (results_row_tmp rfl _ _ w.heap.size _ _ _ _ rfl (setRow_heap _ _ _ _ _ _ hz5) Tryz.underlying54 rfl hsz) rfl ⟨by rw [hDn.out];rfl,below_setRow b5 (Nat.le_refl _) _⟩
     | true=>
       have hDn:Hid (D=some X.1):=by
        show _=_
        rw [hdec.out,if_neg]
        rintro (h | h | h)
        ·exact hb1 h
        ·exact h hb2
        ·rw [hM] at h;cases h
       clear hdec hD
       have hb1:X.2.2=false:=by simpa using hb1
       go_wp2_with (first
        | ((with_reducible refine hrd.out.mono ?_);rintro e w4 ⟨rfl,ve,vp,hbe⟩
           have c0:=hbe.rd.c0
           have c1:=hbe.rd.c1
           obtain ⟨A1,A2,n1,n2,rfl,rfl,hv⟩:=Did.val hbe hrok
           have hq4:=hXk w4 _ _ hbe.obj
           have hz4:=hbe.far.blk hz3 hgz
           have b4:=b3.trans (hbe.far.below (B:=w.heap.size) hszB hgB)
           rw [hb1] at c1
           rw [hb2] at c0
           have hmay:=may_calls X.1 A1 A2 n1 n2 w4 hv
           rw [hM] at hmay
           have hmay:=Lib.hid hmay
           have hO4:=hbe.obj
           have hoe:=hbe.ents
           have hop:=hbe.pars
           have hc72:(objC X.1 (.slice A1 X.1.ents.length n1) (.slice A2 X.1.pars.length n2)).toArray.size=72:=by rw [List.size_toArray,objC_len hrok]
           have hcone:=objC_all X.1 A1 A2 X.1.ents.length n1 X.1.pars.length n2
           clear hb1 hb2 hM
           clear hrd hbe)
        | ((with_reducible refine hmay.out.mono ?_);rintro e w5 ⟨rfl,hb5⟩
           have hz5:=hz4.below hb5 hz4.lt
           have b5:=bthen b4 b4.size hb5
           have hO5:=hO4.below hb5
           have hoe5:=own_below hoe hb5
           have hop5:=own_below hop hb5
           have hv5:=hv.below hb5
           have hq5:=hXk w5 _ _ hO5
           generalize hcs:(objC X.1 (.slice A1 X.1.ents.length n1) (.slice A2 X.1.pars.length n2)).toArray=cs at *
           have HCS:=Lib.hid hcs
           clear hcs hq4
           clear hmay)
        | (refine wpList_store_row rfl 54 (.tmp 2) (.tmp 67) rfl w.heap.size cs rfl rfl _ _ hz5 (by rw [hc72];exact szObj) (by rw [hc72];rfl) hcone ?_))
       refine bodyPost_ret (results_row_tmp rfl _ _ w.heap.size _ _ _ _ rfl (setRow_heap _ _ _ _ _ _ hz5) Tryz.underlying54 rfl (by rw [hc72];exact szObj)) rfl ⟨?_,below_setRow b5 (Nat.le_refl _) _⟩
       rw [hDn.out]
       exact ⟨A1,A2,n1,n2,by rw [HCS.out];rfl,objV_row hrok hoe5 hop5 hzlt _,own_low' (own_row hoe5 hzlt _) (Nat.le_of_lt hzlt),own_low' (own_row hop5 hzlt _) (Nat.le_of_lt hzlt)⟩
    ·have hDn:Hid (D=none):=by show _=_;rw [hdec.out,if_pos (.inr (.inl hb2))]
     clear hdec hD
     have hb1:X.2.2=false:=by simpa using hb1
     obtain ⟨x,xs,hx⟩ : ∃ x xs,X.2.1=x::xs:=by
      cases hq:X.2.1 with
      | nil=>exact absurd hq hb2
      | cons x xs=>exact ⟨x,xs,rfl⟩
     clear hb2
     go_wp2_with (first
      | ((with_reducible refine hrd.out.mono ?_);rintro e w4 ⟨rfl,ve,vp,hbe⟩
         have c0:=hbe.rd.c0
         have c1:=hbe.rd.c1
         obtain ⟨A1,A2,n1,n2,rfl,rfl,hv⟩:=Did.val hbe hrok
         have hq4:=hXk w4 _ _ hbe.obj
         have hz4:=hbe.far.blk hz3 hgz
         have b4:=b3.trans (hbe.far.below (B:=w.heap.size) hszB hgB)
         rw [hb1] at c1
         rw [hx] at c0
         clear hq4 hv hb1 hx
         clear hrd hbe)
      | (refine wpList_store_row rfl 54 (.tmp 2) (.tmp 66) rfl w.heap.size zObj rfl rfl _ _ hz4 hsz rfl hone ?_))
     refine bodyPost_ret (results_row_tmp rfl _ _ w.heap.size _ _ _ _ rfl (setRow_heap _ _ _ _ _ _ hz4) Tryz.underlying54 rfl hsz) rfl ⟨by rw [hDn.out];rfl,below_setRow b4 (Nat.le_refl _) _⟩
  ·have e3:((c.toNat:Int)==3)=false:=by simp;omega
   rw [if_neg k3] at hrd
   by_cases k4:c.toNat=4
   ·have e4:((c.toNat:Int)==4)=true:=by simp;omega
    rw [if_pos k4] at hrd
    have hrd:=Lib.hid hrd
    clear k2 k3 k4 hne
    by_cases hb1:X.2.2=true
    ·have hDn:Hid (D=none):=by show _=_;rw [hdec.out,if_pos (.inl hb1)]
     clear hdec hD
     go_wp2_with (first
      | ((with_reducible refine hrd.out.mono ?_);rintro e w4 ⟨rfl,ve,vp,hbe⟩
         have c0:=hbe.rd.c0
         have c1:=hbe.rd.c1
         obtain ⟨A1,A2,n1,n2,rfl,rfl,hv⟩:=Did.val hbe hrok
         have hq4:=hXk w4 _ _ hbe.obj
         have hz4:=hbe.far.blk hz3 hgz
         have b4:=b3.trans (hbe.far.below (B:=w.heap.size) hszB hgB)
         rw [hb1] at c1
         clear hq4 hv c0 hb1
         clear hrd hbe)
      | (refine wpList_store_row rfl 54 (.tmp 2) (.tmp 66) rfl w.heap.size zObj rfl rfl _ _ hz4 hsz rfl hone ?_))
     refine bodyPost_ret (results_row_tmp rfl _ _ w.heap.size _ _ _ _ rfl (setRow_heap _ _ _ _ _ _ hz4) Tryz.underlying54 rfl hsz) rfl ⟨by rw [hDn.out];rfl,below_setRow b4 (Nat.le_refl _) _⟩
    ·by_cases hb2:X.2.1=[]
     ·cases hM:mayB X.1 with
      | false=>
        have hDn:Hid (D=none):=by show _=_;rw [hdec.out,if_pos (.inr (.inr hM))]
        clear hdec hD
        have hb1:X.2.2=false:=by simpa using hb1
        go_wp2_with (first
         | ((with_reducible refine hrd.out.mono ?_);rintro e w4 ⟨rfl,ve,vp,hbe⟩
            have c0:=hbe.rd.c0
            have c1:=hbe.rd.c1
            obtain ⟨A1,A2,n1,n2,rfl,rfl,hv⟩:=Did.val hbe hrok
            have hq4:=hXk w4 _ _ hbe.obj
            have hz4:=hbe.far.blk hz3 hgz
            have b4:=b3.trans (hbe.far.below (B:=w.heap.size) hszB hgB)
            rw [hb1] at c1
            rw [hb2] at c0
            have hmay:=may_calls X.1 A1 A2 n1 n2 w4 hv
            rw [hM] at hmay
            have hmay:=Lib.hid hmay
            clear hv hb1 hb2 hM
            clear hrd hbe)
         | ((with_reducible refine hmay.out.mono ?_);rintro e w5 ⟨rfl,hb5⟩
            have hz5:=hz4.below hb5 hz4.lt
            have b5:=bthen b4 b4.size hb5
            skip
            clear hmay)
         | (refine wpList_store_row rfl 54 (.tmp 2) (.tmp 66) rfl w.heap.size zObj rfl rfl _ _ hz5 hsz rfl hone ?_))
        refine bodyPost_ret (results_row_tmp rfl _ _ w.heap.size _ _ _ _ rfl (setRow_heap _ _ _ _ _ _ hz5) Tryz.underlying54 rfl hsz) rfl ⟨by rw [hDn.out];rfl,below_setRow b5 (Nat.le_refl _) _⟩
      | true=>
        have hDn:Hid (D=some X.1):=by
         show _=_
         rw [hdec.out,if_neg]
         rintro (h | h | h)
         ·exact hb1 h
         ·exact h hb2
         ·rw [hM] at h;cases h
        clear hdec hD
        have hb1:X.2.2=false:=by simpa using hb1
        go_wp2_with (first
         | ((with_reducible refine hrd.out.mono ?_);rintro e w4 ⟨rfl,ve,vp,hbe⟩
            have c0:=hbe.rd.c0
            have c1:=hbe.rd.c1
            obtain ⟨A1,A2,n1,n2,rfl,rfl,hv⟩:=Did.val hbe hrok
            have hq4:=hXk w4 _ _ hbe.obj
            have hz4:=hbe.far.blk hz3 hgz
            have b4:=b3.trans (hbe.far.below (B:=w.heap.size) hszB hgB)
            rw [hb1] at c1
            rw [hb2] at c0
            have hmay:=may_calls X.1 A1 A2 n1 n2 w4 hv
            rw [hM] at hmay
            have hmay:=Lib.hid hmay
            have hO4:=hbe.obj
            have hoe:=hbe.ents
            have hop:=hbe.pars
            have hc72:(objC X.1 (.slice A1 X.1.ents.length n1) (.slice A2 X.1.pars.length n2)).toArray.size=72:=by rw [List.size_toArray,objC_len hrok]
            have hcone:=objC_all X.1 A1 A2 X.1.ents.length n1 X.1.pars.length n2
            clear hb1 hb2 hM
            clear hrd hbe)
         | ((with_reducible refine hmay.out.mono ?_);rintro e w5 ⟨rfl,hb5⟩
            have hz5:=hz4.below hb5 hz4.lt
            have b5:=bthen b4 b4.size hb5
            have hO5:=hO4.below hb5
            have hoe5:=own_below hoe hb5
            have hop5:=own_below hop hb5
            have hv5:=hv.below hb5
            have hq5:=hXk w5 _ _ hO5
            generalize hcs:(objC X.1 (.slice A1 X.1.ents.length n1) (.slice A2 X.1.pars.length n2)).toArray=cs at *
            have HCS:=Lib.hid hcs
            clear hcs hq4
            clear hmay)
         | (refine wpList_store_row rfl 54 (.tmp 2) (.tmp 67) rfl w.heap.size cs rfl rfl _ _ hz5 (by rw [hc72];exact szObj) (by rw [hc72];rfl) hcone ?_))
        refine bodyPost_ret (results_row_tmp rfl _ _ w.heap.size _ _ _ _ rfl (setRow_heap _ _ _ _ _ _ hz5) Tryz.underlying54 rfl (by rw [hc72];exact szObj)) rfl ⟨?_,below_setRow b5 (Nat.le_refl _) _⟩
        rw [hDn.out]
        exact ⟨A1,A2,n1,n2,by rw [HCS.out];rfl,objV_row hrok hoe5 hop5 hzlt _,own_low' (own_row hoe5 hzlt _) (Nat.le_of_lt hzlt),own_low' (own_row hop5 hzlt _) (Nat.le_of_lt hzlt)⟩
     ·have hDn:Hid (D=none):=by show _=_;rw [hdec.out,if_pos (.inr (.inl hb2))]
      clear hdec hD
      have hb1:X.2.2=false:=by simpa using hb1
      obtain ⟨x,xs,hx⟩ : ∃ x xs,X.2.1=x::xs:=by
       cases hq:X.2.1 with
       | nil=>exact absurd hq hb2
       | cons x xs=>exact ⟨x,xs,rfl⟩
      clear hb2
      go_wp2_with (first
       | ((with_reducible refine hrd.out.mono ?_);rintro e w4 ⟨rfl,ve,vp,hbe⟩
          have c0:=hbe.rd.c0
          have c1:=hbe.rd.c1
          obtain ⟨A1,A2,n1,n2,rfl,rfl,hv⟩:=Did.val hbe hrok
          have hq4:=hXk w4 _ _ hbe.obj
          have hz4:=hbe.far.blk hz3 hgz
          have b4:=b3.trans (hbe.far.below (B:=w.heap.size) hszB hgB)
          rw [hb1] at c1
          rw [hx] at c0
          clear hq4 hv hb1 hx
          clear hrd hbe)
       | (refine wpList_store_row rfl 54 (.tmp 2) (.tmp 66) rfl w.heap.size zObj rfl rfl _ _ hz4 hsz rfl hone ?_))
      refine bodyPost_ret (results_row_tmp rfl _ _ w.heap.size _ _ _ _ rfl (setRow_heap _ _ _ _ _ _ hz4) Tryz.underlying54 rfl hsz) rfl ⟨by rw [hDn.out];rfl,below_setRow b4 (Nat.le_refl _) _⟩
   ·have e4:((c.toNat:Int)==4)=false:=by simp;omega
    rw [if_neg k4] at hrd
    have hrd:=Lib.hid hrd
    clear k2 k3 k4 hne
    by_cases hb1:X.2.2=true
    ·have hDn:Hid (D=none):=by show _=_;rw [hdec.out,if_pos (.inl hb1)]
     clear hdec hD
     go_wp2_with (first
      | ((with_reducible refine hrd.out.mono ?_);rintro e w4 ⟨rfl,ve,vp,hbe⟩
         have c0:=hbe.rd.c0
         have c1:=hbe.rd.c1
         obtain ⟨A1,A2,n1,n2,rfl,rfl,hv⟩:=Did.val hbe hrok
         have hq4:=hXk w4 _ _ hbe.obj
         have hz4:=hbe.far.blk hz3 hgz
         have b4:=b3.trans (hbe.far.below (B:=w.heap.size) hszB hgB)
         rw [hb1] at c1
         clear hq4 hv c0 hb1
         clear hrd hbe)
      | (refine wpList_store_row rfl 54 (.tmp 2) (.tmp 66) rfl w.heap.size zObj rfl rfl _ _ hz4 hsz rfl hone ?_))
     refine bodyPost_ret (results_row_tmp rfl _ _ w.heap.size _ _ _ _ rfl (setRow_heap _ _ _ _ _ _ hz4) Tryz.underlying54 rfl hsz) rfl ⟨by rw [hDn.out];rfl,below_setRow b4 (Nat.le_refl _) _⟩
    ·by_cases hb2:X.2.1=[]
     ·cases hM:mayB X.1 with
      | false=>
        have hDn:Hid (D=none):=by show _=_;rw [hdec.out,if_pos (.inr (.inr hM))]
        clear hdec hD
        have hb1:X.2.2=false:=by simpa using hb1
        go_wp2_with (first
         | ((with_reducible refine hrd.out.mono ?_);rintro e w4 ⟨rfl,ve,vp,hbe⟩
            have c0:=hbe.rd.c0
            have c1:=hbe.rd.c1
            obtain ⟨A1,A2,n1,n2,rfl,rfl,hv⟩:=Did.val hbe hrok
            have hq4:=hXk w4 _ _ hbe.obj
            have hz4:=hbe.far.blk hz3 hgz
            have b4:=b3.trans (hbe.far.below (B:=w.heap.size) hszB hgB)
            rw [hb1] at c1
            rw [hb2] at c0
            have hmay:=may_calls X.1 A1 A2 n1 n2 w4 hv
            rw [hM] at hmay
            have hmay:=Lib.hid hmay
            clear hv hb1 hb2 hM
            clear hrd hbe)
         | ((with_reducible refine hmay.out.mono ?_);rintro e w5 ⟨rfl,hb5⟩
            have hz5:=hz4.below hb5 hz4.lt
            have b5:=bthen b4 b4.size hb5
            skip
            clear hmay)
         | (refine wpList_store_row rfl 54 (.tmp 2) (.tmp 66) rfl w.heap.size zObj rfl rfl _ _ hz5 hsz rfl hone ?_))
        refine bodyPost_ret (results_row_tmp rfl _ _ w.heap.size _ _ _ _ rfl (setRow_heap _ _ _ _ _ _ hz5) Tryz.underlying54 rfl hsz) rfl ⟨by rw [hDn.out];rfl,below_setRow b5 (Nat.le_refl _) _⟩
      | true=>
        have hDn:Hid (D=some X.1):=by
         show _=_
         rw [hdec.out,if_neg]
         rintro (h | h | h)
         ·exact hb1 h
         ·exact h hb2
         ·rw [hM] at h;cases h
        clear hdec hD
        have hb1:X.2.2=false:=by simpa using hb1
        go_wp2_with (first
         | ((with_reducible refine hrd.out.mono ?_);rintro e w4 ⟨rfl,ve,vp,hbe⟩
            have c0:=hbe.rd.c0
            have c1:=hbe.rd.c1
            obtain ⟨A1,A2,n1,n2,rfl,rfl,hv⟩:=Did.val hbe hrok
            have hq4:=hXk w4 _ _ hbe.obj
            have hz4:=hbe.far.blk hz3 hgz
            have b4:=b3.trans (hbe.far.below (B:=w.heap.size) hszB hgB)
            rw [hb1] at c1
            rw [hb2] at c0
            have hmay:=may_calls X.1 A1 A2 n1 n2 w4 hv
            rw [hM] at hmay
            have hmay:=Lib.hid hmay
            have hO4:=hbe.obj
            have hoe:=hbe.ents
            have hop:=hbe.pars
            have hc72:(objC X.1 (.slice A1 X.1.ents.length n1) (.slice A2 X.1.pars.length n2)).toArray.size=72:=by rw [List.size_toArray,objC_len hrok]
            have hcone:=objC_all X.1 A1 A2 X.1.ents.length n1 X.1.pars.length n2
            clear hb1 hb2 hM
            clear hrd hbe)
         | ((with_reducible refine hmay.out.mono ?_);rintro e w5 ⟨rfl,hb5⟩
            have hz5:=hz4.below hb5 hz4.lt
            have b5:=bthen b4 b4.size hb5
            have hO5:=hO4.below hb5
            have hoe5:=own_below hoe hb5
            have hop5:=own_below hop hb5
            have hv5:=hv.below hb5
            have hq5:=hXk w5 _ _ hO5
            generalize hcs:(objC X.1 (.slice A1 X.1.ents.length n1) (.slice A2 X.1.pars.length n2)).toArray=cs at *
            have HCS:=Lib.hid hcs
            clear hcs hq4
            clear hmay)
         | (refine wpList_store_row rfl 54 (.tmp 2) (.tmp 67) rfl w.heap.size cs rfl rfl _ _ hz5 (by rw [hc72];exact szObj) (by rw [hc72];rfl) hcone ?_))
        refine bodyPost_ret (results_row_tmp rfl _ _ w.heap.size _ _ _ _ rfl (setRow_heap _ _ _ _ _ _ hz5) Tryz.underlying54 rfl (by rw [hc72];exact szObj)) rfl ⟨?_,below_setRow b5 (Nat.le_refl _) _⟩
        rw [hDn.out]
        exact ⟨A1,A2,n1,n2,by rw [HCS.out];rfl,objV_row hrok hoe5 hop5 hzlt _,own_low' (own_row hoe5 hzlt _) (Nat.le_of_lt hzlt),own_low' (own_row hop5 hzlt _) (Nat.le_of_lt hzlt)⟩
     ·have hDn:Hid (D=none):=by show _=_;rw [hdec.out,if_pos (.inr (.inl hb2))]
      clear hdec hD
      have hb1:X.2.2=false:=by simpa using hb1
      obtain ⟨x,xs,hx⟩ : ∃ x xs,X.2.1=x::xs:=by
       cases hq:X.2.1 with
       | nil=>exact absurd hq hb2
       | cons x xs=>exact ⟨x,xs,rfl⟩
      clear hb2
      go_wp2_with (first
       | ((with_reducible refine hrd.out.mono ?_);rintro e w4 ⟨rfl,ve,vp,hbe⟩
          have c0:=hbe.rd.c0
          have c1:=hbe.rd.c1
          obtain ⟨A1,A2,n1,n2,rfl,rfl,hv⟩:=Did.val hbe hrok
          have hq4:=hXk w4 _ _ hbe.obj
          have hz4:=hbe.far.blk hz3 hgz
          have b4:=b3.trans (hbe.far.below (B:=w.heap.size) hszB hgB)
          rw [hb1] at c1
          rw [hx] at c0
          clear hq4 hv hb1 hx
          clear hrd hbe)
       | (refine wpList_store_row rfl 54 (.tmp 2) (.tmp 66) rfl w.heap.size zObj rfl rfl _ _ hz4 hsz rfl hone ?_))
      refine bodyPost_ret (results_row_tmp rfl _ _ w.heap.size _ _ _ _ rfl (setRow_heap _ _ _ _ _ _ hz4) Tryz.underlying54 rfl hsz) rfl ⟨by rw [hDn.out];rfl,below_setRow b4 (Nat.le_refl _) _⟩
end Go.Proofs.YtlojebhcemfodaaGreatDoor
namespace Go.Proofs.YtlojebhcemfodaaGreatDoor
open Go.RowKit
theorem decode_calls (s:Txt) (hs:s.length≤4611686018427387904) (w:World):Calls Tryz.prog 55 #[.string (B s)] w fun e w'=>DecR (decO s) w.heap.size w' e∧Below w.heap.size w w':=by
 have hno:decO s=none→(s=[]∨4096<s.length∨takeP (s.drop 1)=none ∨ ∃ t c q,takeP (s.drop 1)=some (t,c::q))→Calls Tryz.prog 55 #[.string (B s)] w fun e w'=>DecR (decO s) w.heap.size w' e∧Below w.heap.size w w':=fun h1 h2=>by
  rw [h1]
  exact decode_no s hs h2 w
 match s,hs,hno with
 | [],hs,hno=>exact hno rfl (.inl rfl)
 | c::q,hs,hno=>
   by_cases h1:4096<(c::q).length
   ·exact hno (by unfold decO;simp only;rw [if_pos h1]) (.inr (.inl h1))
   ·cases ht:takeP q with
    | none=>exact hno (by unfold decO;simp only [ht];rw [if_neg h1]) (.inr (.inr (.inl ht)))
    | some p=>
      obtain ⟨t,b⟩:=p
      cases b with
      | nil=>exact decode_yes c q t (by simp only [List.length_cons] at h1;omega) ht w
      | cons x b=>exact hno (by unfold decO;simp only [ht];rw [if_neg h1,if_pos (by simp)]) (.inr (.inr (.inr ⟨t,x,b,ht⟩)))
theorem small_enc {o:ObjL} {t:Txt} (h:encO o=some t):Small o:=by
 have h1:o.data.length≤4096:=Nat.le_of_not_lt fun hc=>by rw [enc_data hc] at h;cases h
 have h2:o.text.length≤4096:=Nat.le_of_not_lt fun hc=>by rw [enc_text hc] at h;cases h
 have hm:mayB o=true:=by
  unfold encO at h
  split at h
  ·rename_i hc;exact hc.1
  ·cases h
 have ha:=may_alone hm
 unfold aloneB at ha
 have z:([]:Txt).length≤100:=by simp
 rcases may_kind hm with hk | hk | hk | hk
 ·rw [hk] at ha
  simp at ha
  obtain ⟨c1,c2,c3,c4⟩:=commit_all ha.1.2
  obtain ⟨t1,t2,t3⟩:=tag_all ha.2
  have e1:=tree_nil ha.1.1
  exact ⟨by rw [e1];simp,by rw [e1];simp,by rw [c2];simp,by omega,by omega,by rw [t3];simp⟩
 ·rw [hk] at ha
  simp at ha
  obtain ⟨c1,c2,c3,c4⟩:=commit_all ha.1.2
  obtain ⟨t1,t2,t3⟩:=tag_all ha.2
  have hf:entsB o.ents=true:=by
   unfold mayB at hm
   rw [if_pos hk] at hm
   simp at hm
   exact hm.2
  have hfine:=ents_fine hf
  exact ⟨by omega,fun e he=>by have:=name_len (hfine.2 e he).1;omega,by rw [c2];simp,by omega,by omega,by rw [t3];simp⟩
 ·have hp8:o.pars.length≤8:=by
   unfold mayB at hm
   rw [if_neg (by omega),if_pos hk] at hm
   simp at hm
   exact hm.2
  rw [hk] at ha
  simp at ha
  obtain ⟨t1,t2,t3⟩:=tag_all ha.2
  have e2:=tree_nil ha.1.2
  exact ⟨by rw [e2];simp,by rw [e2];simp,by omega,by omega,by omega,by rw [t3];simp⟩
 ·have hfn:nameB o.name=true:=by
   unfold mayB at hm
   rw [if_neg (by omega),if_neg (by omega),if_pos hk] at hm
   simp at hm
   exact hm.2
  rw [hk] at ha
  simp at ha
  obtain ⟨c1,c2,c3,c4⟩:=commit_all ha.2
  have e2:=tree_nil ha.1.2
  have:=name_len hfn
  exact ⟨by rw [e2];simp,by rw [e2];simp,by rw [c2];simp,by omega,by omega,by omega⟩
end Go.Proofs.YtlojebhcemfodaaGreatDoor
namespace Go.Proofs.YtlojebhcemfodaaGreatDoor
open Go.RowKit
def idP (s:Txt) (k:Nat):Txt:=s.take k++List.replicate (32-k) 0
theorem idP_len {s:Txt} {k:Nat} (h1:k≤32) (h2:k≤s.length):(idP s k).length=32:=by unfold idP;simp;omega
theorem idP_set {s:Txt} {k:Nat} (h1:k<32) (h2:k<s.length):(idP s k).set k s[k]=idP s (k+1):=by
 unfold idP
 have hk:(s.take k).length=k:=by rw [List.length_take];omega
 have e:s.take (k+1)=s.take k++[s[k]]:=by rw [List.take_add_one,List.getElem?_eq_getElem h2];rfl
 rw [List.set_append_right _ _ (by omega),hk,Nat.sub_self,e,List.append_assoc,show 32-k=(32-(k+1))+1 from by omega,List.replicate_succ]
 rfl
theorem idP_end {s:Txt} {k:Nat} (h:k=32∨k=s.length) (h1:k≤32) (h2:k≤s.length):idP s k=idG s:=by
 unfold idP idG
 rcases h with rfl | rfl
 ·rw [show 32-s.length=0 from by omega]
 ·rw [List.take_of_length_le (Nat.le_refl _),List.take_of_length_le h1]
theorem idP_zero (s:Txt):idP s 0=noId:=by unfold idP noId;simp
theorem built_zId : Tryz.prog.built 42 []=some (u8s noId):=by kernel_rfl
theorem zeroIdV (W:World):(zeroValue 42).run Tryz.prog W = .ok (.agg (u8s noId)) W:=by
 have h:(Tryz.prog.info? 42).map (·.zero)=some (some (.agg (u8s noId))):=by kernel_rfl
 obtain ⟨i,h1,h2⟩:=Option.map_eq_some_iff.1 h
 simp [zeroValue,typeInfo,h1,h2]
set_option maxRecDepth 100000 in
set_option maxHeartbeats 2000000 in
theorem gid_calls (s:Txt) (hs:s.length≤4611686018427387904) (w:World):Calls Tryz.prog 110 #[.string (B s)] w fun e w'=>e = .returned (.agg (u8s (idG s)))∧Below w.heap.size w w':=by
 have hzv:=zeroIdV
 have hrb:=fun W=>run_build (P:=Tryz.prog) W _ _ _ built_zId
 have hZ0:=Lib.hid (idP_zero s)
 have hzl:(u8s noId).size=32:=by rw [u8s_size,noId_len]
 have hone:=u8s_one noId
 have hZ1:u8s (idP s 0)=u8s noId:=by rw [idP_zero]
 generalize u8s noId=Z at *
 obtain ⟨W1,hW1⟩ : ∃ W1,w.alloc (.cells Z 42)=W1:=⟨_,rfl⟩
 have hx1:Blk W1 w.heap.size 42 Z:=by rw [←hW1];exact Blk.new _ _ _
 have b1:Below w.heap.size w W1:=by rw [←hW1];exact (Below.refl _ _).alloc (Nat.le_refl _) _
 have hs1:w.heap.size<W1.heap.size:=by rw [←hW1];simp
 have hHz:=Lib.hid hZ1
 clear hZ1
 go_enter Tryz.func110,Tryz.ntmps110
 go_wp2_with (first
  | ((with_reducible refine lit_new 42 (.tmp 3) (.tmp 5) Z 32 sz32 hzl hone _ ?_ ?_ ?_ ?_)
     ·exact hzl
     ·rfl
     ·rfl
     intro W2 hb2 hbl2
     have hx2:=hx1.below hbl2 hx1.lt
     have b2:=bthen b1 (Nat.le_of_lt hs1) hbl2
     clear hx1 b1))
 have hb2:Blk W2 W1.heap.size 42 (u8s (idP s 0)):=by rw [hHz.out];exact hb2
 clear hW1 hrb hzv
 generalize W1.heap.size=g at *
 go_loopw [4] (fun vi wr => ∃ k:Nat,vi = .int .i64 k∧k≤32∧k≤s.length∧Blk wr g 42 (u8s (idP s k))∧Blk wr w.heap.size 42 Z∧Below w.heap.size w wr) (fun vi _=>32-(intOf vi).toNat)
 case atStart=>exact ⟨0,rfl,by omega,by omega,hb2,hx2,b2⟩
 case round=>
  obtain ⟨k,rfl,hk1,hk2,hbk,hxk,hbel⟩:=hrel
  have hl32:=idP_len hk1 hk2
  by_cases hgo:k<32∧k<s.length
  ·obtain ⟨i1,i2⟩:=hgo
   have j1:(k:Int)<32:=by omega
   have j2:(k:Int)<(s.length:Int):=by omega
   obtain ⟨c,hc⟩ : ∃ c,s[k]=c:=⟨_,rfl⟩
   have c1:wr.cell? ⟨g,k,none⟩=some (.int .u8 (((idP s k).getD k 0).toNat:Nat)):=by rw [hbk.cell,u8s_get _ _ (by omega)]
   have f1:=hbk.frozen k
   have hb':=hbk.set_ k (.int .u8 (c.toNat:Nat))
   have he:Hid ((u8s (idP s k)).setIfInBounds k (.int .u8 (c.toNat:Nat))=u8s (idP s (k+1))):=by
    show _=_
    rw [u8s_set _ _ _ c.toNat_lt,←idP_set i1 i2,hc]
    congr 2
    simp
   rw [he.out] at hb'
   have hx':=hxk.far (p:=⟨g,k,none⟩) (by simp;omega) (.int .u8 (c.toNat:Nat))
   have hbel':=hbel.setCell (p:=⟨g,k,none⟩) (Nat.le_of_lt hs1) (.int .u8 (c.toNat:Nat))
   clear hbk hxk hbel he
   go_wp2_with (fail)
   all_goals try (exfalso;omega)
   go_roundw
   case rel=>exact ⟨k+1,by go_num,by omega,by omega,hb',hx',hbel'⟩
   case measure=>simp [intOf];omega
  ·have hend:Hid (idP s k=idG s):=idP_end (by omega) hk1 hk2
   rw [hend.out] at hbk
   have hsz:(Tryz.prog.info? 42).map (·.size)=some (u8s (idG s)).size:=by rw [u8s_size,idG_len];exact sz32
   have hone2:=u8s_one (idG s)
   have h32:(u8s (idG s)).size=32:=by rw [u8s_size,idG_len]
   obtain ⟨D,hD⟩ : ∃ D,Hid (u8s (idG s)=D):=⟨_,Lib.hid rfl⟩
   rw [hD.out] at hbk hsz hone2 h32
   by_cases i1:k<32
   ·have j1:(k:Int)<32:=by omega
    have j2 : ¬ (k:Int)<(s.length:Int):=by omega
    go_wp2_with (first
     | (refine wpList_load_row rfl 42 (.tmp 3) rfl g rfl _ _ _ _ hbk Tryz.underlying42 rfl hsz ?_)
     | (refine wpList_store_row rfl 42 (.tmp 2) (.tmp 21) rfl w.heap.size D rfl rfl _ _ hxk hsz (by rw [hzl,h32]) hone2 ?_))
    all_goals try (exfalso;omega)
    exact bodyPost_ret (results_cell_row rfl _ _ w.heap.size _ _ _ _ rfl (setRow_heap _ _ _ _ _ _ hxk) Tryz.underlying42 rfl hsz) rfl ⟨by rw [hD.out],below_setRow hbel (Nat.le_refl _) _⟩
   ·have j1 : ¬ (k:Int)<32:=by omega
    go_wp2_with (first
     | (refine wpList_load_row rfl 42 (.tmp 3) rfl g rfl _ _ _ _ hbk Tryz.underlying42 rfl hsz ?_)
     | (refine wpList_store_row rfl 42 (.tmp 2) (.tmp 21) rfl w.heap.size D rfl rfl _ _ hxk hsz (by rw [hzl,h32]) hone2 ?_))
    all_goals try (exfalso;omega)
    exact bodyPost_ret (results_cell_row rfl _ _ w.heap.size _ _ _ _ rfl (setRow_heap _ _ _ _ _ _ hxk) Tryz.underlying42 rfl hsz) rfl ⟨by rw [hD.out],below_setRow hbel (Nat.le_refl _) _⟩
set_option maxRecDepth 100000 in
set_option maxHeartbeats 1000000 in
theorem behind_calls (s:Txt) (n:Nat) (hs:s.length≤4611686018427387904) (hn:n≤4611686018427387904) (w:World):Calls Tryz.prog 109 #[.string (B s), .int .i64 n] w fun e w'=>e = .returned (.string (B (s.drop n))) ∧ ∃ q,w'=w.drewN q:=by
 by_cases h:s.length≤n
 ·have hi:(s.length:Int)≤(n:Int):=by omega
  have hd:s.drop n=[]:=List.drop_eq_nil_of_le h
  rw [hd]
  clear hd
  go_enter Tryz.func109,Tryz.ntmps109
  go_wp2
  all_goals try (exfalso;omega)
  go_ret
  exact ⟨rfl,0,rfl⟩
 ·have hi : ¬ (s.length:Int)≤(n:Int):=by omega
  have hle:n≤s.length:=by omega
  have hlei:(n:Int)≤(s.length:Int):=by omega
  have x2:(B s).extract n s.length=B (s.drop n):=extract_B_from s n
  go_enter Tryz.func109,Tryz.ntmps109
  go_wp2
  all_goals try (exfalso;omega)
  go_ret
  exact ⟨rfl,0,rfl⟩
end Go.Proofs.YtlojebhcemfodaaGreatDoor
namespace Go.Proofs.YtlojebhcemfodaaGreatDoor
open Go.RowKit
/-- The kind that is told. -/
def kindS (s:List StL) (n:Txt):Int:=match getS s n with
 | some x=>match decO x.text with | some o=>o.kind | none=>0
 | none=>0
theorem dec_kind {t:Txt} {o:ObjL} (h:decO t=some o) : ∃ c q,t=c::q∧o.kind=(c.toNat:Int):=by
 unfold decO at h
 match t,h with
 | c::q,h=>
   simp only at h
   split at h
   ·cases h
   ·split at h
    ·cases h
    ·split at h
     ·cases h
     ·split at h
      ·cases h
      ·injection h with h
       exact ⟨c,q,rfl,by rw [←h,readO_kind]⟩
theorem getS_mem {s:List StL} {n:Txt} {x:StL} (h:getS s n=some x):x∈s:=List.mem_of_find?_eq_some h
section
variable {w w':World} {base p:Nat} {vl:Value} {s:List StL}
/-- A boxed id, and its load. -/
theorem boxId (w:World) (n:Txt) (hn:n.length=32) : ∃ W1,w.alloc (.cells (u8s n) 42)=W1∧Below w.heap.size w W1∧Blk W1 w.heap.size 42 (u8s n) ∧ ∀ W,Below W1.heap.size W1 W→(ldvI ⟨w.heap.size,0,none⟩).run Tryz.prog W = .ok (.agg (u8s n)) W:=by
 have n1:Blk (w.alloc (.cells (u8s n) 42)) w.heap.size 42 (u8s n):=Blk.new _ _ _
 refine ⟨_,rfl,(Below.refl _ _).alloc (Nat.le_refl _) _,n1,fun W hW=>?_⟩
 have hsI:(Tryz.prog.info? 42).map (·.size)=some (u8s n).toList.length:=by rw [u8s_lenS,hn];exact sz32
 have:=run_loadVar_mid (P:=Tryz.prog) W w.heap.size 0 42 (u8s n).toList _ (range_blk (n1.below hW n1.lt)) Tryz.underlying42 rfl hsI
 rwa [Array.toArray_toList] at this
attribute [local go_sem ↓] ldvI_eq ldvO_eq
/-- What Object tells. -/
def ObjT (s:List StL) (n:Txt) (B0:Nat) (w':World) (e:Ending):Prop:=match getS s n with
 | some x => ∃ o A1 A2 k1 k2,decO x.text=some o∧e = .returned (.tuple #[.agg (objC o (.slice A1 o.ents.length k1) (.slice A2 o.pars.length k2)).toArray, .bool true])∧ObjV w' (.slice A1 o.ents.length k1) (.slice A2 o.pars.length k2) o∧OwnEnts w' B0 (.slice A1 o.ents.length k1) o.ents∧OwnIds w' B0 (.slice A2 o.pars.length k2) o.pars
 | none=>e = .returned (.tuple #[.agg zObj, .bool false])
set_option maxRecDepth 100000 in
set_option maxHeartbeats 2000000 in
theorem stoObject_calls (h:StoAt w base p vl s) (n:Txt) (hn:n.length=32) :
 Calls Tryz.prog 32 #[.pointer (some ⟨p,0,none⟩), .agg (u8s n)] w fun e w'=>ObjT s n w.heap.size w' e∧Below w.heap.size w w':=by
 have hzo:=zeroObj
 have hz72:=zObj_size
 have hrb:=fun W=>run_build (P:=Tryz.prog) W _ _ _ built_zObj
 have hsz : ∀ cs:Array Value,cs.size=72→(Tryz.prog.info? 54).map (·.size)=some cs.size:=fun cs h=>by rw [h];exact szObj
 have hzone:zObj.all (·.oneCell')=true:=objC_all zeroO none none 0 0 0 0
 obtain ⟨W1,hW1,b1,n1,ld⟩:=boxId w n hn
 obtain ⟨W2,hW2⟩ : ∃ W2,W1.alloc (.cells zObj 54)=W2:=⟨_,rfl⟩
 have z2:Blk W2 W1.heap.size 54 zObj:=by rw [←hW2];exact Blk.new _ _ _
 have bb2:Below W1.heap.size W1 W2:=by rw [←hW2];exact (Below.refl _ _).alloc (Nat.le_refl _) _
 have b2:=bthen b1 b1.size bb2
 have hg:=Lib.hid (stoGet_calls (h.below b2) n hn)
 have q1:=ld W2 bb2
 have hle1:=b1.size
 unfold ObjT
 generalize u8s n=NC at *
 clear ld n1
 cases hG:getS s n with
 | none=>
   have hg:Hid (Calls Tryz.prog 59 #[.pointer (some ⟨p,0,none⟩), .agg NC] W2 fun e w'=>e = .returned (.tuple #[.string (B []), .bool false])∧Below W2.heap.size W2 w'):=by
    have:=hg;unfold getV at this;rw [hG] at this;exact this
   generalize zObj=ZO at *
   clear hG
   go_enter Tryz.func32,Tryz.ntmps32
   go_wp2_with (first
    | ((with_reducible refine hg.out.mono ?_);rintro e w3 ⟨rfl,hb3⟩
       have b3:=bthen b2 b2.size hb3
       have z3:=z2.below hb3 z2.lt)
    | (refine wpList_store_row rfl 54 (.tmp 4) (.tmp 18) rfl W1.heap.size ZO rfl rfl _ _ z3 (hsz ZO hz72) rfl hzone ?_))
   refine bodyPost_ret (results_row_tmp rfl _ _ W1.heap.size _ _ _ _ rfl (setRow_heap _ _ _ _ _ _ z3) Tryz.underlying54 rfl (hsz ZO hz72)) rfl ⟨rfl,below_setRow b3 hle1 _⟩
 | some x=>
   have hg:Hid (Calls Tryz.prog 59 #[.pointer (some ⟨p,0,none⟩), .agg NC] W2 fun e w'=>e = .returned (.tuple #[.string (B x.text), .bool true])∧Below W2.heap.size W2 w'):=by
    have:=hg;unfold getV at this;rw [hG] at this;exact this
   obtain ⟨o,ho⟩:=(h.ok.each x (getS_mem hG)).2
   have hxl:=(decO_len ho).2
   have hde : ∀ W,Calls Tryz.prog 55 #[.string (B x.text)] W fun e w'=>(∃ A1 A2 k1 k2,e = .returned (.tuple #[.agg (objC o (.slice A1 o.ents.length k1) (.slice A2 o.pars.length k2)).toArray, .int .i64 0])∧ObjV w' (.slice A1 o.ents.length k1) (.slice A2 o.pars.length k2) o∧OwnEnts w' W.heap.size (.slice A1 o.ents.length k1) o.ents∧OwnIds w' W.heap.size (.slice A2 o.pars.length k2) o.pars)∧Below W.heap.size W w':=fun W=>by
    have:=decode_calls x.text (by omega) W
    rw [ho] at this
    exact this
   clear hG
   go_enter Tryz.func32,Tryz.ntmps32
   go_wp2_with (first
    | ((with_reducible refine hg.out.mono ?_);rintro e w3 ⟨rfl,hb3⟩
       have b3:=bthen b2 b2.size hb3
       have z3:=z2.below hb3 z2.lt
       have b3z:=hb3.size)
    | ((with_reducible refine (hde _).mono ?_);rintro e w4 ⟨⟨A1,A2,k1,k2,rfl,hv4,oe4,op4⟩,hb4⟩
       have b4:=bthen b3 b3.size hb4
       have z4:=z3.below hb4 z3.lt
       have hc72:(objC o (.slice A1 o.ents.length k1) (.slice A2 o.pars.length k2)).toArray.size=72:=by rw [List.size_toArray,objC_len hv4.ok]
       have hcone:=objC_all o A1 A2 o.ents.length k1 o.pars.length k2)
    | ((with_reducible refine lit_new 54 (.tmp 8) (.tmp 22) (objC o (.slice A1 o.ents.length k1) (.slice A2 o.pars.length k2)).toArray 72 szObj hc72 hcone _ ?_ ?_ ?_ ?_)
       ·first | exact hz72 | rfl
       ·rfl
       ·rfl
       intro W5 hb5 hbl5
       have b5:=bthen b4 b4.size hbl5
       have z5:=z4.below hbl5 z4.lt
       have hv5:=hv4.below hbl5
       have hO5:ObjB W5 w4.heap.size o (.slice A1 o.ents.length k1) (.slice A2 o.pars.length k2):=⟨hb5,hv4.ok.tree,hv4.ok.target⟩
       have ld5:=run_ldvO hO5 hv4.ok)
    | (refine wpList_store_row rfl 54 (.tmp 4) (.tmp 24) rfl W1.heap.size (objC o (.slice A1 o.ents.length k1) (.slice A2 o.pars.length k2)).toArray rfl rfl _ _ z5 (hsz _ hc72) (hz72.trans hc72.symm) hcone ?_))
   refine bodyPost_ret (results_row_tmp rfl _ _ W1.heap.size _ _ _ _ rfl (setRow_heap _ _ _ _ _ _ z5) Tryz.underlying54 rfl (hsz _ hc72)) rfl ⟨⟨o,A1,A2,k1,k2,ho,rfl,?_,own_low' (own_row (own_below oe4 hbl5) (Nat.lt_of_lt_of_le z2.lt b3z) _) b3.size,own_low' (own_row (own_below op4 hbl5) (Nat.lt_of_lt_of_le z2.lt b3z) _) b3.size⟩,below_setRow b5 hle1 _⟩
   exact objV_row hv4.ok (own_below oe4 hbl5) (own_below op4 hbl5) (Nat.lt_of_lt_of_le z2.lt b3z) _
attribute [local go_sem ↓] ldvStit_eq
end
attribute [local go_sem ↓] ldvI_eq ldvO_eq
end Go.Proofs.YtlojebhcemfodaaGreatDoor
namespace Go.Proofs.YtlojebhcemfodaaGreatDoor
open Go.RowKit
/-- Two slices lie in blocks that are unlike. -/
def Ap (a b:Value):Prop := ∀ k,a.ownBlock=some k→b.ownBlock≠some k
theorem Ap.symm {a b:Value} (h:Ap a b):Ap b a:=fun k hk e=>h k e hk
theorem Ap.nil_l (a b:Nat) (v:Value):Ap (.slice none a b) v:=fun k hk=>by cases hk
theorem Ap.nil_r (a b:Nat) (v:Value):Ap v (.slice none a b):=fun k _ e=>by cases e
theorem Ap.newer {w:World} {a a' b:Value} (h:Ap a b) (hn:Newer w a a') (hb : ∀ k,b.ownBlock=some k→k<w.heap.size):Ap a' b:=fun k hk e=>by
 rcases hn with h1 | h1
 ·exact h k (h1▸hk) e
 ·have:=h1 k hk;have:=hb k e;omega
theorem own_lt {w:World} {B:Nat} {e:TypeId} {size n:Nat} {v:Value} {xs:List Value} (h:w.ownsRow B e size v n xs) : ∀ k,v.ownBlock=some k→k<w.heap.size:=fun k hk=>(World.ownsRow.lt h k hk).2
theorem own_ge {w:World} {B:Nat} {e:TypeId} {size n:Nat} {v:Value} {xs:List Value} (h:w.ownsRow B e size v n xs) : ∀ k,v.ownBlock=some k→B≤k:=fun k hk=>(World.ownsRow.lt h k hk).1
structure RcM (w:World) (ve:Value) (cs todo inn out:List Txt) (vt vI vO:Value) (wr:World):Prop where
 tok : ∀ x∈todo,x.length=32
 t:OwnIds wr w.heap.size vt todo
 i:SetAt wr w.heap.size w.heap.size vI inn
 o:SetAt wr w.heap.size (w.heap.size+1) vO out
 e:OwnIds wr w.heap.size ve cs
 a1:Ap vI vO
 a2:Ap vI vt
 a3:Ap vO vt
 a4:Ap ve vI
 a5:Ap ve vO
 a6:Ap ve vt
 bel:Below w.heap.size w wr
section
variable {w wr w':World} {ve vt vI vO:Value} {cs todo inn out:List Txt} {x:Txt}
theorem RcM.below (h:RcM w ve cs todo inn out vt vI vO wr) (hb:Below wr.heap.size wr w'):RcM w ve cs todo inn out vt vI vO w':=
 ⟨h.tok,own_below h.t hb,h.i.below hb,h.o.below hb,own_below h.e hb,h.a1,h.a2,h.a3,h.a4,h.a5,h.a6,bthen h.bel h.bel.size hb⟩
theorem RcM.pop {m c:Nat} {A:Option Addr} (h:RcM w ve cs (todo++[x]) inn out (.slice A (m+1) c) vI vO wr) (hm:todo.length=m):RcM w ve cs todo inn out (.slice A m c) vI vO wr:=by
 have hob:(Value.slice A m c).ownBlock=(Value.slice A (m+1) c).ownBlock:=by cases A<;>rfl
 refine ⟨fun y hy=>h.tok y (by simp [hy]),?_,h.i,h.o,h.e,h.a1,fun k hk e=>h.a2 k hk (hob▸e),fun k hk e=>h.a3 k hk (hob▸e),h.a4,h.a5,fun k hk e=>h.a6 k hk (hob▸e),h.bel⟩
 have hk : ∀ y∈todo++[x],(idC y).length=32:=fun y hy=>idC_len (h.tok y hy)
 rcases Row.of_own hk h.t with ⟨h1,h2⟩ | ⟨g,cap,h1,hg,hr⟩
 ·simp at h2
 ·injection h1 with e1 e2 e3
  subst e1 e3
  have h3:=(hr.cut m).own (fun y hy=>hk y (List.mem_of_mem_take hy)) hg
  rw [←hm,List.take_left] at h3
  unfold OwnIds
  rw [hm] at h3
  rw [hm]
  exact h3
theorem RcM.out_ {vO':Value} {out':List Txt} (h:RcM w ve cs todo inn out vt vI vO wr) (hs:SetAt w' w.heap.size (w.heap.size+1) vO' out') (hf:Far [some (w.heap.size+1),vO.ownBlock] wr w') (hn:Newer wr vO vO'):RcM w ve cs todo inn out' vt vI vO' w':=by
 have hne : ∀ {v:Value} {l:List Txt},OwnIds wr w.heap.size v l→Ap v vO → ∀ k,v.ownBlock=some k→some k ∉ [some (w.heap.size+1),vO.ownBlock]:=fun {v l} ho ha k hk hm=>by
  simp only [List.mem_cons,List.not_mem_nil,or_false] at hm
  rcases hm with h1 | h1
  ·injection h1 with h1
   subst h1
   exact own_blk_ne ho h.o.blk (by decide) hk.symm
  ·exact ha k hk h1.symm
 have hpI:some w.heap.size ∉ [some (w.heap.size+1),vO.ownBlock]:=fun hm=>by
  simp only [List.mem_cons,List.not_mem_nil,or_false] at hm
  rcases hm with h1 | h1
  ·injection h1 with h1;omega
  ·exact own_blk_ne h.o.own h.i.blk (by decide) h1
 refine ⟨h.tok,hf.own h.t (hne h.t h.a3.symm),h.i.far hf hpI (hne h.i.own h.a1),hs,hf.own h.e (hne h.e h.a5),(h.a1.symm.newer hn (own_lt h.i.own)).symm,h.a2,h.a3.newer hn (own_lt h.t),h.a4,(h.a5.symm.newer hn (own_lt h.e)).symm,h.a6,?_⟩
 refine h.bel.trans (hf.below h.bel.size fun k hk=>?_)
 simp only [List.mem_cons,List.not_mem_nil,or_false] at hk
 rcases hk with h1 | h1
 ·injection h1 with h1;omega
 ·exact own_ge h.o.own k h1.symm
theorem RcM.in_ {vI':Value} {inn':List Txt} (h:RcM w ve cs todo inn out vt vI vO wr) (hs:SetAt w' w.heap.size w.heap.size vI' inn') (hf:Far [some w.heap.size,vI.ownBlock] wr w') (hn:Newer wr vI vI'):RcM w ve cs todo inn' out vt vI' vO w':=by
 have hne : ∀ {v:Value} {l:List Txt},OwnIds wr w.heap.size v l→Ap v vI → ∀ k,v.ownBlock=some k→some k ∉ [some w.heap.size,vI.ownBlock]:=fun {v l} ho ha k hk hm=>by
  simp only [List.mem_cons,List.not_mem_nil,or_false] at hm
  rcases hm with h1 | h1
  ·injection h1 with h1
   subst h1
   exact own_blk_ne ho h.i.blk (by decide) hk.symm
  ·exact ha k hk h1.symm
 have hpO:some (w.heap.size+1) ∉ [some w.heap.size,vI.ownBlock]:=fun hm=>by
  simp only [List.mem_cons,List.not_mem_nil,or_false] at hm
  rcases hm with h1 | h1
  ·injection h1 with h1;omega
  ·exact own_blk_ne h.i.own h.o.blk (by decide) h1
 refine ⟨h.tok,hf.own h.t (hne h.t h.a2.symm),hs,h.o.far hf hpO (hne h.o.own h.a1.symm),hf.own h.e (hne h.e h.a4),h.a1.newer hn (own_lt h.o.own),h.a2.newer hn (own_lt h.t),h.a3,(h.a4.symm.newer hn (own_lt h.e)).symm,h.a5,h.a6,?_⟩
 refine h.bel.trans (hf.below h.bel.size fun k hk=>?_)
 simp only [List.mem_cons,List.not_mem_nil,or_false] at hk
 rcases hk with h1 | h1
 ·injection h1 with h1;omega
 ·exact own_ge h.i.own k h1.symm
theorem RcM.push {vt':Value} {todo':List Txt} (h:RcM w ve cs todo inn out vt vI vO wr) (hok : ∀ y∈todo',y.length=32) (ht:OwnIds w' w.heap.size vt' todo') (hg:wr.grownBy w' vt.ownBlock) (hn:Newer wr vt vt'):RcM w ve cs todo' inn out vt' vI vO w':=by
 have hf:=Far.of_grown hg
 have hne : ∀ {v:Value} {l:List Txt},OwnIds wr w.heap.size v l→Ap v vt → ∀ k,v.ownBlock=some k→some k ∉ [vt.ownBlock]:=fun {v l} ho ha k hk hm=>ha k hk (List.mem_singleton.1 hm).symm
 have hp : ∀ {p:Nat} {v:Value},Blk wr p 72 #[v]→some p ∉ [vt.ownBlock]:=fun hb hm=>own_blk_ne h.t hb (by decide) (List.mem_singleton.1 hm)
 refine ⟨hok,ht,h.i.far hf (hp h.i.blk) (hne h.i.own h.a2),h.o.far hf (hp h.o.blk) (hne h.o.own h.a3),hf.own h.e (hne h.e h.a6),h.a1,(h.a2.symm.newer hn (own_lt h.i.own)).symm,(h.a3.symm.newer hn (own_lt h.o.own)).symm,h.a4,h.a5,(h.a6.symm.newer hn (own_lt h.e)).symm,?_⟩
 exact h.bel.trans (hf.below h.bel.size fun k hk=>own_ge h.t k (List.mem_singleton.1 hk).symm)
end
theorem inL_sortU (l:List Txt) (n:Txt):inL (sortU l) n=inL l n:=by
 have:=(sortU_law l).2 n
 rw [Bool.eq_iff_iff,inL_iff,inL_iff]
 exact this
theorem cutO_sortU (cut:List Txt) (n:Txt) (o:ObjL):cutO (sortU cut) n o=cutO cut n o:=by unfold cutO;rw [inL_sortU]
end Go.Proofs.YtlojebhcemfodaaGreatDoor
namespace Go.Proofs.YtlojebhcemfodaaGreatDoor
open Go.RowKit
attribute [local go_sem ↓] ldvI_eq ldvO_eq
theorem last_cases : ∀ (l:List Txt),l=[] ∨ ∃ t x,l=t++[x]
 | [] => .inl rfl
 | a::l => .inr (match last_cases l with
   | .inl h=>⟨[],a,by rw [h];rfl⟩
   | .inr ⟨t,x,h⟩=>⟨a::t,x,by rw [h];rfl⟩)
theorem links_len {o:ObjL} (h:Small o):(linksL o).length≤70:=by
 have h1:=h.ents
 have h2:=h.pars
 unfold linksL
 split
 ·rw [List.length_map];exact h1
 ·split
  ·rw [List.length_cons,List.length_map];omega
  ·split<;>simp
theorem linksR_ok {o:ObjL} (h:ObjOk o) : ∀ x∈linksL o,LinkOk x:=by
 show ∀ x∈linksL o,x.id.length=32
 intro x hx
 unfold linksL at hx
 split at hx
 ·obtain ⟨e,he,rfl⟩:=List.mem_map.1 hx
  exact (h.ents e he).id
 ·split at hx
  ·rcases List.mem_cons.1 hx with rfl | hx
   ·exact h.tree
   ·obtain ⟨p,hp,rfl⟩:=List.mem_map.1 hx
    exact h.pars p hp
  ·split at hx
   ·rw [List.mem_singleton.1 hx];exact h.target
   ·simp at hx
theorem cut_small {cut:List Txt} {n:Txt} {o:ObjL} (h:Small o):Small (cutO cut n o):=by
 unfold cutO
 split
 ·exact small_cut h
 ·exact h
theorem cut_ok {cut:List Txt} {n:Txt} {o:ObjL} (h:ObjOk o):ObjOk (cutO cut n o):=by
 unfold cutO
 split
 ·exact ok_cut h
 ·exact h
theorem dec_small {t:Txt} {o:ObjL} (h:decO t=some o):Small o:=small_enc (dec_back h).1
theorem objS_some {S:List StL} {n:Txt} {s:StL} {o:ObjL} (hg:getS S n=some s) (hd:decO s.text=some o):objS S n=some o:=by unfold objS;rw [hg];exact hd
theorem objS_none {S:List StL} {n:Txt} (hg:getS S n=none):objS S n=none:=by unfold objS;rw [hg]
theorem nextS_len {S:List StL} {cut:List Txt} (n:Txt):(nextS S cut n).length≤70:=by
 unfold nextS objS
 cases hg:getS S n with
 | none=>simp
 | some s=>
   simp only
   cases hd:decO s.text with
   | none=>simp
   | some o=>unfold nextO;rw [List.length_map];exact links_len (cut_small (dec_small hd))
theorem isS_mem {S:List StL} {n:Txt} (h:isS S n=true):n∈S.map StL.id:=by
 unfold isS objS at h
 cases hg:getS S n with
 | none=>rw [hg] at h;cases h
 | some s=>
   obtain ⟨h1,h2⟩:=getS_id hg
   exact List.mem_map.2 ⟨s,h1,h2⟩
theorem StkI.few {S:List StL} {cut ini todo inn out:List Txt} (h:StkI S cut ini todo inn out):inn.length≤S.length∧out.length≤ini.length+S.length*70:=by
 refine ⟨?_,?_⟩
 ·have:=nodup_len (rise_nodup h.ri) (m:=S.map StL.id) fun x hx=>isS_mem (h.i1 x hx).2
  rwa [List.length_map] at this
 ·exact Nat.le_trans (nodup_len (rise_nodup h.ro) fun x hx=>(h.o1 x hx).1.inU) (allU_len fun x _=>nextS_len _)
theorem insU_len_new {l:List Txt} {x:Txt} (h:RiseL l) (hi:inL l x=false):(insU l x).length=l.length+1:=by
 rw [←insU_put h hi];simp;omega
theorem link_idR {w:World} {g o:Nat} {y:LinkL} (h:w.rangeAt g o (linkC y)):w.rangeAt g o (u8s y.id).toList:=fun j u hu=>h j u (by
 unfold linkC
 rw [List.getElem?_append_left (List.getElem?_eq_some_iff.1 hu).1]
 exact hu)
theorem szLinkR : (Tryz.prog.info? 81).map (·.size)=some 33:=by kernel_rfl
theorem zeroLinkR (W:World):(zeroValue 81).run Tryz.prog W = .ok zLink W:=by
 obtain ⟨i,h1,h2,_⟩:=Tryz.linkTy.hi
 simp [zeroValue,typeInfo,h1,h2]
set_option maxRecDepth 100000 in
set_option maxHeartbeats 8000000 in
theorem graReach_calls {w:World} {base p:Nat} {vl:Value} {S:List StL} (hS:StoAt w base p vl S) (ini cut:List Txt) (hiok : ∀ x∈ini,x.length=32) (hcok : ∀ x∈cut,x.length=32) (hU:ini.length+S.length*70≤800000) (hcl:cut.length≤800000) (vf vc:Value) (hvf:Ids w vf ini) (hvc:Ids w vc cut) :
 Calls Tryz.prog 11 #[.pointer (some ⟨p,0,none⟩),vf,vc] w fun e w' => ∃ va vb a b,e = .returned (.tuple #[va,vb])∧RchIs S cut ini true a∧RchIs S cut ini false b∧OwnIds w' w.heap.size va a∧OwnIds w' w.heap.size vb b∧(∀ x∈a,x.length=32)∧(∀ x∈b,x.length=32)∧a.length≤S.length∧b.length≤ini.length+S.length*70∧Below w.heap.size w w':=by
 obtain ⟨W1,hW1⟩ : ∃ W1,w.alloc (.cells #[.slice none 0 0] 72)=W1:=⟨_,rfl⟩
 have n1:Blk W1 w.heap.size 72 #[.slice none 0 0]:=by rw [←hW1];exact Blk.new _ _ _
 have b1:Below w.heap.size w W1:=by rw [←hW1];exact (Below.refl _ _).alloc (Nat.le_refl _) _
 have e1:W1.heap.size=w.heap.size+1:=by rw [←hW1];exact size_alloc' _ _
 obtain ⟨W2,hW2⟩ : ∃ W2,W1.alloc (.cells #[.slice none 0 0] 72)=W2:=⟨_,rfl⟩
 have bb2:Below W1.heap.size W1 W2:=by rw [←hW2];exact (Below.refl _ _).alloc (Nat.le_refl _) _
 have m2:Blk W2 W1.heap.size 72 #[.slice none 0 0]:=by rw [←hW2];exact Blk.new _ _ _
 have b2:=bthen b1 b1.size bb2
 have n2:=n1.below bb2 n1.lt
 have hof:=Lib.hid (graOf_calls cut hcok (by omega) vc W2 (hvc.below b2))
 have hcln:=fun W (hW:Below w.heap.size w W)=>Lib.hid (cloneGids_calls ini hiok (by omega) vf W (hvf.below hW))
 have hsz2:=b2.size
 have hzi:=zeroIdV
 have hzo:=zeroObj
 have hzl:=zeroLinkR
 have hZ32:(u8s noId).size=32:=by rw [u8s_size];rfl
 have hz72:=zObj_size
 generalize u8s noId=Z at *
 obtain ⟨Af,cf,rfl,_⟩:=hvf
 obtain ⟨Ac,cc,rfl,_⟩:=hvc
 rw [e1] at m2
 go_enter Tryz.func11,Tryz.ntmps11
 go_wp2_with (first
  | ((with_reducible refine hof.out.mono ?_);rintro e w3 ⟨ve,rfl,hve,hb3⟩
     have b3:=bthen b2 hsz2 hb3
     have hcl3:=hcln w3 b3)
  | ((with_reducible refine hcl3.out.mono ?_);rintro e w4 ⟨vt,rfl,hvt,hb4⟩))
 have b4:=bthen b3 b3.size hb4
 have b24:=bthen hb3 hb3.size hb4
 have ha6:Ap ve vt:=fun k hk e=>by
  have h1:=own_lt hve k hk
  have h2:=own_ge hvt k e
  omega
 have hM:RcM w ve (sortU cut) ini [] [] vt (.slice none 0 0) (.slice none 0 0) w4:=⟨hiok,own_low' hvt b3.size,⟨n2.below b24 n2.lt,World.ownsRow_nil _ _ _ _,by simp,List.Pairwise.nil⟩,⟨m2.below b24 m2.lt,World.ownsRow_nil _ _ _ _,by simp,List.Pairwise.nil⟩,own_below (own_low' hve hsz2) hb4, .nil_l _ _ _, .nil_l _ _ _, .nil_l _ _ _, .nil_r _ _ _, .nil_r _ _ _,ha6,b4⟩
 have hst:StkI S cut ini ini [] [] := .start
 obtain ⟨Ae,ce,rfl⟩:=own_form' hve
 have hve0:Hid (sortU cut=sortU cut):=Lib.hid rfl
 clear hof hcln hvt hve hb4 hb3 b24 n2 m2 n1 hcl3
 have hcs:Hid (∀ x∈sortU cut,x.length=32):=Lib.hid fun x hx=>hcok x (((sortU_law cut).2 x).1 hx)
 have hcr:Hid (RiseL (sortU cut)):=Lib.hid (sortU_law cut).1
 have hcsl:(sortU cut).length≤800000:=Nat.le_trans (sortU_len cut) hcl
 have hcO:Hid (∀ n o,cutO (sortU cut) n o=cutO cut n o):=Lib.hid (cutO_sortU cut)
 generalize sortU cut=CS at *
 clear hve0
 go_loopg [11] (S.length*71+ini.length) (fun f vt wr => ∃ (todo inn out:List Txt) (vI vO:Value),f=(S.length-inn.length)*71+todo.length∧todo.length≤ini.length+inn.length*70∧StkI S cut ini todo inn out∧RcM w (.slice Ae CS.length ce) CS todo inn out vt vI vO wr)
 case atStart=>exact ⟨ini,[],[],_,_,by simp,by simp,hst,hM⟩
 case round=>
  clear hM hst b3 b4 b1 bb2 b2 hW1 hW2
  obtain ⟨todo,inn,out,vI,vO,hf,htl,hst,hM⟩:=hrel
  have hfew:=hst.few
  rcases last_cases todo with rfl | ⟨t,x,rfl⟩
  ·obtain ⟨At,ct,rfl⟩:=own_form' hM.t
   have cI:=fun W (hW:Below wr.heap.size wr W)=>(hM.below hW).i.c0
   have cO:=fun W (hW:Below wr.heap.size wr W)=>(hM.below hW).o.c0
   obtain ⟨hr1,hr2⟩:=hst.end_
   have hoI:=hM.i.own
   have hoO:=hM.o.own
   have hkI:=hM.i.ok
   have hkO:=hM.o.ok
   have hbel:=hM.bel
   obtain ⟨AI,cI',rfl⟩:=own_form' hoI
   obtain ⟨AO,cO',rfl⟩:=own_form' hoO
   clear hM hst
   go_wp2_with (fail)
   refine wp_region_class (C:=fun W=>Below wr.heap.size wr W) (by kernel_rfl) (by kernel_rfl) (Below.refl _ _).drew ?_
   repeat
    first
     | ((with_reducible refine wpQuiet_ex ?_ ?_)
        ·(go_simp;done)
        apply Exists.intro
        refine ⟨fun W hW=>?_,?_⟩
        ·first
          | (have q0:=cI W hW
             have q1:=cO W hW
             go_simp
             rfl)
        simp only [Act.put,List.setIfInBounds_toArray,List.set_cons_zero,List.set_cons_succ])
     | ((with_reducible refine wpQuiet_pass ?_ ?_)
        ·(first | rfl | (go_simp;done))
        simp only [Act.put,List.setIfInBounds_toArray,List.set_cons_zero,List.set_cons_succ])
   with_reducible refine wpQuiet_nil ?_
   intro w5 hW5
   go_wp2
   go_ret2
   exact ⟨_,_,inn,out,rfl,hr1,hr2,own_below hoI hW5,own_below hoO hW5,hkI,hkO,hfew.1,hfew.2,bthen hbel hbel.size hW5⟩
  ·have hxi:=hM.tok x (by simp)
   have htl2:t.length+1≤ini.length+inn.length*70:=by rw [List.length_append,List.length_singleton] at htl;exact htl
   have hf2:gk=(S.length-inn.length)*71+(t.length+1):=by rw [hf,List.length_append,List.length_singleton]
   clear hf htl
   have hrow:=Row.of_own (fun y hy=>idC_len (hM.tok y hy)) hM.t
   rw [List.length_append,List.length_singleton] at hrow
   rcases hrow with ⟨_,h⟩ | ⟨g,ct,rfl,_,hrow⟩
   ·simp at h
   have hMp:=hM.pop rfl
   have hw1:IntKind.i64.wrap ((t.length:Nat):Int)=(t.length:Int):=IntWalk.i64_in _ (by omega)
   have hl1:(ldvI ⟨g,t.length*32,none⟩).run Tryz.prog wr = .ok (.agg (u8s x)) wr:=run_ldvI_at (show World.rangeAt wr g (t.length*32) (u8s x).toList from hrow.at_ t.length x (by rw [List.getElem?_append_right (Nat.le_refl _),Nat.sub_self];rfl)) hxi
   have htc:=hrow.le
   rw [List.length_append,List.length_singleton] at htc
   have htc2:(t.length:Int)≤(ct:Int):=by omega
   have htc3:=hrow.top63
   have hx32:(u8s x).size=32:=by rw [u8s_size,hxi]
   have hx1:=u8s_one x
   have hld2 : ∀ W g,Blk W g 42 (u8s x)→(ldvI ⟨g,0,none⟩).run Tryz.prog W = .ok (.agg (u8s x)) W:=fun W g h=>run_ldvI_at (range_blk h) hxi
   have hbel:=hM.bel
   have hbs:=hbel.size
   have hob:=fun W (hW:Below wr.heap.size wr W)=>stoObject_calls (hS.below (bthen hbel hbs hW)) x hxi
   have hpI:w.heap.size<wr.heap.size:=hM.i.lt
   have hpO:w.heap.size+1<wr.heap.size:=hM.o.lt
   have hIlt:=own_lt hM.i.own
   clear hM hrow
   cases hG:getS S x with
   | none=>
     have hob2:Hid (∀ W,Below wr.heap.size wr W→Hid (Calls Tryz.prog 32 #[.pointer (some ⟨p,0,none⟩), .agg (u8s x)] W fun e w'=>e = .returned (.tuple #[.agg zObj, .bool false])∧Below W.heap.size W w')):=Lib.hid fun W hW=>Lib.hid (by
      have h:=hob W hW
      unfold ObjT at h
      rw [hG] at h
      exact h)
     have hns:isS S x=false:=by unfold isS;rw [objS_none hG];rfl
     have hst2:=hst.miss hns
     have hadd:=fun W (hW:Below wr.heap.size wr W)=>Lib.hid (setAdd_calls (hMp.below hW).o (Nat.le_trans hbs hW.size) (by omega) x hxi)
     have hzone:zObj.all (·.oneCell')=true:=zObj_one
     clear hob hG hst hns
     generalize zObj=ZO at *
     go_wp2_with (first
      | ((with_reducible refine lit_new 42 (.tmp 12) (.tmp 29) (u8s x) 32 sz32 hx32 hx1 _ ?_ ?_ ?_ ?_)
         ·first | exact hZ32 | rfl
         ·rfl
         ·rfl
         intro W2 hb2 hbl2
         have hl2:=hld2 W2 _ hb2
         have ho2:=hob2.out W2 hbl2)
      | ((with_reducible refine ho2.out.mono ?_);rintro e w3 ⟨rfl,hb3⟩
         have b3:=bthen hbl2 hbl2.size hb3
         have hi3:=hb2.below hb3 hb2.lt)
      | ((with_reducible refine lit_new 54 (.tmp 13) (.tmp 39) ZO 72 szObj hz72 hzone _ ?_ ?_ ?_ ?_)
         ·first | exact hz72 | rfl
         ·rfl
         ·rfl
         intro W4 hb4 hbl4
         have b4:=bthen b3 b3.size hbl4
         have hl4:=hld2 W4 _ (hi3.below hbl4 hi3.lt)
         have ha4:=hadd W4 b4)
      | ((with_reducible refine ha4.out.mono ?_);rintro e w5 ⟨rfl,vO5,hS5,hf5,hn5⟩))
     have hM5:=(hMp.below b4).out_ hS5 hf5 hn5
     clear hl1 hl2 hl4 hld2 hob2 hadd ha4 ho2 hS5 hf5 hn5
     go_roundg ((S.length-inn.length)*71+t.length)
     case rel=>exact ⟨t,inn,_,vI,vO5,rfl,by omega,hst2,hM5⟩
     case measure=>omega
   | some s=>
     obtain ⟨o,hdo⟩:=(hS.ok.each s (getS_id hG).1).2
     have hobj:=objS_some hG hdo
     have hns:isS S x=true:=by unfold isS;rw [hobj];rfl
     have hnx:nextS S cut x=(linksL (cutO CS x o)).map LinkL.id:=by unfold nextS;rw [hobj,hcO.out];rfl
     have hsm:=dec_small hdo
     have hob2:Hid (∀ W,Below wr.heap.size wr W→Hid (Calls Tryz.prog 32 #[.pointer (some ⟨p,0,none⟩), .agg (u8s x)] W fun e w'=>(∃ A1 A2 k1 k2,e = .returned (.tuple #[.agg (objC o (.slice A1 o.ents.length k1) (.slice A2 o.pars.length k2)).toArray, .bool true])∧ObjV w' (.slice A1 o.ents.length k1) (.slice A2 o.pars.length k2) o∧OwnEnts w' W.heap.size (.slice A1 o.ents.length k1) o.ents∧OwnIds w' W.heap.size (.slice A2 o.pars.length k2) o.pars)∧Below W.heap.size W w')):=Lib.hid fun W hW=>Lib.hid (by
      refine (hob W hW).mono fun e w' ⟨h,hb⟩=>⟨?_,hb⟩
      unfold ObjT at h
      rw [hG] at h
      obtain ⟨o',A1,A2,k1,k2,h1,h2,h3,h4,h5⟩:=h
      rw [hdo] at h1
      injection h1 with h1
      subst h1
      exact ⟨A1,A2,k1,k2,h2,h3,h4,h5⟩)
     have hadd:=fun W (hW:Below wr.heap.size wr W)=>Lib.hid (setAdd_calls (hMp.below hW).i (Nat.le_trans hbs hW.size) (by omega) x hxi)
     clear hob hobj hG
     cases hin:inL inn x with
     | true=>
       have hst2:=hst.seen (inL_iff.1 hin)
       have hiu:Hid (insU inn x=inn):=Lib.hid (insU_in hst.ri hin)
       rw [hin] at hadd
       clear hst hnx hin
       go_wp2_with (first
        | ((with_reducible refine lit_new 42 (.tmp 12) (.tmp 29) (u8s x) 32 sz32 hx32 hx1 _ ?_ ?_ ?_ ?_)
           ·first | exact hZ32 | rfl
           ·rfl
           ·rfl
           intro W2 hb2 hbl2
           have hl2:=hld2 W2 _ hb2
           have ho2:=hob2.out W2 hbl2)
        | ((with_reducible refine ho2.out.mono ?_);rintro e w3 ⟨⟨A1,A2,k1,k2,rfl,hv3,oe3,op3⟩,hb3⟩
           have b3:=bthen hbl2 hbl2.size hb3
           have hi3:=hb2.below hb3 hb2.lt
           have hc72:(objC o (.slice A1 o.ents.length k1) (.slice A2 o.pars.length k2)).toArray.size=72:=by rw [List.size_toArray,objC_len hv3.ok]
           have hcone:=objC_all o A1 A2 o.ents.length k1 o.pars.length k2)
        | ((with_reducible refine lit_new 54 (.tmp 13) (.tmp 39) (objC o (.slice A1 o.ents.length k1) (.slice A2 o.pars.length k2)).toArray 72 szObj hc72 hcone _ ?_ ?_ ?_ ?_)
           ·first | exact hz72 | rfl
           ·rfl
           ·rfl
           intro W4 hb4 hbl4
           have b4:=bthen b3 b3.size hbl4
           have hl4:=hld2 W4 _ (hi3.below hbl4 hi3.lt)
           have ha4:=hadd W4 b4)
        | ((with_reducible refine ha4.out.mono ?_);rintro e w5 ⟨rfl,vI5,hS5,hf5,hn5⟩))
       rw [hiu.out] at hS5
       have hM5:=(hMp.below b4).in_ hS5 hf5 hn5
       clear hl1 hl2 hl4 hld2 hob2 hadd ha4 ho2 hS5 hf5 hn5 hiu
       go_roundg ((S.length-inn.length)*71+t.length)
       case rel=>exact ⟨t,inn,out,vI5,vO,rfl,by omega,hst2,hM5⟩
       case measure=>omega
     | false=>
       have hst2:=hst.new hns
       have hil:=insU_len_new hst.ri hin
       rw [hin] at hadd
       rw [hnx] at hst2
       have hfew2:=hst2.few
       have hlk70:(linksL (cutO CS x o)).length≤70:=links_len (cut_small hsm)
       have hlok:Hid (ObjOk o → ∀ y∈linksL (cutO CS x o),LinkOk y):=Lib.hid fun h y hy=>linksR_ok (cut_ok h) y hy
       have hlc:=fun A1 A2 k1 k2 W (h1:Ids W (.slice Ae CS.length ce) CS) (h2:ObjV W (.slice A1 o.ents.length k1) (.slice A2 o.pars.length k2) o)=>Lib.hid (graLinks_calls o hsm x hxi CS hcs.out hcr.out (by omega) (.slice Ae CS.length ce) A1 A2 k1 k2 W h1 h2)
       obtain ⟨NI,hNI⟩ : ∃ NI,insU inn x=NI:=⟨_,rfl⟩
       rw [hNI] at hil hst2 hfew2 hadd
       obtain ⟨Lk,hLk⟩ : ∃ Lk,linksL (cutO CS x o)=Lk:=⟨_,rfl⟩
       rw [hLk] at hst2 hlk70 hlok hlc
       clear hst hnx hin hNI hLk hns hdo
       go_wp2_with (first
        | ((with_reducible refine lit_new 42 (.tmp 12) (.tmp 29) (u8s x) 32 sz32 hx32 hx1 _ ?_ ?_ ?_ ?_)
           ·first | exact hZ32 | rfl
           ·rfl
           ·rfl
           intro W2 hb2 hbl2
           have hl2:=hld2 W2 _ hb2
           have ho2:=hob2.out W2 hbl2)
        | ((with_reducible refine ho2.out.mono ?_);rintro e w3 ⟨⟨A1,A2,k1,k2,rfl,hv3,oe3,op3⟩,hb3⟩
           have b3:=bthen hbl2 hbl2.size hb3
           have hi3:=hb2.below hb3 hb2.lt
           have hc72:(objC o (.slice A1 o.ents.length k1) (.slice A2 o.pars.length k2)).toArray.size=72:=by rw [List.size_toArray,objC_len hv3.ok]
           have hcone:=objC_all o A1 A2 o.ents.length k1 o.pars.length k2)
        | ((with_reducible refine lit_new 54 (.tmp 13) (.tmp 39) (objC o (.slice A1 o.ents.length k1) (.slice A2 o.pars.length k2)).toArray 72 szObj hc72 hcone _ ?_ ?_ ?_ ?_)
           ·first | exact hz72 | rfl
           ·rfl
           ·rfl
           intro W4 hb4 hbl4
           have b4:=bthen b3 b3.size hbl4
           have hi4:=hi3.below hbl4 hi3.lt
           have hl4:=hld2 W4 _ hi4
           have hok4:=hv3.ok
           have oe4:=own_below oe3 hbl4
           have op4:=own_below op3 hbl4
           have hszW:=hbl2.size
           have hsz3:=hb3.size
           have ha4:=hadd W4 b4)
        | ((with_reducible refine ha4.out.mono ?_);rintro e w5 ⟨rfl,vI5,hS5,hf5,hn5⟩
           have hM5:=(hMp.below b4).in_ hS5 hf5 hn5
           have hnot : ∀ k,wr.heap.size≤k→some k ∉ [some w.heap.size,vI.ownBlock]:=fun k hk hm=>by
            simp only [List.mem_cons,List.not_mem_nil,or_false] at hm
            rcases hm with h | h
            ·injection h with h;omega
            ·have:=hIlt k h.symm;omega
           have hi5:=hf5.blk hi4 (hnot _ (Nat.le_refl _))
           have hO5:ObjB w5 w3.heap.size o (.slice A1 o.ents.length k1) (.slice A2 o.pars.length k2):=⟨hf5.blk hb4 (hnot _ (by omega)),hok4.tree,hok4.target⟩
           have oe5:=hf5.own oe4 fun k hk=>hnot k (by have:=own_ge oe4 k hk;omega)
           have op5:=hf5.own op4 fun k hk=>hnot k (by have:=own_ge op4 k hk;omega)
           have hv5:ObjV w5 (.slice A1 o.ents.length k1) (.slice A2 o.pars.length k2) o:=⟨hok4,SliceAt.of_own (fun e h=>entC_len (hok4.ents e h)) oe5,SliceAt.of_own (fun e h=>idC_len (hok4.pars e h)) op5⟩
           have hl5:=hld2 w5 _ hi5
           have hlo5:=run_ldvO hO5 hok4
           have hlc5:=hlc A1 A2 k1 k2 w5 (SliceAt.of_own (fun y hy=>idC_len (hcs.out y hy)) hM5.e) hv5)
        | ((with_reducible refine hlc5.out.mono ?_);rintro e w6 ⟨vl6,rfl,hol6,hb6⟩
           obtain ⟨Al,cl,rfl⟩:=own_form' hol6))
       have hM6:=hM5.below hb6
       have hlok6:=hlok.out hok4
       have hapl:Ap (.slice (some ⟨g,0,none⟩) t.length ct) (.slice Al Lk.length cl):=fun k hk e=>by
        have h1:=own_lt hM5.t k hk
        have h2:=own_ge hol6 k e
        omega
       have hzl33:zLink.cells.size=33:=zLink_cells
       obtain ⟨ZL,hZL⟩ : ∃ ZL,zLink = .agg ZL:=⟨_,rfl⟩
       rw [hZL] at hzl hzl33
       have hzl33:ZL.size=33:=hzl33
       have hM0:RcM w (.slice Ae CS.length ce) CS (t++(Lk.take 0).map LinkL.id) NI out (.slice (some ⟨g,0,none⟩) t.length ct) vI5 vO w6:=by rw [List.take_zero,List.map_nil,List.append_nil];exact hM6
       clear hl1 hl2 hl4 hl5 hlo5 hlc5 hld2 hob2 hadd ha4 ho2 hS5 hf5 hn5 hlc hM5 hM6 hMp oe3 oe4 oe5 op3 op4 op5 hv3 hv5 hO5 hi3 hi4 hi5 hb2 hb4 hnot hlok hZL hc72 hcone hok4 hsm
       go_loopg [11,53] Lk.length (fun f vt vj wq => ∃ j:Nat,vj = .int .i64 j∧j+f=Lk.length∧RcM w (.slice Ae CS.length ce) CS (t++(Lk.take j).map LinkL.id) NI out vt vI5 vO wq∧OwnLinks wq w5.heap.size (.slice Al Lk.length cl) Lk∧Ap vt (.slice Al Lk.length cl))
       case atStart=>exact ⟨0,rfl,by omega,hM0,hol6,hapl⟩
       case round=>
        clear hM0 hol6 hapl hb6
        obtain ⟨j,rfl,hjf,hMj,hol,hap⟩:=hrel
        cases gk with
        | zero=>
          have hki : ¬ (j:Int)<(Lk.length:Int):=by omega
          obtain rfl:j=Lk.length:=by omega
          rw [List.take_length] at hMj
          clear hol hap
          go_wp2_with (fail)
          go_roundg ((S.length-NI.length)*71+(t++Lk.map LinkL.id).length)
          case rel=>exact ⟨_,NI,out,vI5,vO,rfl,by rw [List.length_append,List.length_map];omega,hst2,hMj⟩
          case measure=>rw [List.length_append,List.length_map];have:=hfew2.1;omega
        | succ f=>
          have hki:(j:Int)<(Lk.length:Int):=by omega
          have hjl:j<Lk.length:=by omega
          obtain ⟨gl,ol,cl',hle,hgl,hra⟩:=(OwnLinks.links hlok6 hol).at_ hjl
          injection hle with e1 e2 e3
          subst e1 e3
          obtain ⟨y,hy⟩ : ∃ y,Lk[j]?=some y:=⟨_,List.getElem?_eq_getElem hjl⟩
          have hyg:Lk[j]=y:=by rw [List.getElem?_eq_getElem hjl] at hy;injection hy
          rw [hyg] at hra
          have hyok:LinkOk y:=hlok6 y (List.mem_of_getElem? hy)
          have hyi:y.id.length=32:=hyok
          have hy33:(linkC y).toArray.size=33:=by rw [List.size_toArray,linkC_len hyok]
          have hyone:(linkC y).toArray.all (·.oneCell')=true:=Array.all_eq_true_iff_forall_mem.2 fun u hu=>linkC_one y u (by simpa using hu)
          have hysz:(Tryz.prog.info? 81).map (·.size)=some (linkC y).length:=by rw [linkC_len hyok];exact szLinkR
          have hldy : ∀ W g,Blk W g 81 (linkC y).toArray→(ldvI ⟨g,0,none⟩).run Tryz.prog W = .ok (.agg (u8s y.id)) W:=fun W g h=>by
           have h2:=range_blk h
           rw [List.toList_toArray] at h2
           exact run_ldvI_at (link_idR h2) hyi
          have hy32:(u8s y.id).size=32:=by rw [u8s_size,hyi]
          have hy132:(u8s y.id).size=1*32:=hy32
          have hy1 : ∀ u∈(u8s y.id).toList,u.oneCell'=true:=idC_one y.id
          have hnxt:Hid (t++(Lk.take (j+1)).map LinkL.id=(t++(Lk.take j).map LinkL.id)++[y.id]):=Lib.hid (by rw [List.take_add_one,hy,List.map_append,List.append_assoc];rfl)
          obtain ⟨T,hT⟩ : ∃ T,t++(Lk.take j).map LinkL.id=T:=⟨_,rfl⟩
          have hTl:T.length≤810000:=by rw [←hT,List.length_append,List.length_map,List.length_take];omega
          rw [hT] at hMj hnxt
          have hbsj:=hMj.bel.size
          obtain ⟨At,ct',rfl⟩:=own_form' hMj.t
          have hTk:T.length+1≤9223372036854775807:=by omega
          have hTb:(T.length+1)*32≤140737488355328:=by omega
          have hlen2:Hid ((T++[y.id]).length=T.length+1):=Lib.hid (by rw [List.length_append];rfl)
          have hrow2:Hid (rowsOf idC (T++[y.id])=rowsOf idC T++(u8s y.id).toList):=Lib.hid (by rw [rowsOf_append,rowsOf_one];rfl)
          have hTok:Hid (∀ z∈T++[y.id],z.length=32):=Lib.hid fun z hz=>(List.mem_append.1 hz).elim (hMj.tok z) fun h=>by rw [List.mem_singleton.1 h];exact hyi
          clear hy hyg hT hlok6
          go_wp2_with (first
           | (refine wpList_load_mid rfl 81 (.tmp 55) rfl gl (ol+j*33) rfl (linkC y) _ hra Tryz.underlying81 rfl hysz ?_)
           | ((with_reducible refine lit_new 81 (.tmp 16) (.tmp 56) (linkC y).toArray 33 szLinkR hy33 hyone _ ?_ ?_ ?_ ?_)
              ·first | exact hzl33 | rfl
              ·rfl
              ·rfl
              intro W7 hb7 hbl7
              have hly:=hldy W7 _ hb7
              have hM7:=hMj.below hbl7
              have hol7:=own_below hol hbl7
              have hsz7:=Nat.le_trans hbsj hbl7.size)
           | ((with_reducible refine lit_slice1 (.tmp 59) Tryz.idsTy (u8s y.id) hy32 (by omega) ?_ ?_);rfl)
           | ((with_reducible refine lit_append_new (.tmp 57) (.tmp 60) 1 _ Tryz.idsTy hM7.t (u8s y.id) hy132 hy1 hTk hTb hsz7 ?_ ?_ ?_);rfl;rfl
              intro v8 w8 ho8 hb8 hg8 hn8))
          have ho9:OwnIds w8 w.heap.size v8 (T++[y.id]):=by unfold OwnIds;rw [hlen2.out,hrow2.out];exact ho8
          have hM8:=hM7.push hTok.out ho9 hg8 hn8
          rw [←hnxt.out] at hM8
          have hol8:=(Far.of_grown hg8).own hol7 fun k hk hm=>hap k (List.mem_singleton.1 hm).symm hk
          have hap8:=hap.newer hn8 (own_lt hol7)
          clear hM7 hMj hol hol7 hly hldy ho8 ho9 hra hap hb7
          go_roundg f
          case rel=>exact ⟨j+1,by go_num,by omega,hM8,hol8,hap8⟩
          case measure=>omega
end Go.Proofs.YtlojebhcemfodaaGreatDoor
namespace Go.Proofs.YtlojebhcemfodaaGreatDoor
open Go.RowKit
/-- An item of the document's store: its object's slices with it. -/
structure DiL where
 st:StL
 o:ObjL
 ve:Value
 vp:Value
def ditC (e:DiL):List Value:=(u8s e.st.id).toList ++ .string (B e.st.text)::objC e.o e.ve e.vp
/-- What holds of each: its object is what its text tells. -/
structure DitOk (w:World) (e:DiL):Prop where
 dec:decO e.st.text=some e.o
 id:e.st.id.length=32
 ok:ObjOk e.o
 oe:OwnEnts w 0 e.ve e.o.ents
 op:OwnIds w 0 e.vp e.o.pars
theorem DitOk.val {w:World} {e:DiL} (h:DitOk w e):ObjV w e.ve e.vp e.o:=⟨h.ok,SliceAt.of_own (fun x hx=>entC_len (h.ok.ents x hx)) h.oe,SliceAt.of_own (fun x hx=>idC_len (h.ok.pars x hx)) h.op⟩
theorem DitOk.below {w w':World} {e:DiL} (h:DitOk w e) (hb:Below w.heap.size w w'):DitOk w' e:=⟨h.dec,h.id,h.ok,own_below h.oe hb,own_below h.op hb⟩
theorem DitOk.forms {w:World} {e:DiL} (h:DitOk w e) : ∃ A1 A2 k1 k2,e.ve = .slice A1 e.o.ents.length k1∧e.vp = .slice A2 e.o.pars.length k2:=by
 obtain ⟨A1,k1,e1,_⟩:=h.val.ents
 obtain ⟨A2,k2,e2,_⟩:=h.val.pars
 exact ⟨A1,A2,k1,k2,e1,e2⟩
theorem ditC_len {w:World} {e:DiL} (h:DitOk w e):(ditC e).length=105:=by
 unfold ditC
 rw [List.length_append,u8s_lenS,h.id,List.length_cons,objC_len h.val.ok]
theorem ditC_one {w:World} {e:DiL} (h:DitOk w e) : ∀ u∈ditC e,u.oneCell'=true:=by
 obtain ⟨A1,A2,k1,k2,e1,e2⟩:=h.forms
 intro u hu
 unfold ditC at hu
 rw [e1,e2] at hu
 rcases List.mem_append.1 hu with hu | hu
 ·exact u8v_one e.st.id u (by simpa [u8s] using hu)
 ·rcases List.mem_cons.1 hu with rfl | hu
  ·rfl
  ·have:=Array.all_eq_true_iff_forall_mem.1 (objC_all e.o A1 A2 e.o.ents.length k1 e.o.pars.length k2) u (by simpa using hu)
   exact this
def zDit : Value := .agg ((u8s noId).toList ++ .string (B [])::objC zeroO (.slice none 0 0) (.slice none 0 0)).toArray
theorem Tryz.ditTy : SliceTy Tryz.prog 26 62 zDit 105 232:=⟨Tryz.underlying26,info_parts (by kernel_rfl),by kernel_rfl,by omega⟩
theorem szDit : (Tryz.prog.info? 62).map (·.size)=some 105:=by kernel_rfl
section
variable {w:World} {g o:Nat} {e:DiL}
theorem dit_id (h:w.rangeAt g o (ditC e)):w.rangeAt g o (u8s e.st.id).toList:=fun j u hu=>h j u (by
 unfold ditC
 rw [List.getElem?_append_left (List.getElem?_eq_some_iff.1 hu).1]
 exact hu)
theorem dit_rest (h:w.rangeAt g o (ditC e)) (hid:e.st.id.length=32):w.rangeAt g (o+32) (.string (B e.st.text)::objC e.o e.ve e.vp):=fun j u hu=>by
 have:=h (32+j) u (by
  unfold ditC
  rw [List.getElem?_append_right (by rw [u8s_lenS,hid];omega),u8s_lenS,hid,Nat.add_sub_cancel_left]
  exact hu)
 rwa [←Nat.add_assoc] at this
theorem dit_text (h:w.rangeAt g o (ditC e)) (hid:e.st.id.length=32):w.cell? ⟨g,o+32,none⟩=some (.string (B e.st.text)):=by
 have:=dit_rest h hid 0 _ rfl
 rwa [Nat.add_zero] at this
theorem dit_obj (h:w.rangeAt g o (ditC e)) (hid:e.st.id.length=32):w.rangeAt g (o+33) (objC e.o e.ve e.vp):=fun j u hu=>by
 have:=dit_rest h hid (1+j) u (by
  rw [show 1+j=j+1 from by omega,List.getElem?_cons_succ]
  exact hu)
 rwa [show o+32+(1+j)=o+33+j from by omega] at this
theorem dit_kind (h:w.rangeAt g o (ditC e)) (hid:e.st.id.length=32):w.cell? ⟨g,o+33,none⟩=some (.int .i64 e.o.kind):=by
 have:=dit_obj h hid 0 _ rfl
 rwa [Nat.add_zero] at this
end
/-- A slice value reads as the document's items. -/
abbrev OwnDits (w:World) (B:Nat) (v:Value) (l:List DiL):Prop:=w.ownsRow B 62 105 v l.length (rowsOf ditC l)
structure DocSt (w:World) (vm:Value) (es:List DiL):Prop where
 own:OwnDits w 0 vm es
 each : ∀ e∈es,DitOk w e
 ok:StoOk (es.map (·.st))
theorem DocSt.at_ {w:World} {vm:Value} {es:List DiL} (h:DocSt w vm es):SliceAt w 105 ditC vm es:=SliceAt.of_own (fun e he=>ditC_len (h.each e he)) h.own
theorem DocSt.below {w w':World} {vm:Value} {es:List DiL} (h:DocSt w vm es) (hb:Below w.heap.size w w'):DocSt w' vm es:=⟨own_below h.own hb,fun e he=>(h.each e he).below hb,h.ok⟩
theorem DocSt.few {w:World} {vm:Value} {es:List DiL} (h:DocSt w vm es):es.length≤500000:=by have:=h.ok.few;rwa [List.length_map] at this
/-- Where an id stands in the document's store. -/
def AtR (es:List DiL) (n:Txt) (e:Ending):Prop:=(∃ (k:Nat) (x:DiL),e = .returned (.int .i64 k)∧es[k]?=some x∧getS (es.map (·.st)) n=some x.st)∨(e = .returned (.int .i64 (-1))∧getS (es.map (·.st)) n=none)
theorem getS_drop {s:List StL} {k:Nat} {x:StL} {n:Txt} (hx:s[k]?=some x):getS (s.drop k) n=if x.id=n then some x else getS (s.drop (k+1)) n:=by
 have hlt:=(List.getElem?_eq_some_iff.1 hx).1
 have he:=(List.getElem?_eq_some_iff.1 hx).2
 rw [List.drop_eq_getElem_cons hlt,he]
 unfold getS
 rw [List.find?_cons]
 by_cases h:x.id=n
 ·rw [if_pos h];simp [h]
 ·rw [if_neg h]
  have:(x.id==n)=false:=by simpa using h
  rw [this]
set_option maxRecDepth 100000 in
set_option maxHeartbeats 2000000 in
theorem docAt_calls {w:World} {vm:Value} {es:List DiL} (h:DocSt w vm es) (n:Txt) (hn:n.length=32) :
 Calls Tryz.prog 46 #[.agg #[vm], .agg (u8s n)] w fun e w'=>AtR es n e∧Below w.heap.size w w':=by
 have hfew:=h.few
 have heach:=h.each
 obtain ⟨A,cap,rfl,hcap1,hcap2,hat⟩:=h.at_
 obtain ⟨W1,hW1⟩ : ∃ W1,w.alloc (.cells #[.slice A es.length cap] 28)=W1:=⟨_,rfl⟩
 have s1:Blk W1 w.heap.size 28 #[.slice A es.length cap]:=by rw [←hW1];exact Blk.new _ _ _
 have b1:Below w.heap.size w W1:=by rw [←hW1];exact (Below.refl _ _).alloc (Nat.le_refl _) _
 obtain ⟨W2,hW2⟩ : ∃ W2,W1.alloc (.cells (u8s n) 42)=W2:=⟨_,rfl⟩
 have n2:Blk W2 W1.heap.size 42 (u8s n):=by rw [←hW2];exact Blk.new _ _ _
 have bb2:Below W1.heap.size W1 W2:=by rw [←hW2];exact (Below.refl _ _).alloc (Nat.le_refl _) _
 have s2:=s1.below bb2 s1.lt
 have b2:=bthen b1 b1.size bb2
 have hG0:Hid (getS ((es.map (·.st)).drop 0) n=getS (es.map (·.st)) n):=rfl
 have hsI:(Tryz.prog.info? 42).map (·.size)=some (u8s n).toList.length:=by rw [u8s_lenS,hn];exact sz32
 have hag:Value.agg (u8s n) = .agg (u8s n).toList.toArray:=by rw [Array.toArray_toList]
 unfold AtR
 generalize getS (es.map (·.st)) n=G at *
 clear h
 go_enter Tryz.func46,Tryz.ntmps46
 go_wp2
 go_loopw [5] (fun vi wr => ∃ k:Nat,vi = .int .i64 k∧k≤es.length∧Hid (getS ((es.map (·.st)).drop k) n=G)∧Below W2.heap.size W2 wr) (fun vi _=>es.length-(intOf vi).toNat)
 case atStart=>exact ⟨0,rfl,by omega,hG0,Below.refl _ _⟩
 case round=>
  obtain ⟨k,rfl,hk,hrel,hbel⟩:=hrel
  have hbr:=bthen b2 b2.size hbel
  have c0:wr.cell? ⟨w.heap.size,0,none⟩=some (.slice A es.length cap):=(s2.below hbel s2.lt).cell 0
  clear hW1 hW2
  by_cases hlt:k<es.length
  ·have hki:(k:Int)<(es.length:Int):=by omega
   obtain ⟨ga,oa,rfl,hga,hca⟩:=hat (by omega)
   obtain ⟨x,hx⟩ : ∃ x,es[k]?=some x:=⟨_,List.getElem?_eq_getElem hlt⟩
   have hxid:=(heach x (List.mem_of_getElem? hx)).id
   have hxr:=dit_id (hca k x hx)
   have hgd:=getS_drop (n:=n) (show (es.map (·.st))[k]?=some x.st by rw [List.getElem?_map,hx];rfl)
   have hsx:(Tryz.prog.info? 42).map (·.size)=some (u8s x.st.id).toList.length:=by rw [u8s_lenS,hxid];exact sz32
   have heq:=fun W=>run_eql_id W x.st.id n hxid hn
   obtain ⟨bo,hbo⟩ : ∃ bo,decide (x.st.id=n)=bo:=⟨_,rfl⟩
   rw [hbo] at heq
   have hbo:=Lib.hid hbo
   have hxh:=Lib.hid hx
   clear hx hca hat heach
   go_wp2
   refine wp_region_class (C:=fun W=>Below W2.heap.size W2 W) (by kernel_rfl) (by kernel_rfl) hbel.drew ?_
   repeat
    first
     | ((with_reducible refine wpQuiet_ex ?_ ?_)
        ·(go_simp;done)
        apply Exists.intro
        refine ⟨fun W hW=>?_,?_⟩
        ·first
          | exact quiet_load_mid _ _ rfl ga (oa+k*105) rfl (u8s x.st.id).toList _ (rangeAt_below hxr hga (bthen b2 b2.size hW)) Tryz.underlying42 rfl hsx rfl
          | exact quiet_load_mid _ _ rfl W1.heap.size 0 rfl (u8s n).toList _ (range_blk (n2.below hW n2.lt)) Tryz.underlying42 rfl hsI rfl
          | (have q0:W.cell? ⟨w.heap.size,0,none⟩=some (.slice (some ⟨ga,oa,none⟩) es.length cap):=(s2.below hW s2.lt).cell 0
             have q1:=heq W
             rw [←Array.toArray_toList (xs:=u8s x.st.id),←Array.toArray_toList (xs:=u8s n)] at q1
             go_simp
             first
              | rfl)
        simp only [Act.put,List.setIfInBounds_toArray,List.set_cons_zero,List.set_cons_succ])
     | ((with_reducible refine wpQuiet_pass ?_ ?_)
        ·(first | rfl | (go_simp;done))
        simp only [Act.put,List.setIfInBounds_toArray,List.set_cons_zero,List.set_cons_succ])
   with_reducible refine wpQuiet_nil ?_
   intro w5 hW5
   have hb5:=bthen b2 b2.size hW5
   have hgd2:=hrel.out
   rw [←List.map_drop] at hgd hgd2
   rw [hgd2] at hgd
   cases bo
   rotate_left
   ·have hxn:x.st.id=n:=of_decide_eq_true hbo.out
    rw [if_pos hxn] at hgd
    have hgd:Hid (G=some x.st):=hgd
    clear hgd2 hxn hrel hG0
    go_wp2
    go_ret
    exact ⟨.inl ⟨k,x,rfl,hxh.out,hgd.out⟩,hb5⟩
   ·have hxn : ¬ x.st.id=n:=of_decide_eq_false hbo.out
    rw [if_neg hxn] at hgd
    have hgd:Hid (getS ((es.map (·.st)).drop (k+1)) n=G):=by show _=_;exact hgd.symm
    clear hgd2 hxn hrel hG0
    go_wp2
    go_roundw
    case rel=>exact ⟨k+1,by go_num,by omega,hgd,hW5⟩
    case measure=>simp [intOf];omega
  ·have hki : ¬ (k:Int)<(es.length:Int):=by omega
   have hGn:Hid (G=none):=by
    show _=_
    rw [←hrel.out,List.drop_eq_nil_of_le (by rw [List.length_map];omega)]
    rfl
   clear hrel hG0 hat
   go_wp2
   go_ret
   exact ⟨.inr ⟨rfl,hGn.out⟩,hbr⟩
end Go.Proofs.YtlojebhcemfodaaGreatDoor
