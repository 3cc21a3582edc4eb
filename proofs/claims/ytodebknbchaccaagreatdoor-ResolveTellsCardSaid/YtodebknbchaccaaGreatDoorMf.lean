/- Texts of this claim, laid together: RdL, RdM, RdB, RdI, RdO, RdB1, RdT, RdC, GsP. -/
import Derived.Test.YtodebknbchaccaaGreatDoorMe
import Derived.Deep.CutBlock
namespace Go.Proofs.YtodebknbchaccaaGreatDoor
open Go.RowKit
section
theorem val7_pos : ∀ (i:List UInt8) (c:UInt8),c≠0→c.toNat<128→1≤val7 (i++[c])
 | [],c,h,h1=>by
   have:c.toNat≠0:=fun e=>h (UInt8.toNat_inj.1 e)
   show 1≤c.toNat%128+128*val7 []
   have e:val7 []=0:=rfl
   omega
 | x::i,c,h,h1=>by
   have:=val7_pos i c h h1
   show 1≤x.toNat%128+128*val7 (i++[c])
   omega
theorem putF_of : ∀ (i:List UInt8) (f:Nat) (c:UInt8),(∀ x∈i,128≤x.toNat)→c.toNat<128→(i≠[]→c≠0)→i.length≤f→putF f (val7 (i++[c]))=i++[c]
 | [],f,c,_,h2,_,_=>by
   have e:val7 ([]++[c])=c.toNat:=by
    show c.toNat%128+128*val7 []=_
    have e:val7 []=0:=rfl
    omega
   rw [e,zBu _ _ h2]
   simp
 | x::i,0,c,_,_,_,h4=>by simp at h4
 | x::i,f+1,c,h1,h2,h3,h4=>by
   have hx:=h1 x (by simp)
   have hx2:x.toNat<256:=x.toNat_lt
   have hp:=val7_pos i c (h3 (by simp)) h2
   have e:val7 (x::i++[c])=x.toNat%128+128*val7 (i++[c]):=rfl
   have ih:=putF_of i f c (fun y hy=>h1 y (by simp [hy])) h2 (fun _=>h3 (by simp)) (by simp at h4;omega)
   rw [e,zDm _ _ (by omega),show (x.toNat%128+128*val7 (i++[c])) / 128=val7 (i++[c]) from by omega,ih,show 128+(x.toNat%128+128*val7 (i++[c]))%128=x.toNat from by omega]
   simp
theorem put_get {l:List UInt8} {n k:Nat} (h:get l=some (n,k)):l.take k=put n∧l=put n++l.drop k:=by
 have key:l.take k=put n:=by
  unfold get at h
  split at h
  ·rename_i hc
   simp only [Option.some.injEq,Prod.mk.injEq] at h
   obtain ⟨rfl,rfl⟩:=h
   obtain ⟨h1,h2,h3,h4⟩:=hc
   have e:l.take (lead l+1)=l.take (lead l)++[l[lead l]]:=by
    rw [List.take_add_one,List.getElem?_eq_getElem h1];rfl
   rw [e]
   unfold put
   refine (putF_of _ 9 _ ?_ (zDH l h1) ?_ (by rw [List.length_take];omega)).symm
   ·intro x hx
    obtain ⟨i,hi,rfl⟩:=List.getElem_of_mem hx
    rw [List.length_take] at hi
    rw [List.getElem_take]
    exact lead_big l i (by omega) (by omega)
   ·intro hne h0
    apply h4
    refine ⟨?_,?_⟩
    ·rcases Nat.eq_zero_or_pos (lead l) with h | h
     ·rw [h] at hne;simp at hne
     ·exact h
    ·rw [getD_lt h1];exact h0
  ·cases h
 exact ⟨key,by rw [←key];exact (List.take_append_drop k l).symm⟩
theorem takeP_text (t r:Txt) (ht:t.length≤18446744073709551615):takeP (textE t++r)=some (t,r):=by
 unfold takeP textE
 rw [List.append_assoc,get_put _ ht]
 simp
theorem zCh {s t r:Txt} (h:takeP s=some (t,r)):s=textE t++r:=by
 unfold takeP at h
 cases hg:get s with
 | none=>rw [hg] at h;cases h
 | some p=>
   obtain ⟨n,k⟩:=p
   rw [hg] at h
   simp only at h
   split at h
   ·rename_i hn
    injection h with h
    injection h with h1 h2
    have h3:=(put_get hg).2
    subst h1;subst h2
    unfold textE
    rw [List.length_take,Nat.min_eq_left hn,List.append_assoc,List.take_append_drop]
    exact h3
   ·cases h
section
variable {r:Rd}
end
theorem zDM (a b:Txt) (n:Nat) (hn:a.length=n):rBytes n (a++b,false)=(a,(b,false)):=by
 unfold rBytes
 rw [if_neg (by simp;omega)]
 subst hn
 simp
theorem rNum_app (n:Nat) (hn:n≤18446744073709551615) (b:Txt):rNum (put n++b,false)=(n,(b,false)):=by
 unfold rNum
 rw [if_neg (by simp)]
 simp only [get_put n hn b]
 simp
theorem rText_app (t b:Txt) (ht:t.length≤18446744073709551615):rText (textE t++b,false)=(t,(b,false)):=by
 unfold rText
 rw [if_neg (by simp)]
 simp only [takeP_text t b ht]
theorem rId_app (i b:Txt) (hi:i.length=32):rId (i++b,false)=(i,(b,false)):=by
 unfold rId
 rw [zDM i b 32 hi]
 have:i≠[]:=by intro e;rw [e] at hi;simp at hi
 simp [idOr,this]
theorem zCa (c:UInt8) (b:Txt):rKind (c::b,false)=(c.toNat,(b,false)):=by
 unfold rKind
 rw [show (c::b:Txt)=[c]++b from rfl,zDM [c] b 1 rfl]
 rfl
theorem zDv {k:Int} (h1:0≤k) (h2:k<256):((byteK k).toNat:Int)=k:=by
 unfold byteK
 rw [zBy _ (by omega)]
 omega
theorem byteK_back (c:UInt8):byteK (c.toNat:Int)=c:=by
 unfold byteK
 have:=c.toNat_lt
 rw [show ((c.toNat:Int)%256).toNat=c.toNat from by omega]
 simp
theorem rEnt_app (e:EntL) (b:Txt) (hk:e.kind=1∨e.kind=2) (hi:e.id.length=32) (hn:e.name.length≤18446744073709551615):rEnt (entE e++b,false)=(e,(b,false)):=by
 unfold rEnt entE
 rw [List.cons_append,List.append_assoc,zCa]
 simp only [rText_app e.name (e.id++b) hn,rId_app e.id b hi]
 have:=zDv (k:=e.kind) (by omega) (by omega)
 rw [this]
theorem rTree_app : ∀ (l:List EntL) (f:Nat) (acc:List EntL),(∀ e∈l,(e.kind=1∨e.kind=2)∧e.id.length=32∧e.name.length≤18446744073709551615)→l.length≤f→rTree f (entsE l,false) acc=(acc++l,([],false))
 | [],0,acc,_,_=>by simp [rTree,entsE]
 | [],f+1,acc,_,_=>by simp [rTree,entsE]
 | e::l,0,acc,_,hf=>by simp at hf
 | e::l,f+1,acc,h,hf=>by
   have h1:=h e (by simp)
   have he:entsE (e::l)=entE e++entsE l:=by simp [entsE]
   have hne:entE e++entsE l≠[]:=by unfold entE;simp
   rw [rTree,he,if_neg (by simp [hne]),rEnt_app e _ h1.1 h1.2.1 h1.2.2]
   simp only
   rw [rTree_app l f _ (fun x hx=>h x (by simp [hx])) (by simp at hf;omega)]
   simp
theorem rPars_app (b:Txt) : ∀ (l:List Txt) (acc:List Txt),(∀ p∈l,p.length=32)→rPars l.length (l.flatten++b,false) acc=(acc++l,(b,false))
 | [],acc,_=>by simp [rPars]
 | p::l,acc,h=>by
   rw [List.length_cons,rPars,if_neg (by simp),List.flatten_cons,List.append_assoc,rId_app p _ (h p (by simp))]
   simp only
   rw [rPars_app b l _ (fun x hx=>h x (by simp [hx]))]
   simp
end
theorem zBM {o:ObjL} (h:commitN o=true):o.tree=noId∧o.pars=[]∧o.time=0∧o.text=[]:=by
 unfold commitN at h;simp at h;exact ⟨h.1.1.1,h.1.1.2,h.1.2,h.2⟩
theorem tag_all {o:ObjL} (h:tagN o=true):o.target=noId∧o.of_=0∧o.name=[]:=by
 unfold tagN at h;simp at h;exact ⟨h.1.1,h.1.2,h.2⟩
theorem entE_pos (e:EntL):1≤(entE e).length:=by unfold entE;simp
theorem entsE_count (l:List EntL):l.length≤(entsE l).length:=by
 induction l with
 | nil=>simp
 | cons e l ih=>
   have:entsE (e::l)=entE e++entsE l:=by simp [entsE]
   have h:=entE_pos e
   rw [this,List.length_append,List.length_cons]
   omega
theorem read_enc (o:ObjL) (hm:mayB o=true) (htr:o.tree.length=32) (hta:o.target.length=32) (he : ∀ e∈o.ents,e.id.length=32) (hp : ∀ p∈o.pars,p.length=32) (htm:o.time<4294967296) (hl:(bodyO o).length≤4096) :
 readO (byteK o.kind).toNat (bodyO o,false)=(o,([],false)):=by
 have ha:=may_alone hm
 unfold aloneB at ha
 rcases zEb hm with hk | hk | hk | hk
 ·rw [hk] at ha
  simp at ha
  obtain ⟨c1,c2,c3,c4⟩:=zBM ha.1.2
  obtain ⟨t1,t2,t3⟩:=tag_all ha.2
  have e1:=zBJ ha.1.1
  have hb:bodyO o=o.data:=by unfold bodyO;rw [if_pos hk]
  rw [hb,hk]
  show readO 1 _=_
  unfold readO rBlob
  rw [if_neg (by omega),if_neg (by omega),if_neg (by omega)]
  have:=zDM o.data [] o.data.length rfl
  rw [List.append_nil] at this
  simp only [this]
  obtain ⟨kind,data,ents,tree,pars,time,text,target,of_,name⟩:=o
  simp only at *
  subst hk c1 c2 c3 c4 t1 t2 t3 e1
  rfl
 ·have hf:entsB o.ents=true:=by
   unfold mayB at hm
   rw [if_pos hk] at hm
   simp at hm
   exact hm.2
  rw [hk] at ha
  simp at ha
  obtain ⟨c1,c2,c3,c4⟩:=zBM ha.1.2
  obtain ⟨t1,t2,t3⟩:=tag_all ha.2
  have e1:=zBH ha.1.1
  have hb:bodyO o=entsE o.ents:=by unfold bodyO;rw [if_neg (by omega),if_pos hk]
  rw [hb,hk]
  show readO 2 _=_
  unfold readO rTr
  rw [if_pos rfl]
  have hfine:=(ents_fine hf).2
  have:=rTree_app o.ents (entsE o.ents).length [] (fun e hx=>⟨(hfine e hx).2,he e hx,by have:=zEk (hfine e hx).1;omega⟩) (entsE_count _)
  simp only [this,List.nil_append]
  obtain ⟨kind,data,ents,tree,pars,time,text,target,of_,name⟩:=o
  simp only at *
  subst hk c1 c2 c3 c4 t1 t2 t3 e1
  rfl
 ·have hp8:o.pars.length≤8:=by
   unfold mayB at hm
   rw [if_neg (by omega),if_pos hk] at hm
   simp at hm
   exact hm.2
  rw [hk] at ha
  simp at ha
  obtain ⟨t1,t2,t3⟩:=tag_all ha.2
  have e1:=zBH ha.1.1
  have e2:=zBJ ha.1.2
  have hb:bodyO o=commitE o:=by unfold bodyO;rw [if_neg (by omega),if_neg (by omega),if_pos hk]
  rw [hb] at hl ⊢
  rw [hk]
  show readO 3 _=_
  unfold readO
  rw [if_neg (by omega),if_pos rfl]
  have htx:o.text.length≤18446744073709551615:=by
   unfold commitE textE at hl
   simp only [List.length_append] at hl
   omega
  have hc:commitE o=o.tree++(put o.pars.length++(o.pars.flatten++(put o.time++(textE o.text++[])))):=by unfold commitE;simp
  rw [hc]
  unfold rCommit
  have b1:badIf (decide (8<o.pars.length)) (o.pars.flatten++(put o.time++(textE o.text++[])),false)=(o.pars.flatten++(put o.time++(textE o.text++[])),false):=by
   unfold badIf;rw [decide_eq_false (by omega)];rfl
  have b2:badIf (decide (4294967295<o.time)) (textE o.text++[],false)=(textE o.text++[],false):=by
   unfold badIf;rw [decide_eq_false (by omega)];rfl
  simp only [rId_app o.tree _ htr,rNum_app o.pars.length (by omega),b1,rPars_app _ o.pars [] hp,rNum_app o.time (by omega),b2,rText_app o.text [] htx,List.nil_append]
  rw [Nat.mod_eq_of_lt htm]
  obtain ⟨kind,data,ents,tree,pars,time,text,target,of_,name⟩:=o
  simp only at *
  subst hk t1 t2 t3 e1 e2
  rfl
 ·have hfn:kindB o.of_=true∧nameB o.name=true:=by
   unfold mayB at hm
   rw [if_neg (by omega),if_neg (by omega),if_pos hk] at hm
   simp at hm
   exact ⟨hm.1.2,hm.2⟩
  rw [hk] at ha
  simp at ha
  obtain ⟨c1,c2,c3,c4⟩:=zBM ha.2
  have e1:=zBH ha.1.1
  have e2:=zBJ ha.1.2
  have hb:bodyO o=tagE o:=by unfold bodyO;rw [if_neg (by omega),if_neg (by omega),if_neg (by omega),if_pos hk]
  rw [hb,hk]
  show readO 4 _=_
  unfold readO
  rw [if_neg (by omega),if_neg (by omega),if_pos rfl]
  have hnl:=zEk hfn.2
  have hof:1≤o.of_∧o.of_≤4:=by
   have:=hfn.1
   unfold kindB at this
   simp at this
   exact this
  have hc:tagE o=byteK o.of_::(o.target++(textE o.name++[])):=by unfold tagE;simp
  rw [hc]
  unfold rTag
  have hbk:=zDv (k:=o.of_) (by omega) (by omega)
  simp only [zCa,rId_app o.target _ hta,rText_app o.name [] (by omega),hbk]
  obtain ⟨kind,data,ents,tree,pars,time,text,target,of_,name⟩:=o
  simp only at *
  subst hk c1 c2 c3 c4 e1 e2
  rfl
theorem dec_enc {o:ObjL} {t:Txt} (h:encO o=some t) (htr:o.tree.length=32) (hta:o.target.length=32) (he : ∀ e∈o.ents,e.id.length=32) (hp : ∀ p∈o.pars,p.length=32) (htm:o.time<4294967296):decO t=some o∧t.length≤4096:=by
 unfold encO at h
 split at h
 ·rename_i hc
  obtain ⟨hm,hl⟩:=hc
  injection h with h
  subst h
  refine ⟨?_,hl⟩
  have hbl:(bodyO o).length≤4096:=by unfold wholeO textE at hl;simp at hl;omega
  unfold wholeO at hl ⊢
  unfold decO
  have ht:=takeP_text (bodyO o) [] (by omega)
  rw [List.append_nil] at ht
  have hr:=read_enc o hm htr hta he hp htm hbl
  simp only [ht]
  rw [if_neg (by omega)]
  simp only [hr,hm]
  simp
 ·cases h
section
section
variable {r:Rd}
theorem zCX {n:Nat} (h:(rBytes n r).2.2=false):r.2=false∧r.1=(rBytes n r).1++(rBytes n r).2.1∧(rBytes n r).1.length=n:=by
 unfold rBytes at *
 split at h
 ·cases h
 ·rename_i hc
  rw [if_neg hc]
  have h1 : ¬ r.2=true:=fun h=>hc (.inl h)
  have h2 : ¬ r.1.length<n:=fun h=>hc (.inr h)
  refine ⟨by simpa using h1,(List.take_append_drop n r.1).symm,?_⟩
  show (r.1.take n).length=n
  rw [List.length_take];omega
theorem rNum_back (h:(rNum r).2.2=false):r.2=false∧r.1=put (rNum r).1++(rNum r).2.1:=by
 unfold rNum at *
 split at h
 ·cases h
 ·rename_i hc
  rw [if_neg hc]
  cases hg:get r.1 with
  | none=>rw [hg] at h;cases h
  | some p=>exact ⟨by simpa using hc,(put_get hg).2⟩
theorem zDL (h:(rText r).2.2=false):r.2=false∧r.1=textE (rText r).1++(rText r).2.1:=by
 unfold rText at *
 split at h
 ·cases h
 ·rename_i hc
  rw [if_neg hc]
  cases hg:takeP r.1 with
  | none=>rw [hg] at h;cases h
  | some p=>exact ⟨by simpa using hc,zCh hg⟩
theorem zEe (h:(rId r).2.2=false):r.2=false∧r.1=(rId r).1++(rId r).2.1∧(rId r).1.length=32:=by
 have h1:(rBytes 32 r).2.2=false:=h
 obtain ⟨a,b,c⟩:=zCX h1
 have e:(rId r).1=(rBytes 32 r).1:=by
  unfold rId idOr
  rw [if_neg]
  intro e
  rw [e] at c
  simp at c
 exact ⟨a,by rw [e];exact b,by rw [e];exact c⟩
theorem rKind_back (h:(rKind r).2.2=false):r.2=false∧r.1=byteK ((rKind r).1:Int)::(rKind r).2.1∧(rKind r).1<256:=by
 have h1:(rBytes 1 r).2.2=false:=h
 obtain ⟨a,b,c⟩:=zCX h1
 have e:(rKind r).1=((rBytes 1 r).1.headD 0).toNat:=by
  unfold rKind
  rw [if_neg (by rw [h1];simp)]
 have e2:(rKind r).2.1=(rBytes 1 r).2.1:=rfl
 rw [e,e2]
 generalize hb:(rBytes 1 r).1=l at *
 match l,c with
 | [x],_=>
   refine ⟨a,?_,x.toNat_lt⟩
   show _=byteK ((x.toNat:Nat):Int)::_
   rw [byteK_back]
   exact b
theorem rEnt_back (h:(rEnt r).2.2=false):r.2=false∧r.1=entE (rEnt r).1++(rEnt r).2.1∧(rEnt r).1.id.length=32:=by
 have h1:(rId (rText (rKind r).2).2).2.2=false:=h
 obtain ⟨a1,b1,c1⟩:=zEe h1
 obtain ⟨a2,b2⟩:=zDL a1
 obtain ⟨a3,b3,c3⟩:=rKind_back a2
 refine ⟨a3,?_,c1⟩
 have e:(rEnt r).2.1=(rId (rText (rKind r).2).2).2.1:=rfl
 rw [e]
 show _=byteK ((rKind r).1:Int)::(textE (rText (rKind r).2).1++(rId (rText (rKind r).2).2).1)++_
 rw [List.cons_append,List.append_assoc,←b1,←b2,←b3]
theorem badIf_back {b:Bool} (h:(badIf b r).2=false):b=false∧r.2=false∧badIf b r=r:=by
 cases b with
 | true=>cases h
 | false=>exact ⟨rfl,h,rfl⟩
end
theorem rTree_back : ∀ (f:Nat) (r:Rd) (acc:List EntL),(rTree f r acc).2.2=false→(rTree f r acc).2.1=[]→r.2=false ∧ ∃ l,(rTree f r acc).1=acc++l∧r.1=entsE l ∧ ∀ e∈l,e.id.length=32
 | 0,r,acc,h1,h2=>⟨h1,[],by simp [rTree],h2,fun e he=>by cases he⟩
 | f+1,r,acc,h1,h2=>by
   by_cases hc:r.2=true∨r.1=[]
   ·have e:rTree (f+1) r acc=(acc,r):=by rw [rTree,if_pos hc]
    rw [e] at h1 h2 ⊢
    exact ⟨h1,[],by simp,h2,fun e he=>by cases he⟩
   ·have e:rTree (f+1) r acc=rTree f (rEnt r).2 (acc++[(rEnt r).1]):=by rw [rTree,if_neg hc]
    rw [e] at h1 h2 ⊢
    obtain ⟨a,l,b1,b2,b3⟩:=rTree_back f _ _ h1 h2
    obtain ⟨c1,c2,c3⟩:=rEnt_back a
    refine ⟨c1,(rEnt r).1::l,by rw [b1];simp,?_,?_⟩
    ·rw [c2,b2];simp [entsE]
    ·intro x hx
     rcases List.mem_cons.1 hx with rfl | hx
     ·exact c3
     ·exact b3 x hx
theorem rPars_back : ∀ (n:Nat) (r:Rd) (acc:List Txt),(rPars n r acc).2.2=false→r.2=false ∧ ∃ l,(rPars n r acc).1=acc++l∧r.1=l.flatten++(rPars n r acc).2.1∧l.length=n ∧ ∀ e∈l,e.length=32
 | 0,r,acc,h1=>⟨h1,[],by simp [rPars],rfl,rfl,fun e he=>by cases he⟩
 | n+1,r,acc,h1=>by
   by_cases hc:r.2=true
   ·have e:rPars (n+1) r acc=(acc,r):=by rw [rPars,if_pos hc]
    rw [e] at h1
    rw [h1] at hc
    cases hc
   ·have e:rPars (n+1) r acc=rPars n (rId r).2 (acc++[(rId r).1]):=by rw [rPars,if_neg hc]
    rw [e] at h1 ⊢
    obtain ⟨a,l,b1,b2,b3,b4⟩:=rPars_back n _ _ h1
    obtain ⟨c1,c2,c3⟩:=zEe a
    refine ⟨c1,(rId r).1::l,by rw [b1];simp,?_,by simp [b3],?_⟩
    ·rw [c2,b2];simp
    ·intro x hx
     rcases List.mem_cons.1 hx with rfl | hx
     ·exact c3
     ·exact b4 x hx
theorem commit_back {r:Rd} {i:Txt×Rd} {n:Nat×Rd} {p:List Txt×Rd} {t:Nat×Rd} {x:Txt×Rd} (hi:i=rId r) (hn:n=rNum i.2) (hp:p=rPars n.1 (badIf (decide (8<n.1)) n.2) []) (ht:t=rNum p.2) (hx:x=rText (badIf (decide (4294967295<t.1)) t.2))
 (h1:x.2.2=false) (h2:x.2.1=[]):r.1=i.1++put p.1.length++p.1.flatten++put t.1++textE x.1∧t.1≤4294967295:=by
 obtain ⟨t1,t2⟩:=zDL (r:=badIf (decide (4294967295<t.1)) t.2) (by rw [←hx];exact h1)
 obtain ⟨t3,t4,t5⟩:=badIf_back t1
 have t3:=of_decide_eq_false t3
 rw [←hx,t5,h2,List.append_nil] at t2
 obtain ⟨n1,n2⟩:=rNum_back (r:=p.2) (by rw [←ht];exact t4)
 rw [←ht,t2] at n2
 obtain ⟨p1,l,p2,p3,p4,_⟩:=rPars_back n.1 (badIf (decide (8<n.1)) n.2) [] (by rw [←hp];exact n1)
 obtain ⟨q1,q2,q3⟩:=badIf_back p1
 rw [←hp,q3,n2] at p3
 rw [←hp] at p2
 obtain ⟨m1,m2⟩:=rNum_back (r:=i.2) (by rw [←hn];exact q2)
 rw [←hn,p3] at m2
 obtain ⟨i1,i2,i3⟩:=zEe (r:=r) (by rw [←hi];exact m1)
 rw [←hi,m2] at i2
 refine ⟨?_,by omega⟩
 rw [i2,p2,List.nil_append,p4]
 simp only [List.append_assoc]
theorem zCN (k:Nat) (r:Rd):(readO k r).1.kind=k:=by
 unfold readO
 split
 ·rfl
 ·split
  ·rfl
  ·split<;>rfl
theorem readO_back (k:Nat) (r:Rd) (h1:(readO k r).2.2=false) (h2:(readO k r).2.1=[]) (hm:mayB (readO k r).1=true):r.1=bodyO (readO k r).1:=by
 have hk:=zCN k r
 unfold readO at *
 split at h1
 ·rename_i h
  subst h
  simp only [if_true] at *
  obtain ⟨_,l,b1,b2,_⟩:=rTree_back _ _ _ h1 h2
  rw [b2]
  have e:(rTr 2 r).1.ents=l:=by show (rTree r.1.length r []).1=l;rw [b1];rfl
  unfold bodyO
  rw [if_neg (by omega),if_pos (by omega),e]
 ·rename_i hn2
  rw [if_neg hn2] at *
  split at h1
  ·rename_i h
   subst h
   simp only [if_true] at *
   have hcb:=commit_back (r:=r) rfl rfl rfl rfl rfl h1 h2
   have e3:(rCommit 3 r).1.time=(rNum (rPars (rNum (rId r).2).1 (badIf (decide (8<(rNum (rId r).2).1)) (rNum (rId r).2).2) []).2).1:=Nat.mod_eq_of_lt (by have:=hcb.2;omega)
   unfold bodyO
   rw [if_neg (by omega),if_neg (by omega),if_pos (by omega)]
   unfold commitE
   rw [e3]
   exact hcb.1
  ·rename_i hn3
   rw [if_neg hn3] at *
   split at h1
   ·rename_i h
    subst h
    simp only [if_true] at *
    obtain ⟨t1,t2⟩:=zDL (r:=(rId (rKind r).2).2) h1
    obtain ⟨i1,i2,i3⟩:=zEe t1
    obtain ⟨k1,k2,k3⟩:=rKind_back i1
    have hfin:(rText (rId (rKind r).2).2).2.1=[]:=h2
    rw [hfin,List.append_nil] at t2
    rw [t2] at i2
    rw [i2] at k2
    unfold bodyO
    rw [if_neg (by omega),if_neg (by omega),if_neg (by omega),if_pos (by omega)]
    exact k2
   ·rename_i hn4
    rw [if_neg hn4] at *
    obtain ⟨b1,b2,b3⟩:=zCX (n:=r.1.length) (r:=r) h1
    have hfin:(rBytes r.1.length r).2.1=[]:=h2
    rw [hfin,List.append_nil] at b2
    have hk1:=zEb hm
    rw [hk] at hk1
    have hk2:k=1:=by omega
    unfold bodyO
    rw [if_pos (by rw [hk,hk2];rfl)]
    exact b2
theorem rBytes_le (n:Nat) (r:Rd):(rBytes n r).2.1.length≤r.1.length:=by
 unfold rBytes
 split
 ·exact Nat.le_refl _
 ·show (r.1.drop n).length≤_
  rw [List.length_drop];omega
theorem zEa (r:Rd):(rKind r).2.1.length≤r.1.length:=rBytes_le 1 r
theorem rId_le (r:Rd):(rId r).2.1.length≤r.1.length:=rBytes_le 32 r
theorem rNum_le (r:Rd):(rNum r).2.1.length≤r.1.length:=by
 unfold rNum
 split
 ·exact Nat.le_refl _
 ·split
  ·exact Nat.le_refl _
  ·show (r.1.drop _).length≤_
   rw [List.length_drop];omega
theorem rNum_num (r:Rd):(rNum r).1≤18446744073709551615:=by
 unfold rNum
 split
 ·simp
 ·split
  ·simp
  ·rename_i n k h
   exact (zAH h).1
theorem takeP_le {s t q:Txt} (h:takeP s=some (t,q)):q.length≤s.length:=by
 have:=zCh h
 rw [this]
 simp
theorem rText_le (r:Rd):(rText r).2.1.length≤r.1.length:=by
 unfold rText
 split
 ·exact Nat.le_refl _
 ·split
  ·exact Nat.le_refl _
  ·exact takeP_le (by assumption)
theorem zC8 (b:Bool) (r:Rd):(badIf b r).1=r.1:=by unfold badIf;split<;>rfl
structure Sound (o:ObjL):Prop where
 tree:o.tree.length=32
 target:o.target.length=32
 ents : ∀ e∈o.ents,e.id.length=32
 pars : ∀ p∈o.pars,p.length=32
 time:o.time<4294967296
theorem zAc : noId.length=32:=by simp [noId]
theorem idOr_len {n:Nat} {r:Rd} (hn:n=32):(idOr (rBytes n r).1).length=32:=by
 unfold idOr
 split
 ·exact zAc
 ·rename_i h
  unfold rBytes at *
  split at h
  ·exact absurd rfl h
  ·rename_i hc
   rw [if_neg hc]
   have : ¬ r.1.length<n:=fun h=>hc (.inr h)
   show (r.1.take n).length=32
   rw [List.length_take];omega
theorem rId_len (r:Rd):(rId r).1.length=32:=idOr_len rfl
theorem rTree_sound : ∀ (f:Nat) (r:Rd) (acc:List EntL),(∀ e∈acc,e.id.length=32) → ∀ e∈(rTree f r acc).1,e.id.length=32
 | 0,r,acc,h=>h
 | f+1,r,acc,h=>by
   rw [rTree]
   split
   ·exact h
   ·refine rTree_sound f _ _ ?_
    intro e he
    rcases List.mem_append.1 he with he | he
    ·exact h e he
    ·obtain rfl:=List.mem_singleton.1 he
     exact rId_len _
theorem rPars_sound : ∀ (n:Nat) (r:Rd) (acc:List Txt),(∀ e∈acc,e.length=32) → ∀ e∈(rPars n r acc).1,e.length=32
 | 0,r,acc,h=>h
 | f+1,r,acc,h=>by
   rw [rPars]
   split
   ·exact h
   ·refine rPars_sound f _ _ ?_
    intro e he
    rcases List.mem_append.1 he with he | he
    ·exact h e he
    ·obtain rfl:=List.mem_singleton.1 he
     exact rId_len _
theorem readO_sound (k:Nat) (r:Rd):Sound (readO k r).1:=by
 unfold readO
 split
 ·exact ⟨zAc,zAc,rTree_sound _ _ _ (by simp),(by intro p hp;cases hp),by show 0<_;omega⟩
 ·split
  ·exact ⟨rId_len _,zAc,(by intro p hp;cases hp),rPars_sound _ _ _ (by simp),Nat.mod_lt _ (by omega)⟩
  ·split
   ·exact ⟨zAc,rId_len _,(by intro p hp;cases hp),(by intro p hp;cases hp),by show 0<_;omega⟩
   ·exact ⟨zAc,zAc,(by intro p hp;cases hp),(by intro p hp;cases hp),by show 0<_;omega⟩
theorem dec_back {s:Txt} {o:ObjL} (h:decO s=some o):encO o=some s∧Sound o:=by
 unfold decO at h
 match s,h with
 | c::q,h=>
   simp only at h
   split at h
   ·cases h
   ·rename_i hl
    cases ht:takeP q with
    | none=>rw [ht] at h;cases h
    | some p=>
      obtain ⟨t,b⟩:=p
      rw [ht] at h
      simp only at h
      split at h
      ·cases h
      ·rename_i hb
       have hb:b=[]:=by simpa using hb
       subst hb
       split at h
       ·cases h
       ·rename_i hc
        injection h with h
        subst h
        have h1:(readO c.toNat (t,false)).2.2=false:=by
         cases hx:(readO c.toNat (t,false)).2.2
         ·rfl
         ·exact absurd (.inl hx) hc
        have h2:(readO c.toNat (t,false)).2.1=[]:=by
         by_cases hx:(readO c.toNat (t,false)).2.1=[]
         ·exact hx
         ·exact absurd (.inr (.inl hx)) hc
        have h3:mayB (readO c.toNat (t,false)).1=true:=by
         cases hx:mayB (readO c.toNat (t,false)).1
         ·exact absurd (.inr (.inr hx)) hc
         ·rfl
        have hb:=readO_back _ _ h1 h2 h3
        refine ⟨?_,readO_sound _ _⟩
        have hw:wholeO (readO c.toNat (t,false)).1=c::q:=by
         unfold wholeO
         rw [←hb,zCN,byteK_back,zCh ht]
         simp
        unfold encO
        rw [hw,if_pos ⟨h3,by omega⟩]
theorem dec_len {s:Txt} {o:ObjL} (h:decO s=some o):s.length≤4096∧mayB o=true:=by
 have h1:=(dec_back h).1
 unfold encO at h1
 split at h1
 ·rename_i hc
  injection h1 with h1
  rw [←h1]
  exact ⟨hc.2,hc.1⟩
 ·cases h1
end
theorem bytes_or {n:Nat} (r:Rd):(rBytes n r).1=[]∨(rBytes n r).1.length=n:=by
 unfold rBytes
 split
 ·exact .inl rfl
 ·rename_i h
  refine .inr ?_
  have : ¬ r.1.length<n:=fun e=>h (.inr e)
  show (r.1.take n).length=n
  rw [List.length_take];omega
theorem byteCells_u8s (l:Txt):Lib.byteCells l=(u8s l).toList:=by simp [Lib.byteCells,u8s,u8v]
theorem idOr_some {b:Txt} (h:b.length=32):idOr b=b:=by unfold idOr;rw [if_neg];intro e;rw [e] at h;cases h
theorem copy_id (w:World) {g:Nat} {b:Txt} (hg:Blk w g 28 (u8s noId)) (hb:b=[]∨b.length=32) (ty:TypeId) :
 ∃ v w1,(Builtin.copy_ #[24,9] ty #[.slice (some ⟨g,0,none⟩) 32 32, .string (B b)]).run Tryz.prog w = .ok v w1∧Blk w1 g 28 (u8s (idOr b))∧Far [some g] w w1:=by
 have hz:noId.length=32:=zAc
 rcases hb with rfl | hb
 ·exact ⟨_,_,Lib.run_copy_empty_string (P:=Tryz.prog) w 24 9 ty 5 (some ⟨g,0,none⟩) 32 32 (B []) Tryz.underlying24 (by kernel_rfl) rfl,hg,Far.refl _ _⟩
 ·have h:=Lib.run_copy_row_string (P:=Tryz.prog) w 24 9 ty 5 g 0 32 32 (B b) (u8s noId) 28 Tryz.underlying24 (by kernel_rfl) hg (by rw [size_B,hb];exact Nat.le_refl _) (by rw [size_B,hb,zAh,hz];exact Nat.le_refl _)
  refine ⟨_,_,h,?_,?_⟩
  ·have e:((u8s noId).toList.take 0++Lib.byteCells (B b).data.toList++(u8s noId).toList.drop (0+(B b).size)).toArray=u8s (idOr b):=by
    have hd:(u8s noId).toList.drop (0+(B b).size)=[]:=List.drop_eq_nil_of_le (by rw [u8s_len,size_B,hz,hb];exact Nat.le_refl _)
    rw [idOr_some hb,hd,byteCells_u8s]
    simp [B]
   rw [e]
   exact setRow_heap _ _ _ _ _ _ hg
  ·exact ⟨rfl,rfl,rfl,by simp,fun k _ hn=>setRow_other _ _ _ _ (fun e=>hn (by rw [e];simp))⟩
set_option maxRecDepth 100000 in
set_option maxHeartbeats 2000000 in
theorem zEj (r:Rd) (hr:r.1.length≤100000) (g:Nat) (w:World) (hb:RdB w g r):Calls Tryz.prog 138 #[.pointer (some ⟨g,0,none⟩)] w fun e w'=>e = .returned (.agg (u8s (rId r).1))∧RdB w' g (rId r).2∧Far [some g] w w':=by
 have hlt:g<w.heap.size:=Blk.lt hb
 have z0:u8s noId=(#[.int .u8 0, .int .u8 0, .int .u8 0, .int .u8 0, .int .u8 0, .int .u8 0, .int .u8 0, .int .u8 0, .int .u8 0, .int .u8 0, .int .u8 0, .int .u8 0, .int .u8 0, .int .u8 0, .int .u8 0, .int .u8 0, .int .u8 0, .int .u8 0, .int .u8 0, .int .u8 0, .int .u8 0, .int .u8 0, .int .u8 0, .int .u8 0, .int .u8 0, .int .u8 0, .int .u8 0, .int .u8 0, .int .u8 0, .int .u8 0, .int .u8 0, .int .u8 0]:Array Value):=by kernel_rfl
 obtain ⟨Z,hZ⟩ : ∃ Z,u8s noId=Z:=⟨_,rfl⟩
 have hzv : ∀ W:World,(zeroValue 28).run Tryz.prog W = .ok (.agg Z) W:=fun W=>by
  have h:(Tryz.prog.info? 28).map (·.zero)=some (some (.agg (u8s noId))):=by rw [z0];kernel_rfl
  obtain ⟨i,h1,h2⟩:=Option.map_eq_some_iff.1 h
  rw [←hZ]
  simp [zeroValue,typeInfo,h1,h2]
 obtain ⟨W1,hW1⟩ : ∃ W1,w.alloc (.cells Z 28)=W1:=⟨_,rfl⟩
 have hs1:W1.heap.size=w.heap.size+1:=by rw [←hW1];simp
 obtain ⟨W2,hW2⟩ : ∃ W2,W1.alloc (.cells Z 28)=W2:=⟨_,rfl⟩
 have hx1:Blk W1 w.heap.size 28 Z:=by rw [←hW1];exact Blk.new _ _ _
 have hx2:Blk W2 w.heap.size 28 Z:=by rw [←hW2];exact hx1.alloc _
 have hy2:Blk W2 W1.heap.size 28 Z:=by rw [←hW2];exact Blk.new _ _ _
 have b2:Below w.heap.size w W2:=by rw [←hW2,←hW1];exact ((Below.refl _ _).alloc (Nat.le_refl _) _).alloc (by simp) _
 have hr2:RdB W2.drew g r:=(hb.below b2).drewN 1
 have hcall:Calls Tryz.prog 135 #[.pointer (some ⟨g,0,none⟩), .int .i64 32] W2.drew fun e w'=>e = .returned (.string (B (rBytes 32 r).1))∧RdB w' g (rBytes 32 r).2∧Far [some g] W2.drew w':=rb_calls 32 r hr (by omega) g W2.drew hr2
 have hcall:=Lib.hid hcall
 have hbo:=bytes_or (n:=32) r
 have hid1:(rId r).1=idOr (rBytes 32 r).1:=rfl
 have hid2:(rId r).2=(rBytes 32 r).2:=rfl
 rw [hid1,hid2]
 have hil:=rId_len r
 rw [hid1] at hil
 clear hid1 hid2 hr2 hb hx1
 obtain ⟨BS,hBS⟩ : ∃ BS,(rBytes 32 r).1=BS:=⟨_,rfl⟩
 obtain ⟨R2,hR2⟩ : ∃ R2,(rBytes 32 r).2=R2:=⟨_,rfl⟩
 rw [hBS] at hcall hbo hil ⊢
 rw [hR2] at hcall ⊢
 clear hBS hR2 z0
 have H1:=Lib.hid hs1
 clear hs1
 go_enter Tryz.func138,Tryz.ntmps138
 go_wp2
 have hyd:Blk W2.drew W1.heap.size 28 (u8s noId):=by rw [hZ];exact hy2
 have hxd:Blk W2.drew w.heap.size 28 Z:=hx2
 have hne:some W1.heap.size ∉ [some g]:=by have:=H1.out;simp;omega
 have hne2:some w.heap.size ∉ [some g]:=by simp;omega
 have hlA:w.heap.size≤W1.heap.size:=by have:=H1.out;omega
 have hAN:w.heap.size≠W1.heap.size:=by have:=H1.out;omega
 have b2d:Far [some g] w W2.drew:=Far.of_below b2.drew
 have hzs:Z.size=32:=by rw [←hZ,zAh,zAc]
 have hsI:=sz32
 clear b2 hy2 hx2 H1 hW1 hW2 hZ hzv
 generalize hA:w.heap.size=A at *
 have HA:=Lib.hid hA
 clear hA
 generalize W1.heap.size=N at *
 go_region_with (first
  | ((with_reducible refine hcall.out.mono ?_);rintro e w3 ⟨rfl,hr3,hf3⟩
     obtain ⟨v4,w4,hc4,hy4,hf4⟩:=copy_id w3 (hf3.blk hyd hne) hbo 3
     clear hcall))
 have hx4:Blk w4 A 28 Z:=hf4.blk (hf3.blk hxd hne2) (by simpa using hAN)
 have hr4:RdB w4 g R2:=hf4.blk hr3 (by simp;omega)
 have hsz4:(u8s (idOr BS)).size=32:=by rw [zAh,hil]
 have hone:=u8s_one (idOr BS)
 have hff:Far [some g] w w4:=(b2d.then_ hf3 (fun k h => .inl h)).then_ hf4 (fun k h => .inr (by have:=HA.out;simp at h;omega))
 generalize hcs:u8s (idOr BS)=cs at *
 have HC:=Lib.hid hcs
 clear hcs
 clear hc4 hxd hyd hne hne2 hbo hil
 have hsc:(Tryz.prog.info? 28).map (·.size)=some cs.size:=by rw [hsz4];exact hsI
 go_wp2_with (first
  | (refine wpList_load_row rfl 28 (.tmp 3) rfl N rfl _ _ _ _ hy4 Tryz.underlying28 rfl hsc ?_)
  | (refine wpList_store_row rfl 28 (.tmp 2) (.tmp 8) rfl A cs rfl rfl _ _ hx4 hsc (by rw [hzs,hsz4]) hone ?_))
 exact bodyPost_ret (results_cell_row rfl _ _ A _ _ _ _ rfl (setRow_heap _ _ _ _ _ _ hx4) Tryz.underlying28 rfl hsc) rfl ⟨by rw [HC.out],(by unfold RdB Blk;rw [setRow_other _ _ _ _ (by omega)];exact hr4),hff.row (.inr (by have:=HA.out;omega)) cs⟩
section
section
variable {w:World} {g:Nat} {o:ObjL} {ve vp:Value}
theorem set_app {a b:List Value} {n i:Nat} {u:Value} (ha:a.length=n) (hi:n≤i):(a++b).set i u=a++b.set (i-n) u:=by rw [List.set_append_right _ _ (by omega),ha]
theorem ObjB.of_set (h:ObjB w g o ve vp) (i:Nat) (u:Value) {o':ObjL} {ve' vp':Value} (he:(objC o ve vp).set i u=objC o' ve' vp') (h1:o'.tree.length=32) (h2:o'.target.length=32):ObjB (w.setCell ⟨g,i,none⟩ u) g o' ve' vp':=by
 refine ⟨?_,h1,h2⟩
 have:=h.blk.set_ i u
 rwa [List.setIfInBounds_toArray,he] at this
theorem ObjB.setData (h:ObjB w g o ve vp) (s:Txt):ObjB (w.setCell ⟨g,1,none⟩ (.string (B s))) g { o with data:=s } ve vp:=h.of_set 1 _ rfl h.tr h.ta
theorem ObjB.setPars (h:ObjB w g o ve vp) (v:Value) (l:List Txt):ObjB (w.setCell ⟨g,35,none⟩ v) g { o with pars:=l } ve v:=h.of_set 35 _ (by
 show _::_::_::((u8s o.tree).toList++_).set 32 _=_
 rw [set_app (by rw [u8s_len,h.tr]) (Nat.le_refl _)];rfl) h.tr h.ta
theorem ObjB.setTime (h:ObjB w g o ve vp) (t:Nat):ObjB (w.setCell ⟨g,36,none⟩ (.int .u32 t)) g { o with time:=t } ve vp:=h.of_set 36 _ (by
 show _::_::_::((u8s o.tree).toList++_).set 33 _=_
 rw [set_app (by rw [u8s_len,h.tr]) (by omega)];rfl) h.tr h.ta
theorem ObjB.setText (h:ObjB w g o ve vp) (s:Txt):ObjB (w.setCell ⟨g,37,none⟩ (.string (B s))) g { o with text:=s } ve vp:=h.of_set 37 _ (by
 show _::_::_::((u8s o.tree).toList++_).set 34 _=_
 rw [set_app (by rw [u8s_len,h.tr]) (by omega)];rfl) h.tr h.ta
theorem ObjB.setOf (h:ObjB w g o ve vp) (n:Int):ObjB (w.setCell ⟨g,70,none⟩ (.int .i64 n)) g { o with of_:=n } ve vp:=h.of_set 70 _ (by
 show _::_::_::((u8s o.tree).toList++_).set 67 _=_
 rw [set_app (by rw [u8s_len,h.tr]) (by omega)]
 show _::_::_::(_++_::_::_::((u8s o.target).toList++_).set 32 _)=_
 rw [set_app (by rw [u8s_len,h.ta]) (by omega)];rfl) h.tr h.ta
theorem ObjB.setName (h:ObjB w g o ve vp) (s:Txt):ObjB (w.setCell ⟨g,71,none⟩ (.string (B s))) g { o with name:=s } ve vp:=h.of_set 71 _ (by
 show _::_::_::((u8s o.tree).toList++_).set 68 _=_
 rw [set_app (by rw [u8s_len,h.tr]) (by omega)]
 show _::_::_::(_++_::_::_::((u8s o.target).toList++_).set 33 _)=_
 rw [set_app (by rw [u8s_len,h.ta]) (by omega)];rfl) h.tr h.ta
theorem ObjB.setTree (h:ObjB w g o ve vp) (t:Txt) (ht:t.length=32):ObjB (w.setCells g 3 (u8s t).toList) g { o with tree:=t } ve vp:=by
 refine ⟨?_,ht,h.ta⟩
 have hb:Blk w g 74 ([.int .i64 o.kind, .string (B o.data),ve]++((u8s o.tree).toList++(vp :: .int .u32 o.time :: .string (B o.text)::((u8s o.target).toList++[.int .i64 o.of_, .string (B o.name)])))).toArray:=h.blk
 exact Blk.splice (u8s t).toList 3 w _ _ _ hb rfl (by rw [u8s_len,u8s_len,h.tr,ht])
theorem objC_split (o:ObjL) (ve vp:Value):objC o ve vp=(.int .i64 o.kind :: .string (B o.data)::ve::((u8s o.tree).toList++[vp, .int .u32 o.time, .string (B o.text)]))++((u8s o.target).toList++[.int .i64 o.of_, .string (B o.name)]):=by
 unfold objC
 simp
theorem ObjB.setTarget (h:ObjB w g o ve vp) (t:Txt) (ht:t.length=32):ObjB (w.setCells g 38 (u8s t).toList) g { o with target:=t } ve vp:=by
 refine ⟨?_,h.tr,ht⟩
 have hb:=h.blk
 rw [objC_split] at hb
 have:=Blk.splice (u8s t).toList 38 w _ _ _ hb (by simp [zAh,h.tr]) (by rw [u8s_len,u8s_len,h.ta,ht])
 rw [objC_split]
 exact this
theorem ObjB.there (h:ObjB w g o ve vp) (i n:Nat) (hn:i+n≤72):w.there g i n:=h.blk.there (by
 rw [List.size_toArray]
 unfold objC
 simp only [List.length_cons,List.length_append,u8s_len,h.tr,h.ta,List.length_nil]
 exact hn)
theorem ObjB.fr (h:ObjB w g o ve vp) (i:Nat):w.frozen? ⟨g,i,none⟩=false:=h.blk.frozen i
theorem ObjB.far {S:List (Option Nat)} {w':World} (h:ObjB w g o ve vp) (hf:Far S w w') (hg:some g ∉ S):ObjB w' g o ve vp:=⟨hf.blk h.blk hg,h.tr,h.ta⟩
end
theorem RdB.far {S:List (Option Nat)} {w w':World} {g:Nat} {r:Rd} (h:RdB w g r) (hf:Far S w w') (hg:some g ∉ S):RdB w' g r:=hf.blk h hg
theorem RdB.set_ {w:World} {g:Nat} {r:Rd} {p:Addr} (h:RdB w g r) (hp:g≠p.block) (u:Value):RdB (w.setCell p u) g r:=Blk.far h hp u
theorem RdB.cells_ {w:World} {g gO:Nat} {r:Rd} (h:RdB w g r) (hp:gO≠g) (vs:List Value) (o:Nat):RdB (w.setCells gO o vs) g r:=h.far (S:=[some gO]) (Far.cells (g:=gO) (.inl (by simp)) vs o _ (Far.refl _ _)) (by simp;omega)
theorem zBo {ops:Array Oper} {rest:List Oper} {a:Act} {w:World} {Q:Exit→Act→World→Prop} {d:Option Tmp} {rt:TypeId} {pos:String} {af:Array Edge} (x y:Operand) (g o:Nat) (u:Txt) (lu:u.length=32) (ht:w.there g o 32)
 (hx:a.eval x = .pointer (some ⟨g,o,none⟩)) (hy:a.eval y = .agg (u8s u)) (h:wpList Tryz.prog ops Q rest (a.put d undef) (w.setCells g o (u8s u).toList)):wpList Tryz.prog ops Q ({ dst:=d,op := .store 28 x y,type:=rt,pos:=pos,after:=af,guard:=none }::rest) a w:=
 wpList_store_mid rfl _ x y rfl g o (u8s u) hx hy (by rw [zAh,lu];exact ht) (by rw [zAh,lu];exact sz32) (u8s_one u) h
abbrev OwnEnts (w:World) (base:Nat) (v:Value) (l:List EntL):Prop:=w.ownsRow base 181 34 v l.length (rowsOf entC l)
structure Been (w:World) (gO gR base:Nat) (o:ObjL) (r:Rd) (ve vp:Value) (w':World):Prop where
 obj:ObjB w' gO o ve vp
 ents:OwnEnts w' base ve o.ents
 pars:OwnIds w' base vp o.pars
 rd:RdB w' gR r
 far:Far [some gO,some gR] w w'
def Did (w:World) (gO gR base:Nat) (x:ObjL×Rd) (w':World):Prop := ∃ ve vp,Been w gO gR base x.1 x.2 ve vp w'
end
set_option maxRecDepth 100000 in
set_option maxHeartbeats 2000000 in
theorem blob_calls (k:Nat) (r:Rd) (hr:r.1.length≤100000) (gO gR:Nat) (hne:gO≠gR) (w:World) (hO:ObjB w gO (nObj k) (.slice none 0 0) (.slice none 0 0)) (hR:RdB w gR r) :
 Calls Tryz.prog 106 #[.pointer (some ⟨gR,0,none⟩), .pointer (some ⟨gO,0,none⟩)] w fun e w'=>e = .returned (.tuple #[])∧Did w gO gR w.heap.size (rBlob k r) w':=by
 have hcall:=Lib.hid (rb_calls r.1.length r hr hr gR w hR)
 have c0:=hR.c0
 obtain ⟨x,hx⟩ : ∃ x,Hid (rBlob k r=x):=⟨_,Lib.hid rfl⟩
 have hgO:some gO ∉ [some gR]:=by simp;omega
 rw [hx.out]
 go_enter Tryz.func106,Tryz.ntmps106
 go_wp2_with (first
  | ((with_reducible refine hcall.out.mono ?_);rintro e w1 ⟨rfl,hr1,hf1⟩
     have hO1:=hO.far hf1 hgO
     have f1:=hO1.fr 1
     have c1:=hO1.data))
 go_end0
 refine ⟨rfl,?_⟩
 rw [←hx.out]
 exact ⟨_,_,⟨hO1.setData _,World.ownsRow_nil _ _ _ _,World.ownsRow_nil _ _ _ _,hr1.set_ (fun e=>hne e.symm) _,(hf1.mono (by simp)).set_ (.inl (by simp)) _⟩⟩
set_option maxRecDepth 100000 in
set_option maxHeartbeats 2000000 in
theorem tag_calls (k:Nat) (r:Rd) (hr:r.1.length≤100000) (gO gR:Nat) (hne:gO≠gR) (w:World) (hO:ObjB w gO (nObj k) (.slice none 0 0) (.slice none 0 0)) (hR:RdB w gR r) :
 Calls Tryz.prog 109 #[.pointer (some ⟨gR,0,none⟩), .pointer (some ⟨gO,0,none⟩)] w fun e w'=>e = .returned (.tuple #[])∧Did w gO gR w.heap.size (rTag k r) w':=by
 have hl1:=zEa r
 have hl2:=rId_le (rKind r).2
 have hkc:=Lib.hid (rk_calls r hr gR w hR)
 have hic:=fun W hW=>Lib.hid (zEj (rKind r).2 (by omega) gR W hW)
 have htc:=fun W hW=>Lib.hid (rt_calls (rId (rKind r).2).2 (by omega) gR W hW)
 obtain ⟨x,hx⟩ : ∃ x,Hid (rTag k r=x):=⟨_,Lib.hid rfl⟩
 have hgO:some gO ∉ [some gR]:=by simp;omega
 have hid32:=rId_len (rKind r).2
 have hsz:(Tryz.prog.info? 28).map (·.size)=some (u8s (rId (rKind r).2).1).size:=by rw [zAh,hid32];exact sz32
 have h32:(u8s (rId (rKind r).2).1).size=32:=by rw [zAh,hid32]
 have hone:=u8s_one (rId (rKind r).2).1
 have hxx:Hid (x=((⟨k,[],[],noId,[],0,[],(rId (rKind r).2).1,(rKind r).1,(rText (rId (rKind r).2).2).1⟩:ObjL),(rText (rId (rKind r).2).2).2)):=hx.out.symm
 rw [hx.out]
 clear hx
 generalize rKind r=K at *
 generalize rId K.2=I at *
 generalize rText I.2=T at *
 go_enter Tryz.func109,Tryz.ntmps109
 go_wp2_with (first
  | ((with_reducible refine hkc.out.mono ?_);rintro e w1 ⟨rfl,hr1,hf1⟩
     have hO1:=hO.far hf1 hgO
     have f1:=hO1.fr 70
     have c1:=hO1.of_
     have hO1:=hO1.setOf K.1
     have hr1:=hr1.set_ (p:=⟨gO,70,none⟩) (fun e=>hne e.symm) (.int .i64 K.1)
     have hf1:=(hf1.mono (T:=[some gO,some gR]) (by simp)).set_ (p:=⟨gO,70,none⟩) (.inl (by simp)) (.int .i64 K.1)
     clear hkc)
  | ((with_reducible refine (hic _ hr1).out.mono ?_);rintro e w2 ⟨rfl,hr2,hf2⟩
     have hO2:=hO1.far hf2 hgO
     have ht2:=hO2.there 38 32 (by omega)
     have hf2:=hf1.trans (hf2.mono (by simp))
     clear hf1 hr1 hO1 f1 c1 hic)
  | ((with_reducible refine zBo (.tmp 13) (.tmp 11) gO 38 I.1 hid32 ht2 ?_ ?_ ?_);rfl;rfl
     have hO2:=hO2.setTarget I.1 hid32
     have hr2:=hr2.cells_ hne (u8s I.1).toList 38
     have hf2:=Far.cells (S:=[some gO,some gR]) (g:=gO) (.inl (List.mem_cons_self ..)) (u8s I.1).toList 38 _ hf2)
  | ((with_reducible refine (htc _ hr2).out.mono ?_);rintro e w3 ⟨rfl,hr3,hf3⟩
     have hO3:=hO2.far hf3 hgO
     have f3:=hO3.fr 71
     have c3:=hO3.name
     have hO3:=hO3.setName T.1
     have hr3:=hr3.set_ (p:=⟨gO,71,none⟩) (fun e=>hne e.symm) (.string (B T.1))
     have hf3:=(hf2.trans (hf3.mono (T:=[some gO,some gR]) (by simp))).set_ (p:=⟨gO,71,none⟩) (.inl (by simp)) (.string (B T.1))
     clear hf2 hr2 hO2 htc))
 go_end0
 refine ⟨rfl,?_⟩
 rw [hxx.out]
 exact ⟨_,_,⟨hO3,World.ownsRow_nil _ _ _ _,World.ownsRow_nil _ _ _ _,hr3,hf3⟩⟩
section
attribute [local go_sem ↓] ldvE_eq
def zEnt : Value := .agg (entC ⟨[],0,noId⟩).toArray
theorem Tryz.entTy : SliceTy Tryz.prog 71 181 zEnt 34 56:=⟨Tryz.underlying71,info_parts (by kernel_rfl),rfl,by omega⟩
theorem built_ent (k:Int):Tryz.prog.built 181 [(1, .int .i64 k)]=some (entC ⟨[],k,noId⟩).toArray:=by kernel_rfl
theorem entC_size {e:EntL} (h:e.id.length=32):(entC e).toArray.size=34:=by rw [List.size_toArray];unfold entC;simp only [List.length_cons,u8s_len,h]
theorem entC_all (e:EntL):(entC e).toArray.all (·.oneCell')=true:=all_oneCell_toArray (zDj e)
def EntB (w:World) (g:Nat) (e:EntL):Prop:=Blk w g 181 (entC e).toArray
theorem EntB.setName {w:World} {g:Nat} {e:EntL} (h:EntB w g e) (s:Txt):EntB (w.setCell ⟨g,0,none⟩ (.string (B s))) g { e with name:=s }:=by
 have:=Blk.set_ h 0 (.string (B s))
 rwa [List.setIfInBounds_toArray] at this
theorem EntB.setId {w:World} {g:Nat} {e:EntL} (h:EntB w g e) (he:e.id.length=32) (i:Txt) (hi:i.length=32):EntB (w.setCells g 2 (u8s i).toList) g { e with id:=i }:=by
 have hb:Blk w g 181 ([Value.string (B e.name),Value.int .i64 e.kind]++((u8s e.id).toList++[])).toArray:=by rw [List.append_nil];exact h
 have:=Blk.splice (u8s i).toList 2 w _ _ _ hb rfl (by rw [u8s_len,u8s_len,he,hi])
 rw [List.append_nil] at this
 exact this
theorem EntB.far {S:List (Option Nat)} {w w':World} {g:Nat} {e:EntL} (h:EntB w g e) (hf:Far S w w') (hg:some g ∉ S):EntB w' g e:=hf.blk h hg
theorem EntB.name {w:World} {g:Nat} {e:EntL} (h:EntB w g e):w.cell? ⟨g,0,none⟩=some (.string (B e.name)):=by rw [Blk.cell h];rfl
theorem EntB.fr {w:World} {g:Nat} {e:EntL} (h:EntB w g e) (i:Nat):w.frozen? ⟨g,i,none⟩=false:=Blk.frozen h i
theorem EntB.there_ {w:World} {g:Nat} {e:EntL} (h:EntB w g e) (he:e.id.length=32):w.there g 2 32:=Blk.there h (by rw [entC_size he];decide)
theorem rEnt_less {c:UInt8} {q:Txt}:(rEnt (c::q,false)).2.1.length≤q.length:=by
 have h1:=rId_le (rText (rKind (c::q,false)).2).2
 have h2:=rText_le (rKind (c::q,false)).2
 rw [zCa] at h1 h2
 show (rId (rText (rKind (c::q,false)).2).2).2.1.length≤_
 rw [zCa]
 exact Nat.le_trans h1 h2
theorem rTree_end {f:Nat} {r:Rd} {acc:List EntL} (h:r.2=true∨r.1=[]):rTree f r acc=(acc,r):=by
 cases f with
 | zero=>rfl
 | succ f=>rw [rTree,if_pos h]
theorem rTree_step {f:Nat} {c:UInt8} {q:Txt} {acc:List EntL}:rTree (f+1) (c::q,false) acc=rTree f (rEnt (c::q,false)).2 (acc++[(rEnt (c::q,false)).1]):=by
 rw [rTree,if_neg (by simp)]
theorem zC1 (r:Rd):(rText r).1.length≤r.1.length:=by
 unfold rText
 split
 ·simp
 ·split
  ·simp
  ·rename_i t q h
   have:=zCh h
   rw [this]
   unfold textE
   simp
   omega
theorem rEnt_eq (c:UInt8) (q:Txt):rEnt (c::q,false)=(⟨(rText (q,false)).1,c.toNat,(rId (rText (q,false)).2).1⟩,(rId (rText (q,false)).2).2):=by
 unfold rEnt
 rw [zCa]
structure TreeI (w:World) (gO gR:Nat) (r:Rd) (w':World):Prop where
 rd:RdB w' gR r
 far:Far [some gO,some gR] w w'
theorem TreeI.below {w w1 w2:World} {gO gR:Nat} {r:Rd} (h:TreeI w gO gR r w1) (hb:Below w1.heap.size w1 w2):TreeI w gO gR r w2:=⟨h.rd.below hb,h.far.more hb⟩
theorem TreeI.low {w w1 w2:World} {gO gR:Nat} {r:Rd} (hR:gR<w.heap.size) (h:TreeI w gO gR r w1) (hb:Below w.heap.size w1 w2):TreeI w gO gR r w2:=⟨(hb.block gR hR).trans h.rd,h.far.low hb⟩
theorem TreeI.set_ {w w1:World} {gO gR o:Nat} {r:Rd} (hne:gO≠gR) (h:TreeI w gO gR r w1) (v:Value):TreeI w gO gR r (w1.setCell ⟨gO,o,none⟩ v):=⟨RdB.set_ h.rd (fun e=>hne e.symm) v,h.far.set_ (.inl (by simp)) v⟩
set_option maxRecDepth 100000 in
set_option maxHeartbeats 4000000 in
theorem tree_calls (k:Nat) (r:Rd) (hr:r.1.length≤100000) (gO gR:Nat) (hne:gO≠gR) (w:World) (hO:ObjB w gO (nObj k) (.slice none 0 0) (.slice none 0 0)) (hR:RdB w gR r) :
 Calls Tryz.prog 107 #[.pointer (some ⟨gR,0,none⟩), .pointer (some ⟨gO,0,none⟩)] w fun e w'=>e = .returned (.tuple #[])∧Did w gO gR w.heap.size (rTr k r) w':=by
 obtain ⟨X,hX⟩ : ∃ X,Hid (rTree r.1.length r []=X):=⟨_,Lib.hid rfl⟩
 have hfin:Hid (∀ w',(∃ ve,ObjB w' gO { nObj k with ents:=X.1 } ve (.slice none 0 0)∧OwnEnts w' w.heap.size ve X.1∧RdB w' gR X.2∧Far [some gO,some gR] w w')→Did w gO gR w.heap.size (rTr k r) w'):=fun w' ⟨ve,h1,h2,h3,h4⟩=>by
  have e:rTr k r=({ nObj k with ents:=X.1 },X.2):=by unfold rTr;rw [hX.out];rfl
  rw [e]
  exact ⟨ve,_,⟨h1,h2,World.ownsRow_nil _ _ _ _,h3,h4⟩⟩
 have hgO:some gO ∉ [some gR]:=by simp;omega
 have hgR:some gR ∉ [some gO]:=by simp;omega
 have hltO:gO<w.heap.size:=hO.blk.lt
 have hltR:gR<w.heap.size:=Blk.lt hR
 have hS : ∀ k,some k∈[some gR]→some k∈[some gO,some gR]:=by simp
 have hstart:OwnEnts w w.heap.size (.slice none 0 0) []:=World.ownsRow_nil _ _ _ _
 have hf0:Far [some gO,some gR] w w:=Far.refl _ _
 have hX0:=hX
 obtain ⟨n0,hn0⟩ : ∃ n0,n0=r.1.length:=⟨_,rfl⟩
 rw [←hn0] at hX hr
 have hle0:r.1.length≤n0:=by omega
 have hO0:ObjB w gO { nObj k with ents:=[] } (.slice none 0 0) (.slice none 0 0):=hO
 clear hX0 hO
 go_enter Tryz.func107,Tryz.ntmps107
 go_wp2
 go_loopg [] n0 (fun f wr=>f≤100000 ∧ ∃ (r':Rd) (acc:List EntL) (ve:Value),r'.1.length≤f∧acc.length+f≤n0∧Hid (rTree f r' acc=X)∧OwnEnts wr w.heap.size ve acc∧ObjB wr gO { nObj k with ents:=acc } ve (.slice none 0 0)∧RdB wr gR r'∧Far [some gO,some gR] w wr)
 case atStart=>exact ⟨hr,r,[], .slice none 0 0,hle0,by simp,hX,hstart,hO0,hR,hf0⟩
 case round=>
  obtain ⟨hf1,r',acc,ve,hlen,hacc,hrel,hown,hOb,hRb,hfar⟩:=hrel
  clear hR hO0 hX hstart hf0 hn0 hle0
  obtain ⟨s,b⟩:=r'
  have c0:=hRb.c0
  have c1:=hRb.c1
  simp only at c0 c1 hlen
  by_cases hend:b=true∨s=[]
  ·have hx:Hid ((acc,(s,b))=X):=by show _=_;rw [←hrel.out];exact (rTree_end hend).symm
   clear hrel
   have hd:=hfin.out wr ⟨ve,by rw [←hx.out];exact hOb,by rw [←hx.out];exact hown,by rw [←hx.out];exact hRb,hfar⟩
   clear hOb hRb hfar hown hx hfin
   cases b with
   | true=>
     clear hend
     go_wp2
     go_end0
     exact ⟨rfl,hd⟩
   | false=>
     obtain rfl:s=[]:=by simpa using hend
     go_wp2
     go_end0
     exact ⟨rfl,hd⟩
  ·obtain rfl:b=false:=by cases b<;>simp_all
   match s,hend with
   | [],hend=>exact absurd (.inr rfl) hend
   | c::q,_=>
     cases gk with
     | zero=>simp at hlen
     | succ f=>
     have hnx:Hid (rTree f (rEnt (c::q,false)).2 (acc++[(rEnt (c::q,false)).1])=X):=by show _=_;rw [←rTree_step];exact hrel.out
     rw [rEnt_eq] at hnx
     have hless:=rEnt_less (c:=c) (q:=q)
     rw [rEnt_eq] at hless
     simp only [List.length_cons] at hlen
     clear hrel
     have hnl:=zC1 (q,false)
     have hnl2:=rText_le (q,false)
     have hi32:=rId_len (rText (q,false)).2
     simp only at hnl hnl2 hless
     have hkc:=Lib.hid (rk_calls (c::q,false) (by simp;omega) gR wr hRb)
     rw [zCa] at hkc
     have htc:=fun W hW=>Lib.hid (rt_calls (q,false) (by simp;omega) gR W hW)
     have hic:=fun W hW=>Lib.hid (zEj (rText (q,false)).2 (by omega) gR W hW)
     generalize rText (q,false)=N at *
     generalize rId N.2=I at *
     have hbd:=built_ent (c.toNat:Int)
     have z34:zEnt.cells.size=34:=rfl
     have e34:(entC ⟨[],c.toNat,noId⟩).toArray.size=34:=entC_size zAc
     have eone:=entC_all ⟨[],c.toNat,noId⟩
     have hlO:=hOb.blk.lt
     have hsz0:=hfar.size
     have hxok:EntOk ⟨N.1,c.toNat,I.1⟩:=⟨hi32,by show N.1.length≤_;omega,by show _≤(c.toNat:Int);omega,by have:=c.toNat_lt;show (c.toNat:Int)≤_;omega⟩
     go_upto_region 4 with (first
      | ((with_reducible refine hkc.out.mono ?_);rintro e w1 ⟨rfl,hr1,hf1⟩
         have hO1:=hOb.far hf1 hgO
         have hown1:=hf1.own hown (fun k hk=>by have:=(World.ownsRow.lt hown k hk).1;simp;omega)
         have hfar1:=hfar.trans (hf1.mono hS)
         have hsz1:=hfar1.size
         clear hkc hRb hOb hfar hown c0 c1 hf1)
      | ((with_reducible refine zA6 hbd ?_ ?_);rfl)
      | ((with_reducible refine lit_new 181 (.tmp 4) (.tmp 19) (entC ⟨[],c.toNat,noId⟩).toArray 34 szEnt e34 eone _ ?_ ?_ ?_ ?_);rfl;rfl;rfl;intro W2 hb2 hbl2
         have hO2:=hO1.below hbl2
         have hown2:=zAf hown1 hbl2
         have hr2:=hr1.below hbl2
         have hfar2:=hfar1.more hbl2
         have hsz2:=hbl2.size
         have hE2:EntB W2 w1.heap.size ⟨[],c.toNat,noId⟩:=hb2
         have hgEB:w.heap.size≤w1.heap.size:=hsz1
         have hgER:some w1.heap.size ∉ [some gR]:=by simp;omega
         have hgEO:gO≠w1.heap.size:=by omega
         have hgER':gR≠w1.heap.size:=by omega
         have hveE:ve.ownBlock≠some w1.heap.size:=fun h=>by have:=(World.ownsRow.lt hown1 _ h).2;omega
         generalize w1.heap.size=gE at *
         clear hO1 hown1 hr1 hfar1 hbl2 hb2 hsz1)
      | ((with_reducible refine (htc _ hr2).out.mono ?_);rintro e w3 ⟨rfl,hr3,hf3⟩
         have hO3:=hO2.far hf3 hgO
         have hown3:=hf3.own hown2 (fun k hk=>by have:=(World.ownsRow.lt hown2 k hk).1;simp;omega)
         have hE3:=hE2.far hf3 hgER
         have hfar3:=hfar2.trans (hf3.mono hS)
         have f3:=hE3.fr 0
         have c3:=hE3.name
         have hE3:=hE3.setName N.1
         have hr3:=hr3.set_ (p:=⟨gE,0,none⟩) hgER' (.string (B N.1))
         have hO3:=hO3.far (S:=[some gE]) ((Far.refl _ _).set_ (p:=⟨gE,0,none⟩) (.inl (by simp)) (.string (B N.1))) (by simp;omega)
         have hown3:=Far.own (S:=[some gE]) ((Far.refl _ _).set_ (p:=⟨gE,0,none⟩) (.inl (by simp)) (.string (B N.1))) hown3 (fun k hk h=>hveE (by simp at h;rw [←h];exact hk))
         have hfar3:=hfar3.set_ (p:=⟨gE,0,none⟩) (.inr hgEB) (.string (B N.1))
         clear hO2 hown2 hE2 hfar2 hr2 htc hf3)
      | ((with_reducible refine (hic _ hr3).out.mono ?_);rintro e w4 ⟨rfl,hr4,hf4⟩
         have hO4:=hO3.far hf4 hgO
         have hown4:=hf4.own hown3 (fun k hk=>by have:=(World.ownsRow.lt hown3 k hk).1;simp;omega)
         have hE4:=hE3.far hf4 hgER
         have hfar4:=hfar3.trans (hf4.mono hS)
         have ht4:=hE4.there_ zAc
         clear hO3 hown3 hE3 hfar3 hr3 hic hf4 c3 f3)
      | ((with_reducible refine zBo (.tmp 25) (.tmp 24) gE 2 I.1 hi32 ht4 ?_ ?_ ?_);rfl;rfl
         have hE5:=hE4.setId zAc I.1 hi32
         have hr5:=hr4.cells_ hgER'.symm (u8s I.1).toList 2
         have hfE:=Far.cells (S:=[some gE]) (g:=gE) (.inl (List.mem_cons_self ..)) (u8s I.1).toList 2 _ (Far.refl _ w4)
         have hO5:=hO4.far hfE (by simp;omega)
         have hown5:=hfE.own hown4 (fun k hk h=>hveE (by simp at h;rw [←h];exact hk))
         have hfar5:=hfar4.cells (.inr hgEB) (u8s I.1).toList 2 _
         clear hO4 hown4 hE4 hfar4 hr4 hfE ht4))
     have hI5:TreeI w gO gR I.2 (w4.setCells gE 2 (u8s I.1).toList):=⟨hr5,hfar5⟩
     have hIb:=fun w1 w2 (h:TreeI w gO gR I.2 w1) (hb:Below w1.heap.size w1 w2)=>h.below hb
     have hIB:=fun w1 w2 (h:TreeI w gO gR I.2 w1) (hb:Below w.heap.size w1 w2)=>h.low hltR hb
     have hIs:=fun v w1 (h:TreeI w gO gR I.2 w1)=>h.set_ (o:=2) hne v
     have hJb:=fun w1 w2 (h:EntB w1 gE ⟨N.1,c.toNat,I.1⟩) (hb:Below w1.heap.size w1 w2)=>(Blk.below h hb (Blk.lt h):EntB w2 gE ⟨N.1,c.toNat,I.1⟩)
     generalize w4.setCells gE 2 (u8s I.1).toList=W5 at *
     have hF1:F1 w.heap.size gO 74 (objC { nObj k with ents:=acc } ve (.slice none 0 0)).toArray 181 34 ve acc.length (rowsOf entC acc) (TreeI w gO gR I.2) (fun w'=>EntB w' gE ⟨N.1,c.toNat,I.1⟩) W5.drew:=⟨hO5.blk.drew,hown5,⟨hI5.rd,hI5.far.drew⟩,hE5,Nat.le_trans hfar5.size (Nat.le_refl _)⟩
     have hcO:(objC { nObj k with ents:=acc } ve (.slice none 0 0)).toArray.size=72:=by rw [List.size_toArray];unfold objC;simp only [List.length_cons,List.length_append,u8s_len,hO5.tr,hO5.ta,List.length_nil]
     have hve:(objC { nObj k with ents:=acc } ve (.slice none 0 0)).toArray[2]?=some ve:=rfl
     have hm1:acc.length+1≤9223372036854775807:=by omega
     have hm2:(acc.length+1)*56≤140737488355328:=by omega
     have hset : ∀ v':Value,(objC { nObj k with ents:=acc } ve (.slice none 0 0)).toArray.setIfInBounds 2 v'=(objC { nObj k with ents:=acc++[⟨N.1,c.toNat,I.1⟩] } v' (.slice none 0 0)).toArray:=fun v'=>by rw [List.setIfInBounds_toArray];rfl
     have hset:=Lib.hid hset
     have hrow:Hid (rowsOf entC acc++entC ⟨N.1,c.toNat,I.1⟩=rowsOf entC (acc++[⟨N.1,c.toNat,I.1⟩])):=by show _=_;rw [zAo,zAx]
     have hotr:=hO5.tr
     have hota:=hO5.ta
     have hgOB:=hltO
     clear hr5 hfar5 hO5 hown5 hE5 hI5
     generalize (objC { nObj k with ents:=acc } ve (.slice none 0 0)).toArray=cO at *
     generalize hxx:(⟨N.1,c.toNat,I.1⟩:EntL)=x at *
     clear hxx
     obtain ⟨n,hn⟩ : ∃ n,Hid (acc.length=n):=⟨_,Lib.hid rfl⟩
     rw [hn.out] at hF1 hm1 hm2
     obtain ⟨xs,hxs⟩ : ∃ xs,Hid (rowsOf entC acc=xs):=⟨_,Lib.hid rfl⟩
     rw [hxs.out] at hF1
     obtain ⟨BB,hBB⟩ : ∃ BB,Hid (w.heap.size=BB):=⟨_,Lib.hid rfl⟩
     rw [hBB.out] at hF1 hIB hgOB
     obtain ⟨II,hII⟩ : ∃ II,Hid (TreeI w gO gR I.2=II):=⟨_,Lib.hid rfl⟩
     rw [hII.out] at hF1
     have hIb : ∀ w1 w2,II w1→Below w1.heap.size w1 w2→II w2:=hII.out▸hIb
     have hIB : ∀ w1 w2,II w1→Below BB w1 w2→II w2:=hII.out▸hIB
     have hIs : ∀ v w1,II w1→II (w1.setCell ⟨gO,2,none⟩ v):=hII.out▸hIs
     obtain ⟨V,hV⟩ : ∃ V:Nat→Value,V=fun i=>[(.pointer (some ⟨gO,0,none⟩)),(.pointer (some ⟨gO,0,none⟩)),(.pointer (some ⟨gO,0,none⟩)),(.pointer (some ⟨gO,2,none⟩)),ve,(.agg (entC x).toArray),undef,undef,(.pointer (some ⟨gO,0,none⟩)),(.pointer (some ⟨gO,2,none⟩)),undef].getD i undef:=⟨_,rfl⟩
     have v0:V 0=(.pointer (some ⟨gO,0,none⟩)):=by rw [hV];rfl
     have v1:V 1=(.pointer (some ⟨gO,0,none⟩)):=by rw [hV];rfl
     have v2:V 2=(.pointer (some ⟨gO,0,none⟩)):=by rw [hV];rfl
     have v3:V 3=(.pointer (some ⟨gO,2,none⟩)):=by rw [hV];rfl
     have v4:V 4=ve:=by rw [hV];rfl
     have v5:V 5=(.agg (entC x).toArray):=by rw [hV];rfl
     have v8:V 8=(.pointer (some ⟨gO,0,none⟩)):=by rw [hV];rfl
     have v9:V 9=(.pointer (some ⟨gO,2,none⟩)):=by rw [hV];rfl
     have v10:V 10=undef:=by rw [hV];rfl
     clear hV
     refine zA3 (C:=Stage 7 10 (F1 BB gO 74 cO 181 34 ve n xs II (fun w'=>EntB w' gE x)) (F2 BB gO 74 cO II) (F3 BB gO 2 74 cO 181 34 n xs (entC x) II)) (R:=StR V 6 7 (LitR BB 181 ve (entC x)) (AppR BB 181 34 n xs (entC x))) (by kernel_rfl) (by kernel_rfl) (by kernel_rfl) ?_ ?_ ?_ ?_
     ·exact zA7 (n:=36) (by kernel_rfl)
     ·exact Stage.start hF1
     ·intro i o listed a w1 ho hi hL
      have hin:=(zAq hi).1
      have hsz:listed.size=11:=hL.size
      match i,ho with
      | 0,ho=>
        obtain rfl:=(Option.some.inj ho).symm
        have e0:a.tmps[1]?.getD undef=(.pointer (some ⟨gO,0,none⟩)):=(zAd a 1).trans (hL.get_old hi (by kernel_rfl))
        have hc:=Stage.same (i:=0) hL.cls (by decide) (by decide)
        refine step_wp rfl rfl ?_
        clear hi ho hL hin
        refine wp_val (v:=(.pointer (some ⟨gO,0,none⟩))) ?_ ⟨_,rfl,StR.mk (by decide) (by decide) v0.symm,hc,fun _ _ _ h=>h⟩
        clear v0 v1 v2 v3 v4 v5 v8 v9 v10 hc
        unfold execOp
        go_simp
      | 1,ho=>
        obtain rfl:=(Option.some.inj ho).symm
        have e0:a.tmps[1]?.getD undef=(.pointer (some ⟨gO,0,none⟩)):=(zAd a 1).trans (hL.get_old hi (by kernel_rfl))
        have hc:=Stage.same (i:=1) hL.cls (by decide) (by decide)
        refine step_wp rfl rfl ?_
        clear hi ho hL hin
        refine wp_val (v:=(.pointer (some ⟨gO,0,none⟩))) ?_ ⟨_,rfl,StR.mk (by decide) (by decide) v1.symm,hc,fun _ _ _ h=>h⟩
        clear v0 v1 v2 v3 v4 v5 v8 v9 v10 hc
        unfold execOp
        go_simp
      | 2,ho=>
        obtain rfl:=(Option.some.inj ho).symm
        have e0:a.tmps[27]?.getD undef=(.pointer (some ⟨gO,0,none⟩)):=(zAd a 27).trans (((hL.get_new (j:=1) hi (by kernel_rfl)).at_ (by decide) (by decide)).trans v1)
        have hc:=Stage.same (i:=2) hL.cls (by decide) (by decide)
        refine step_wp rfl rfl ?_
        clear hi ho hL hin
        refine wp_val (v:=(.pointer (some ⟨gO,0,none⟩))) ?_ ⟨_,rfl,StR.mk (by decide) (by decide) v2.symm,hc,fun _ _ _ h=>h⟩
        clear v0 v1 v2 v3 v4 v5 v8 v9 v10 hc
        unfold execOp
        go_simp
      | 3,ho=>
        obtain rfl:=(Option.some.inj ho).symm
        have e0:a.tmps[28]?.getD undef=(.pointer (some ⟨gO,0,none⟩)):=(zAd a 28).trans (((hL.get_new (j:=2) hi (by kernel_rfl)).at_ (by decide) (by decide)).trans v2)
        have hc:=Stage.same (i:=3) hL.cls (by decide) (by decide)
        refine step_wp rfl rfl ?_
        clear hi ho hL hin
        refine wp_val (v:=(.pointer (some ⟨gO,2,none⟩))) ?_ ⟨_,rfl,StR.mk (by decide) (by decide) v3.symm,hc,fun _ _ _ h=>h⟩
        clear v0 v1 v2 v3 v4 v5 v8 v9 v10 hc
        unfold execOp
        go_simp
      | 4,ho=>
        obtain rfl:=(Option.some.inj ho).symm
        have hla:listed.getD 7 false=false:=hL.later (j:=7) hi (by kernel_rfl)
        have hls:listed.getD 10 false=false:=hL.later2 hla (by kernel_rfl)
        have hc1:=Stage.one hL.cls hla hls
        have e0:a.tmps[29]?.getD undef=(.pointer (some ⟨gO,2,none⟩)):=(zAd a 29).trans (((hL.get_new (j:=3) hi (by kernel_rfl)).at_ (by decide) (by decide)).trans v3)
        have hc:=Stage.same (i:=4) hL.cls (by decide) (by decide)
        refine step_wp rfl rfl ?_
        clear hi ho hL hin
        refine wp_val (v:=ve) ?_ ⟨_,rfl,StR.mk (by decide) (by decide) v4.symm,hc,fun _ _ _ h=>h⟩
        have f0:w1.cell? ⟨gO,2,none⟩=some ve:=by rw [hc1.blk.cell];exact hve
        clear hc1
        clear v0 v1 v2 v3 v4 v5 v8 v9 v10 hc
        unfold execOp
        go_simp
      | 5,ho=>
        obtain rfl:=(Option.some.inj ho).symm
        have hla:listed.getD 7 false=false:=hL.later2 (hL.later (j:=6) hi (by kernel_rfl)) (by kernel_rfl)
        have hls:listed.getD 10 false=false:=hL.later2 hla (by kernel_rfl)
        have hc1:=Stage.one hL.cls hla hls
        have e0:a.tmps[4]?.getD undef=(.pointer (some ⟨gE,0,none⟩)):=(zAd a 4).trans (hL.get_old hi (by kernel_rfl))
        have hc:=Stage.same (i:=5) hL.cls (by decide) (by decide)
        refine step_wp rfl rfl ?_
        clear hi ho hL hin
        refine wp_val (v:=(.agg (entC x).toArray)) ?_ ⟨_,rfl,StR.mk (by decide) (by decide) v5.symm,hc,fun _ _ _ h=>h⟩
        have f0:(ldvE ⟨gE,0,none⟩).run Tryz.prog w1 = .ok (.agg (entC x).toArray) w1:=run_ldvE (zAy hc1.pre) hxok
        clear hc1
        clear v0 v1 v2 v3 v4 v5 v8 v9 v10 hc
        unfold execOp
        go_simp
      | 6,ho=>
        obtain rfl:=(Option.some.inj ho).symm
        have hla:listed.getD 7 false=false:=hL.later (j:=7) hi (by kernel_rfl)
        have hls:listed.getD 10 false=false:=hL.later2 hla (by kernel_rfl)
        have hc1:=Stage.one hL.cls hla hls
        have e0:a.tmps[31]?.getD undef=(.agg (entC x).toArray):=(zAd a 31).trans (((hL.get_new (j:=5) hi (by kernel_rfl)).at_ (by decide) (by decide)).trans v5)
        refine step_wp rfl rfl ?_
        have hbA:Below w1.heap.size w1 (w1.alloc (.cells (entC x).toArray 181)):=(Below.refl _ _).alloc (Nat.le_refl _) _
        refine zCg rfl Tryz.entTy (by decide) (zBt hxok) (.inl ( ((zAd a 31).symm.trans e0))) ⟨_,rfl,StR.mkLit ⟨w1.heap.size,rfl,Blk.new _ _ _,hc1.size,fun h=>by have:=(World.ownsRow.lt hc1.own _ h).2;omega⟩,Stage.to1 (hc1.below hbA (hIb _ _ hc1.inv hbA) (hJb _ _ hc1.pre hbA)) hla hls (by decide) (by decide),fun j u _ h=>StR.keep (fun _ h=>h.below hbA) (fun _ h=>h.below hbA) j u h⟩
      | 7,ho=>
        obtain rfl:=(Option.some.inj ho).symm
        have hla:listed.getD 7 false=false:=(zAr (by rw [hsz];exact hin)).trans (zAq hi).2.1
        have hls:listed.getD 10 false=false:=hL.later2 hla (by kernel_rfl)
        have hc1:=Stage.one hL.cls hla hls
        have hx:=(hL.get_new (j:=6) (t:=32) hi (by kernel_rfl)).lit
        have hs:a.eval (.tmp 30)=ve:=((hL.get_new (j:=4) hi (by kernel_rfl)).at_ (by decide) (by decide)).trans v4
        refine step_wp rfl rfl ?_
        refine zD7 rfl Tryz.entTy hc1 hgOB hx (zBt hxok) (zDj x) hm1 hm2 (fun w2 hb=>hIB _ _ hc1.inv hb) hs rfl ?_
        intro v2 w2 hf2 ha2 hk2 hb2
        exact ⟨_,rfl,StR.mkApp ha2 (by decide),Stage.to2 hf2 hls (by rw [hsz];decide) (by decide),fun j u hj h=>StR.keepL hk2 (fun e=>by rw [e,hla] at hj;cases hj) h⟩
      | 8,ho=>
        obtain rfl:=(Option.some.inj ho).symm
        have e0:a.tmps[26]?.getD undef=(.pointer (some ⟨gO,0,none⟩)):=(zAd a 26).trans (((hL.get_new (j:=0) hi (by kernel_rfl)).at_ (by decide) (by decide)).trans v0)
        have hc:=Stage.same (i:=8) hL.cls (by decide) (by decide)
        refine step_wp rfl rfl ?_
        clear hi ho hL hin
        refine wp_val (v:=(.pointer (some ⟨gO,0,none⟩))) ?_ ⟨_,rfl,StR.mk (by decide) (by decide) v8.symm,hc,fun _ _ _ h=>h⟩
        clear v0 v1 v2 v3 v4 v5 v8 v9 v10 hc
        unfold execOp
        go_simp
      | 9,ho=>
        obtain rfl:=(Option.some.inj ho).symm
        have e0:a.tmps[34]?.getD undef=(.pointer (some ⟨gO,0,none⟩)):=(zAd a 34).trans (((hL.get_new (j:=8) hi (by kernel_rfl)).at_ (by decide) (by decide)).trans v8)
        have hc:=Stage.same (i:=9) hL.cls (by decide) (by decide)
        refine step_wp rfl rfl ?_
        clear hi ho hL hin
        refine wp_val (v:=(.pointer (some ⟨gO,2,none⟩))) ?_ ⟨_,rfl,StR.mk (by decide) (by decide) v9.symm,hc,fun _ _ _ h=>h⟩
        clear v0 v1 v2 v3 v4 v5 v8 v9 v10 hc
        unfold execOp
        go_simp
      | 10,ho=>
        obtain rfl:=(Option.some.inj ho).symm
        have hla:listed.getD 7 false=true:=hL.before hi (by kernel_rfl)
        have hls:listed.getD 10 false=false:=(zAr (by rw [hsz];exact hin)).trans (zAq hi).2.1
        have hc2:=Stage.two hL.cls hla hls
        have e0:a.tmps[35]?.getD undef=(.pointer (some ⟨gO,2,none⟩)):=(zAd a 35).trans (((hL.get_new (j:=9) hi (by kernel_rfl)).at_ (by decide) (by decide)).trans v9)
        have hv:=(hL.get_new (j:=7) (t:=33) hi (by kernel_rfl)).app (by decide)
        obtain ⟨vA,vK,hvv⟩:=zAm hv
        rw [hvv] at hv
        have e1:a.tmps[33]?.getD undef=_:=(zAd a 33).trans hvv
        have c0:(w1.cell? ⟨gO,2,none⟩).isSome=true:=(hc2.blk.there (o:=2) (n:=1) (by rw [hcO];decide) 0 (by decide)).1
        obtain ⟨c0v,c0⟩:=Option.isSome_iff_exists.1 c0
        have f0:=hc2.blk.frozen 2
        have hR:=fun u=>AppR.set_ (p:=⟨gO,2,none⟩) (hv) hgOB u
        have h3:=Stage.to3 (ap:=7) (P1:=(F1 BB gO 74 cO 181 34 ve n xs II (fun w'=>EntB w' gE x))) (P2:=(F2 BB gO 74 cO II)) (hc2.stored (off:=2) hv hgOB (hIs _ _ hc2.inv)) (listed:=listed) (st:=10) (by rw [hsz];decide)
        refine step_wp rfl rfl ?_
        clear hi ho hL hin hc2
        refine wp_skip (w':=w1.setCell ⟨gO,2,none⟩ _) ?_ ⟨_,rfl,StR.mk (by decide) (by decide) v10.symm,h3,fun j u _ h=>StR.keep (fun _ h=>h.set_ hgOB _) (fun _ h=>AppR.set_ h hgOB _) j u h⟩
        clear v0 v1 v2 v3 v4 v5 v8 v9 v10 h3
        unfold execOp
        go_simp
      | (n+11),ho=>exact absurd hin (by simp)
     ·intro a w1 listed hL hall
      obtain ⟨v3,hb3,ho3,hi3,_⟩:=Stage.three hL.cls (hall 10 (by decide))
      rw [←hII.out] at hi3
      rw [hset.out] at hb3
      have hob3:ObjB w1 gO { nObj k with ents:=acc++[x] } v3 (.slice none 0 0):=⟨hb3,hotr,hota⟩
      rw [←hxs.out,←hn.out,←hBB.out,hrow.out] at ho3
      have hown3:OwnEnts w1 w.heap.size v3 (acc++[x]):=by unfold OwnEnts;rw [List.length_append];exact ho3
      have hl3:(acc++[x]).length+f≤n0:=by rw [List.length_append];simp only [List.length_cons,List.length_nil];omega
      have hr3':=hi3.rd
      have hf3':=hi3.far
      have hlI:I.2.1.length≤f:=by omega
      obtain ⟨vs,rfl,hR⟩:=hL.frame (by kernel_rfl) (zA7 (n:=36) (by kernel_rfl)) hall
      clear hL hall hR hF1 hIb hIB hIs hJb hII hset hrow hxs hn hBB hm1 hm2 hb3 ho3 hi3 hve hcO
      simp only [putAll,Act.put,List.setIfInBounds_toArray,List.set_cons_zero,List.set_cons_succ]
      go_wp2
      go_roundg f
      case rel=>exact ⟨by omega,I.2,acc++[x],v3,hlI,hl3,hnx,hown3,hob3,hr3',hf3'⟩
      case measure=>exact Nat.lt_succ_self f
end
theorem rPars_end {f:Nat} {r:Rd} {acc:List Txt} (h:f=0∨r.2=true):rPars f r acc=(acc,r):=by
 rcases h with rfl | h
 ·rfl
 ·cases f with
  | zero=>rfl
  | succ f=>rw [rPars,if_pos h]
theorem rPars_step {f:Nat} {s:Txt} {acc:List Txt}:rPars (f+1) (s,false) acc=rPars f (rId (s,false)).2 (acc++[(rId (s,false)).1]):=by
 rw [rPars,if_neg (by simp)]
theorem rPars_le : ∀ (f:Nat) (r:Rd) (acc:List Txt),(rPars f r acc).2.1.length≤r.1.length
 | 0,r,acc=>Nat.le_refl _
 | f+1,r,acc=>by
   rw [rPars]
   split
   ·exact Nat.le_refl _
   ·exact Nat.le_trans (rPars_le f _ _) (rId_le r)
structure ParI (w:World) (gO gR:Nat) (o:ObjL) (r:Rd) (acc:List Txt) (vp:Value) (w':World):Prop where
 obj:ObjB w' gO { o with pars:=acc } (.slice none 0 0) vp
 own:OwnIds w' w.heap.size vp acc
 rd:RdB w' gR r
 far:Far [some gO,some gR] w w'
set_option maxRecDepth 100000 in
set_option maxHeartbeats 4000000 in
theorem commit_calls (k:Nat) (r:Rd) (hr:r.1.length≤100000) (gO gR:Nat) (hne:gO≠gR) (w:World) (hO:ObjB w gO (nObj k) (.slice none 0 0) (.slice none 0 0)) (hR:RdB w gR r) :
 Calls Tryz.prog 108 #[.pointer (some ⟨gR,0,none⟩), .pointer (some ⟨gO,0,none⟩)] w fun e w'=>e = .returned (.tuple #[])∧Did w gO gR w.heap.size (rCommit k r) w':=by
 have hi32:=rId_len r
 have hil:=rId_le r
 have hnl:=rNum_le (rId r).2
 have hnm:=rNum_num (rId r).2
 have hpl:=rPars_le (rNum (rId r).2).1 (badIf (decide (8<(rNum (rId r).2).1)) (rNum (rId r).2).2) []
 rw [zC8] at hpl
 have hic:=Lib.hid (zEj r hr gR w hR)
 have hnc:=fun W hW=>Lib.hid (rn_calls (rId r).2 (by omega) gR W hW)
 have hgO:some gO ∉ [some gR]:=by simp;omega
 have hltO:gO<w.heap.size:=hO.blk.lt
 have hltR:gR<w.heap.size:=Blk.lt hR
 have hS : ∀ k,some k∈[some gR]→some k∈[some gO,some gR]:=by simp
 have hend:Hid (rCommit k r=((⟨k,[],[],(rId r).1,(rPars (rNum (rId r).2).1 (badIf (decide (8<(rNum (rId r).2).1)) (rNum (rId r).2).2) []).1,(rNum (rPars (rNum (rId r).2).1 (badIf (decide (8<(rNum (rId r).2).1)) (rNum (rId r).2).2) []).2).1%4294967296,(rText (badIf (decide (4294967295<(rNum (rPars (rNum (rId r).2).1 (badIf (decide (8<(rNum (rId r).2).1)) (rNum (rId r).2).2) []).2).1)) (rNum (rPars (rNum (rId r).2).1 (badIf (decide (8<(rNum (rId r).2).1)) (rNum (rId r).2).2) []).2).2)).1,noId,0,[]⟩:ObjL),
  (rText (badIf (decide (4294967295<(rNum (rPars (rNum (rId r).2).1 (badIf (decide (8<(rNum (rId r).2).1)) (rNum (rId r).2).2) []).2).1)) (rNum (rPars (rNum (rId r).2).1 (badIf (decide (8<(rNum (rId r).2).1)) (rNum (rId r).2).2) []).2).2)).2)):=rfl
 generalize rId r=I at *
 generalize rNum I.2=N at *
 obtain ⟨C0,hC0⟩ : ∃ C0,Hid (rCommit k r=C0):=⟨_,Lib.hid rfl⟩
 rw [hC0.out] at hend
 rw [hC0.out]
 obtain ⟨X,hX⟩ : ∃ X,Hid (rPars N.1 (badIf (decide (8<N.1)) N.2) []=X):=⟨_,Lib.hid rfl⟩
 rw [hX.out] at hend hpl
 have hntc:=fun W hW=>Lib.hid (rn_calls X.2 (by omega) gR W hW)
 have htl:=rNum_le X.2
 have htm:=rNum_num X.2
 generalize rNum X.2=T at *
 have hbl:=zC8 (decide (4294967295<T.1)) T.2
 have hxc:=fun W hW=>Lib.hid (rt_calls (badIf (decide (4294967295<T.1)) T.2) (by rw [hbl];omega) gR W hW)
 generalize hR4:badIf (decide (4294967295<T.1)) T.2=R4 at *
 have HR4:=Lib.hid hR4
 generalize rText R4=Y at *
 clear hR4 hC0 hbl
 have hstart:OwnIds w w.heap.size (.slice none 0 0) []:=World.ownsRow_nil _ _ _ _
 go_enter Tryz.func108,Tryz.ntmps108
 go_upto_if 15 with (first
  | ((with_reducible refine hic.out.mono ?_);rintro e w1 ⟨rfl,hr1,hf1⟩
     have hO1:=hO.far hf1 hgO
     have ht1:=hO1.there 3 32 (by omega)
     have hf1:=(hf1.mono (T:=[some gO,some gR]) hS)
     clear hic hR hO)
  | ((with_reducible refine zBo (.tmp 11) (.tmp 9) gO 3 I.1 hi32 ht1 ?_ ?_ ?_);rfl;rfl
     have hO2:=hO1.setTree I.1 hi32
     have hr2:=hr1.cells_ hne (u8s I.1).toList 3
     have hf2:=Far.cells (S:=[some gO,some gR]) (g:=gO) (.inl (List.mem_cons_self ..)) (u8s I.1).toList 3 _ hf1
     clear hO1 hr1 hf1 ht1)
  | ((with_reducible refine (hnc _ hr2).out.mono ?_);rintro e w3 ⟨rfl,hr3,hf3⟩
     have hO3:=hO2.far hf3 hgO
     have hfar3:=hf2.trans (hf3.mono hS)
     clear hnc hr2 hO2 hf2 hf3))
 have hc1:=hr3.c1
 have hfr1:=hr3.f 1
 generalize hR2:badIf (decide (8<N.1)) N.2=R2 at *
 have hbl2:R2.1=N.2.1:=by rw [←hR2];exact zC8 _ _
 have hbt:Hid (8<N.1→R2=(N.2.1,true)):=fun h=>by rw [←hR2,decide_eq_true h];rfl
 have hbf:Hid (¬ 8<N.1→R2=N.2):=fun h=>by rw [←hR2,decide_eq_false h];rfl
 clear hR2
 go_cut [] from 15 to 18 (fun wx=>RdB wx gR R2∧ObjB wx gO { nObj k with tree:=I.1 } (.slice none 0 0) (.slice none 0 0)∧Far [some gO,some gR] w wx)
 case first=>
  by_cases h8:8<N.1
  ·have h8i:(8:Int)<(N.1:Int):=by omega
   have e2:=Lib.hid (hbt.out h8)
   clear hbt hbf hbl2
   go_wp2_with (fail)
   go_meet
   case rel=>exact ⟨by rw [e2.out];exact hr3.bad,hO3.far (S:=[some gR]) ((Far.refl _ _).set_ (p:=⟨gR,1,none⟩) (.inl (by simp)) _) hgO,hfar3.set_ (.inl (by simp)) _⟩
  ·have h8i : ¬ (8:Int)<(N.1:Int):=by omega
   have e2:=Lib.hid (hbf.out h8)
   clear hbt hbf hbl2
   go_wp2_with (fail)
   go_meet
   case rel=>exact ⟨by rw [e2.out];exact hr3,hO3,hfar3⟩
 obtain ⟨hrX,hOX,hfX⟩:=hcut
 clear hr3 hO3 hfar3 hc1 hfr1
 have hb8:Hid (R2.2=false→N.1≤8):=fun h=>by
  by_cases h8:8<N.1
  ·rw [hbt.out h8] at h;cases h
  ·omega
 clear hbt hbf
 have hR2l:R2.1.length≤100000:=by rw [hbl2];omega
 have hownX:OwnIds wc w.heap.size (.slice none 0 0) []:=World.ownsRow_nil _ _ _ _
 have hn0:N.1≤0+N.1:=by omega
 have hn1:0+N.1≤N.1:=by omega
 have hpi0:ParI w gO gR { nObj k with tree:=I.1 } R2 [] (.slice none 0 0) wc:=⟨hOX,hownX,hrX,hfX⟩
 generalize N.1=n at *
 clear hOX hownX hrX hfX
 go_upto_block 0 with (fail)
 go_cut [] from 5 to 41 (fun wx => ∃ vp,ParI w gO gR { nObj k with tree:=I.1 } X.2 X.1 vp wx)
 case first=>
  go_wp2_with (fail)
  go_loopg [5] n (fun f vi wr => ∃ (j:Nat) (r':Rd) (acc:List Txt) (vp:Value),vi = .int .u64 j∧j+f≤n∧n≤j+f∧acc.length≤j∧Hid (r'.2=false→n≤8)∧Hid (rPars f r' acc=X)∧r'.1.length≤100000∧ParI w gO gR { nObj k with tree:=I.1 } r' acc vp wr)
  case atStart=>exact ⟨0,R2,[], .slice none 0 0,rfl,hn1,hn0,by simp,hb8,hX,hR2l,hpi0⟩
  case round=>
   obtain ⟨j,r',acc,vp,rfl,hj1,hj2,hacc,h8,hrel,hlen,hpi⟩:=hrel
   clear hX hb8 hpi0 hn0 hn1 hR2l hbl2
   have c1:=hpi.rd.c1
   by_cases hex:gk=0∨r'.2=true
   ·have hx:Hid ((acc,r')=X):=by show _=_;rw [←hrel.out];exact (rPars_end hex).symm
    have hfi:ParI w gO gR { nObj k with tree:=I.1 } X.2 X.1 vp wr:=by rw [←hx.out];exact hpi
    clear hrel h8 hx hpi
    cases hX2:r'.2 with
    | true=>
      rw [hX2] at c1
      clear hX2 hex
      by_cases hjn:j<n
      ·have hjn1:(j:Int)<(n:Int):=by omega
       go_wp2_with (fail)
       all_goals try (exfalso;omega)
       go_meet
       case rel=>exact ⟨vp,hfi⟩
      ·have hjn1 : ¬ (j:Int)<(n:Int):=by omega
       go_wp2_with (fail)
       all_goals try (exfalso;omega)
       go_meet
       case rel=>exact ⟨vp,hfi⟩
    | false=>
      rw [hX2] at c1 hex
      have hg0:gk=0:=by simpa using hex
      have hjn1 : ¬ (j:Int)<(n:Int):=by omega
      clear hX2 hex hg0
      go_wp2_with (fail)
      all_goals try (exfalso;omega)
      go_meet
      case rel=>exact ⟨vp,hfi⟩
   ·have hb0:r'.2=false:=by cases hq:r'.2<;>simp_all
    cases gk with
    | zero=>exact absurd (.inl rfl) hex
    | succ f=>
    have hn8:=h8.out hb0
    have hjn1:(j:Int)<(n:Int):=by omega
    have hj8:(j:Int)<8:=by omega
    obtain ⟨s,b⟩:=r'
    simp only at hb0 c1 hlen
    subst hb0
    rw [rPars_step] at hrel
    have hj32:=rId_len (s,false)
    have hjl:=rId_le (s,false)
    simp only at hjl
    have hIc0:=fun W (hW:RdB W gR (s,false))=>Lib.hid (zEj (s,false) hlen gR W hW)
    generalize rId (s,false)=J at *
    have h8':Hid (J.2.2=false→n≤8):=fun _=>hn8
    clear h8 hex
    go_upto_region 7 with (fail)
    all_goals try (exfalso;omega)
    obtain ⟨hOb,hown,hRb,hfar⟩:=hpi
    have hotr:=hOb.tr
    have hota:=hOb.ta
    have hF1:F1 w.heap.size gO 74 (objC { nObj k with tree:=I.1,pars:=acc } (.slice none 0 0) vp).toArray 28 32 vp acc.length (rowsOf idC acc) (Far [some gO,some gR] w) (fun _=>True) wr.drew:=⟨hOb.blk.drew,hown,hfar.drew,trivial,Nat.le_trans hfar.size (Nat.le_refl _)⟩
    have hA1:RdB wr.drew gR (if false=true then J.2 else (s,false)):=hRb.drewN 1
    have hcO:(objC { nObj k with tree:=I.1,pars:=acc } (.slice none 0 0) vp).toArray.size=72:=by rw [List.size_toArray];unfold objC;simp only [List.length_cons,List.length_append,u8s_len,hotr,hota,List.length_nil]
    have hve:(objC { nObj k with tree:=I.1,pars:=acc } (.slice none 0 0) vp).toArray[35]?=some vp:=by rw [List.getElem?_toArray];exact obj_pars (o:={ nObj k with tree:=I.1,pars:=acc }) hotr
    have hset:Hid (∀ v':Value,(objC { nObj k with tree:=I.1,pars:=acc } (.slice none 0 0) vp).toArray.setIfInBounds 35 v'=(objC { nObj k with tree:=I.1,pars:=acc++[J.1] } (.slice none 0 0) v').toArray):=fun v'=>by
     rw [List.setIfInBounds_toArray]
     congr 1
     show _::_::_::((u8s I.1).toList++_).set 32 _=_
     rw [set_app (by rw [u8s_len];exact hi32) (Nat.le_refl _)];rfl
    have hrow:Hid (rowsOf idC acc++idC J.1=rowsOf idC (acc++[J.1])):=by show _=_;rw [zAo,zAx]
    have hm1:acc.length+1≤9223372036854775807:=by omega
    have hm2:(acc.length+1)*32≤140737488355328:=by omega
    have hIb:=fun w1 w2 (h:Far [some gO,some gR] w w1) (hb:Below w1.heap.size w1 w2)=>h.more hb
    have hIB:=fun w1 w2 (h:Far [some gO,some gR] w w1) (hb:Below w.heap.size w1 w2)=>h.low hb
    have hIs:=fun v w1 (h:Far [some gO,some gR] w w1)=>h.set_ (p:=⟨gO,35,none⟩) (.inl (by simp)) v
    have hIf:=fun w1 w2 (h:Far [some gO,some gR] w w1) (hb:Far [some gR] w1 w2)=>h.trans (hb.mono hS)
    have hIc:=fun W (hW:RdB W gR (if false=true then J.2 else (s,false)))=>hIc0 W hW
    have hAt:=fun W (hW:RdB W gR J.2)=>(hW:RdB W gR (if true=true then J.2 else (s,false)))
    have hAb:=fun b w1 w2 (h:RdB w1 gR (if b=true then J.2 else (s,false))) (hb:Below w1.heap.size w1 w2)=>h.below hb
    have hAB:=fun b w1 w2 (h:RdB w1 gR (if b=true then J.2 else (s,false))) (hb:Below w.heap.size w1 w2)=>((hb.block gR hltR).trans h:RdB w2 gR (if b=true then J.2 else (s,false)))
    have hAs:=fun b v w1 (h:RdB w1 gR (if b=true then J.2 else (s,false)))=>RdB.set_ (p:=⟨gO,35,none⟩) h (fun e=>hne e.symm) v
    have hJb:=fun (w1 w2:World) (_:True) (_:Below w1.heap.size w1 w2)=>trivial
    have hSB : ∀ k,some k∈[some gR]→k<w.heap.size:=fun k hk=>by simp at hk;omega
    have hgOB:=hltO
    clear hOb hown hRb hfar hIc0 c1
    generalize (objC { nObj k with tree:=I.1,pars:=acc } (.slice none 0 0) vp).toArray=cO at *
    obtain ⟨n',hn'⟩ : ∃ n',Hid (acc.length=n'):=⟨_,Lib.hid rfl⟩
    rw [hn'.out] at hF1 hm1 hm2
    obtain ⟨xs,hxs⟩ : ∃ xs,Hid (rowsOf idC acc=xs):=⟨_,Lib.hid rfl⟩
    rw [hxs.out] at hF1
    obtain ⟨II,hII⟩ : ∃ II,Hid (Far [some gO,some gR] w=II):=⟨_,Lib.hid rfl⟩
    rw [hII.out] at hF1
    have hIb : ∀ w1 w2,II w1→Below w1.heap.size w1 w2→II w2:=hII.out▸hIb
    have hIB : ∀ w1 w2,II w1→Below w.heap.size w1 w2→II w2:=hII.out▸hIB
    have hIf : ∀ w1 w2,II w1→Far [some gR] w1 w2→II w2:=hII.out▸hIf
    have hIs : ∀ v w1,II w1→II (w1.setCell ⟨gO,35,none⟩ v):=hII.out▸hIs
    obtain ⟨BB,hBB⟩ : ∃ BB,Hid (w.heap.size=BB):=⟨_,Lib.hid rfl⟩
    rw [hBB.out] at hF1 hIB hgOB hAB hSB
    obtain ⟨AA,hAA⟩ : ∃ AA:Bool→World→Prop,AA=fun b W=>RdB W gR (if b=true then J.2 else (s,false)):=⟨_,rfl⟩
    have hAe : ∀ W,AA true W→RdB W gR J.2:=fun W h=>by rw [hAA] at h;exact h
    have hA1:AA false wr.drew:=by rw [hAA];exact hA1
    have hIc : ∀ W,AA false W→_:=fun W h=>hIc W (by rw [hAA] at h;exact h)
    have hAt : ∀ W,RdB W gR J.2→AA true W:=fun W h=>by rw [hAA];exact h
    have hAb : ∀ b w1 w2,AA b w1→Below w1.heap.size w1 w2→AA b w2:=fun b w1 w2 h hb=>by rw [hAA] at *;exact hAb b w1 w2 h hb
    have hAB : ∀ b w1 w2,AA b w1→Below BB w1 w2→AA b w2:=fun b w1 w2 h hb=>by rw [hAA] at *;exact hAB b w1 w2 h hb
    have hAs : ∀ b v w1,AA b w1→AA b (w1.setCell ⟨gO,35,none⟩ v):=fun b v w1 h=>by rw [hAA] at *;exact hAs b v w1 h
    clear hAA
    obtain ⟨V,hV⟩ : ∃ V:Nat→Value,V=fun i=>[(.pointer (some ⟨gO,0,none⟩)),(.pointer (some ⟨gO,0,none⟩)),(.pointer (some ⟨gO,0,none⟩)),(.pointer (some ⟨gO,35,none⟩)),vp,(.pointer (some ⟨gR,0,none⟩)),(.agg (u8s J.1)),undef,undef,(.pointer (some ⟨gO,0,none⟩)),(.pointer (some ⟨gO,35,none⟩)),undef].getD i undef:=⟨_,rfl⟩
    have v0:V 0=(.pointer (some ⟨gO,0,none⟩)):=by rw [hV];rfl
    have v1:V 1=(.pointer (some ⟨gO,0,none⟩)):=by rw [hV];rfl
    have v2:V 2=(.pointer (some ⟨gO,0,none⟩)):=by rw [hV];rfl
    have v3:V 3=(.pointer (some ⟨gO,35,none⟩)):=by rw [hV];rfl
    have v4:V 4=vp:=by rw [hV];rfl
    have v5:V 5=(.pointer (some ⟨gR,0,none⟩)):=by rw [hV];rfl
    have v6:V 6=(.agg (u8s J.1)):=by rw [hV];rfl
    have v9:V 9=(.pointer (some ⟨gO,0,none⟩)):=by rw [hV];rfl
    have v10:V 10=(.pointer (some ⟨gO,35,none⟩)):=by rw [hV];rfl
    have v11:V 11=undef:=by rw [hV];rfl
    clear hV
    refine zA3 (C:=fun listed w=>Stage 8 11 (F1 BB gO 74 cO 28 32 vp n' xs II (fun _=>True)) (F2 BB gO 74 cO II) (F3 BB gO 35 74 cO 28 32 n' xs (idC J.1) II) listed w∧AA (listed.getD 6 false) w) (R:=StR V 7 8 (LitR BB 28 vp (idC J.1)) (AppR BB 28 32 n' xs (idC J.1))) (by kernel_rfl) (by kernel_rfl) (by kernel_rfl) ?_ ?_ ?_ ?_
    ·exact zA7 (n:=59) (by kernel_rfl)
    ·exact ⟨Stage.start hF1,by rw [zBa];exact hA1⟩
    ·intro i o listed a w1 ho hi hL
     have hin:=(zAq hi).1
     have hsz:listed.size=12:=hL.size
     match i,ho with
     | 0,ho=>
       obtain rfl:=(Option.some.inj ho).symm
       have e0:a.tmps[1]?.getD undef=(.pointer (some ⟨gO,0,none⟩)):=(zAd a 1).trans (hL.get_old hi (by kernel_rfl))
       have hc:=Stage.same (i:=0) hL.cls.1 (by decide) (by decide)
       have hcx:=hL.cls.2
       rw [←zAB (i:=0) (j:=6) (l:=listed) (by decide)] at hcx
       have hc:=And.intro hc hcx
       clear hcx
       refine step_wp rfl rfl ?_
       clear hi ho hL hin
       refine wp_val (v:=(.pointer (some ⟨gO,0,none⟩))) ?_ ⟨_,rfl,StR.mk (by decide) (by decide) v0.symm,hc,fun _ _ _ h=>h⟩
       clear v0 v1 v2 v3 v4 v5 v6 v9 v10 v11 hc
       unfold execOp
       go_simp
     | 1,ho=>
       obtain rfl:=(Option.some.inj ho).symm
       have e0:a.tmps[1]?.getD undef=(.pointer (some ⟨gO,0,none⟩)):=(zAd a 1).trans (hL.get_old hi (by kernel_rfl))
       have hc:=Stage.same (i:=1) hL.cls.1 (by decide) (by decide)
       have hcx:=hL.cls.2
       rw [←zAB (i:=1) (j:=6) (l:=listed) (by decide)] at hcx
       have hc:=And.intro hc hcx
       clear hcx
       refine step_wp rfl rfl ?_
       clear hi ho hL hin
       refine wp_val (v:=(.pointer (some ⟨gO,0,none⟩))) ?_ ⟨_,rfl,StR.mk (by decide) (by decide) v1.symm,hc,fun _ _ _ h=>h⟩
       clear v0 v1 v2 v3 v4 v5 v6 v9 v10 v11 hc
       unfold execOp
       go_simp
     | 2,ho=>
       obtain rfl:=(Option.some.inj ho).symm
       have e0:a.tmps[32]?.getD undef=(.pointer (some ⟨gO,0,none⟩)):=(zAd a 32).trans (((hL.get_new (j:=1) hi (by kernel_rfl)).at_ (by decide) (by decide)).trans v1)
       have hc:=Stage.same (i:=2) hL.cls.1 (by decide) (by decide)
       have hcx:=hL.cls.2
       rw [←zAB (i:=2) (j:=6) (l:=listed) (by decide)] at hcx
       have hc:=And.intro hc hcx
       clear hcx
       refine step_wp rfl rfl ?_
       clear hi ho hL hin
       refine wp_val (v:=(.pointer (some ⟨gO,0,none⟩))) ?_ ⟨_,rfl,StR.mk (by decide) (by decide) v2.symm,hc,fun _ _ _ h=>h⟩
       clear v0 v1 v2 v3 v4 v5 v6 v9 v10 v11 hc
       unfold execOp
       go_simp
     | 3,ho=>
       obtain rfl:=(Option.some.inj ho).symm
       have e0:a.tmps[33]?.getD undef=(.pointer (some ⟨gO,0,none⟩)):=(zAd a 33).trans (((hL.get_new (j:=2) hi (by kernel_rfl)).at_ (by decide) (by decide)).trans v2)
       have hc:=Stage.same (i:=3) hL.cls.1 (by decide) (by decide)
       have hcx:=hL.cls.2
       rw [←zAB (i:=3) (j:=6) (l:=listed) (by decide)] at hcx
       have hc:=And.intro hc hcx
       clear hcx
       refine step_wp rfl rfl ?_
       clear hi ho hL hin
       refine wp_val (v:=(.pointer (some ⟨gO,35,none⟩))) ?_ ⟨_,rfl,StR.mk (by decide) (by decide) v3.symm,hc,fun _ _ _ h=>h⟩
       clear v0 v1 v2 v3 v4 v5 v6 v9 v10 v11 hc
       unfold execOp
       go_simp
     | 4,ho=>
       obtain rfl:=(Option.some.inj ho).symm
       have hla:listed.getD 8 false=false:=hL.later (j:=8) hi (by kernel_rfl)
       have hls:listed.getD 11 false=false:=hL.later2 hla (by kernel_rfl)
       have hc1:=Stage.one hL.cls.1 hla hls
       have e0:a.tmps[34]?.getD undef=(.pointer (some ⟨gO,35,none⟩)):=(zAd a 34).trans (((hL.get_new (j:=3) hi (by kernel_rfl)).at_ (by decide) (by decide)).trans v3)
       have hc:=Stage.same (i:=4) hL.cls.1 (by decide) (by decide)
       have hcx:=hL.cls.2
       rw [←zAB (i:=4) (j:=6) (l:=listed) (by decide)] at hcx
       have hc:=And.intro hc hcx
       clear hcx
       refine step_wp rfl rfl ?_
       clear hi ho hL hin
       refine wp_val (v:=vp) ?_ ⟨_,rfl,StR.mk (by decide) (by decide) v4.symm,hc,fun _ _ _ h=>h⟩
       have f0:w1.cell? ⟨gO,35,none⟩=some vp:=by rw [hc1.blk.cell];exact hve
       clear hc1
       clear v0 v1 v2 v3 v4 v5 v6 v9 v10 v11 hc
       unfold execOp
       go_simp
     | 5,ho=>
       obtain rfl:=(Option.some.inj ho).symm
       have e0:a.tmps[0]?.getD undef=(.pointer (some ⟨gR,0,none⟩)):=(zAd a 0).trans (hL.get_old hi (by kernel_rfl))
       have hc:=Stage.same (i:=5) hL.cls.1 (by decide) (by decide)
       have hcx:=hL.cls.2
       rw [←zAB (i:=5) (j:=6) (l:=listed) (by decide)] at hcx
       have hc:=And.intro hc hcx
       clear hcx
       refine step_wp rfl rfl ?_
       clear hi ho hL hin
       refine wp_val (v:=(.pointer (some ⟨gR,0,none⟩))) ?_ ⟨_,rfl,StR.mk (by decide) (by decide) v5.symm,hc,fun _ _ _ h=>h⟩
       clear v0 v1 v2 v3 v4 v5 v6 v9 v10 v11 hc
       unfold execOp
       go_simp
     | 6,ho=>
       obtain rfl:=(Option.some.inj ho).symm
       have hla:listed.getD 8 false=false:=hL.later (j:=8) hi (by kernel_rfl)
       have hls:listed.getD 11 false=false:=hL.later2 hla (by kernel_rfl)
       have hc1:=Stage.one hL.cls.1 hla hls
       have e0:a.tmps[36]?.getD undef=(.pointer (some ⟨gR,0,none⟩)):=(zAd a 36).trans (((hL.get_new (j:=5) hi (by kernel_rfl)).at_ (by decide) (by decide)).trans v5)
       refine step_wp rfl rfl ?_
       have hl6:listed.getD 6 false=false:=(zAr (by rw [hsz];exact hin)).trans (zAq hi).2.1
       have hl7:listed.getD 7 false=false:=hL.later (j:=7) hi (by kernel_rfl)
       have hA:=hL.cls.2
       rw [hl6] at hA
       have hcl:=hIc w1 hA
       have hcj:=fun j u (hj:listed.getD j false=true) (h:StR V 7 8 (LitR BB 28 vp (idC J.1)) (AppR BB 28 32 n' xs (idC J.1)) j u w1) (w2:World)=>(StR.keepN (fun e=>by rw [e,hl7] at hj;cases hj) (fun e=>by rw [e,hla] at hj;cases hj) h:StR V 7 8 (LitR BB 28 vp (idC J.1)) (AppR BB 28 32 n' xs (idC J.1)) j u w2)
       refine zCz rfl (vals := #[.pointer (some ⟨gR,0,none⟩)]) (map1 ((zAd a 36).symm.trans e0)) (by go_simp) hcl.out ?_
       rintro e w2 ⟨rfl,hr2,hf2⟩
       exact ⟨_,rfl,_,rfl,StR.mk (by decide) (by decide) v6.symm,⟨Stage.to1 (hc1.far hf2 hgO hSB (hIf _ _ hc1.inv hf2) trivial) hla hls (by decide) (by decide),by rw [zDA (by rw [hsz];decide)];exact hAt _ hr2⟩,fun j u hj h=>hcj j u hj h w2⟩
     | 7,ho=>
       obtain rfl:=(Option.some.inj ho).symm
       have hla:listed.getD 8 false=false:=hL.later (j:=8) hi (by kernel_rfl)
       have hls:listed.getD 11 false=false:=hL.later2 hla (by kernel_rfl)
       have hc1:=Stage.one hL.cls.1 hla hls
       have e0:a.tmps[37]?.getD undef=(.agg (u8s J.1)):=(zAd a 37).trans (((hL.get_new (j:=6) hi (by kernel_rfl)).at_ (by decide) (by decide)).trans v6)
       refine step_wp rfl rfl ?_
       have hbA:Below w1.heap.size w1 (w1.alloc (.cells (idC J.1).toArray 28)):=(Below.refl _ _).alloc (Nat.le_refl _) _
       refine zCg rfl Tryz.idsTy (by decide) (idC_len hj32) (.inl (idC_agg ((zAd a 37).symm.trans e0))) ⟨_,rfl,StR.mkLit ⟨w1.heap.size,rfl,Blk.new _ _ _,hc1.size,fun h=>by have:=(World.ownsRow.lt hc1.own _ h).2;omega⟩,⟨Stage.to1 (hc1.below hbA (hIb _ _ hc1.inv hbA) (hJb _ _ hc1.pre hbA)) hla hls (by decide) (by decide),by rw [zAB (by decide)];exact hAb _ _ _ hL.cls.2 hbA⟩,fun j u _ h=>StR.keep (fun _ h=>h.below hbA) (fun _ h=>h.below hbA) j u h⟩
     | 8,ho=>
       obtain rfl:=(Option.some.inj ho).symm
       have hla:listed.getD 8 false=false:=(zAr (by rw [hsz];exact hin)).trans (zAq hi).2.1
       have hls:listed.getD 11 false=false:=hL.later2 hla (by kernel_rfl)
       have hc1:=Stage.one hL.cls.1 hla hls
       have hx:=(hL.get_new (j:=7) (t:=38) hi (by kernel_rfl)).lit
       have hs:a.eval (.tmp 35)=vp:=((hL.get_new (j:=4) hi (by kernel_rfl)).at_ (by decide) (by decide)).trans v4
       refine step_wp rfl rfl ?_
       refine zD7 rfl Tryz.idsTy hc1 hgOB hx (idC_len hj32) (idC_one J.1) hm1 hm2 (fun w2 hb=>hIB _ _ hc1.inv hb) hs rfl ?_
       intro v2 w2 hf2 ha2 hk2 hb2
       exact ⟨_,rfl,StR.mkApp ha2 (by decide),⟨Stage.to2 hf2 hls (by rw [hsz];decide) (by decide),by rw [zAB (by decide)];exact hAB _ _ _ hL.cls.2 hb2⟩,fun j u hj h=>StR.keepL hk2 (fun e=>by rw [e,hla] at hj;cases hj) h⟩
     | 9,ho=>
       obtain rfl:=(Option.some.inj ho).symm
       have e0:a.tmps[31]?.getD undef=(.pointer (some ⟨gO,0,none⟩)):=(zAd a 31).trans (((hL.get_new (j:=0) hi (by kernel_rfl)).at_ (by decide) (by decide)).trans v0)
       have hc:=Stage.same (i:=9) hL.cls.1 (by decide) (by decide)
       have hcx:=hL.cls.2
       rw [←zAB (i:=9) (j:=6) (l:=listed) (by decide)] at hcx
       have hc:=And.intro hc hcx
       clear hcx
       refine step_wp rfl rfl ?_
       clear hi ho hL hin
       refine wp_val (v:=(.pointer (some ⟨gO,0,none⟩))) ?_ ⟨_,rfl,StR.mk (by decide) (by decide) v9.symm,hc,fun _ _ _ h=>h⟩
       clear v0 v1 v2 v3 v4 v5 v6 v9 v10 v11 hc
       unfold execOp
       go_simp
     | 10,ho=>
       obtain rfl:=(Option.some.inj ho).symm
       have e0:a.tmps[40]?.getD undef=(.pointer (some ⟨gO,0,none⟩)):=(zAd a 40).trans (((hL.get_new (j:=9) hi (by kernel_rfl)).at_ (by decide) (by decide)).trans v9)
       have hc:=Stage.same (i:=10) hL.cls.1 (by decide) (by decide)
       have hcx:=hL.cls.2
       rw [←zAB (i:=10) (j:=6) (l:=listed) (by decide)] at hcx
       have hc:=And.intro hc hcx
       clear hcx
       refine step_wp rfl rfl ?_
       clear hi ho hL hin
       refine wp_val (v:=(.pointer (some ⟨gO,35,none⟩))) ?_ ⟨_,rfl,StR.mk (by decide) (by decide) v10.symm,hc,fun _ _ _ h=>h⟩
       clear v0 v1 v2 v3 v4 v5 v6 v9 v10 v11 hc
       unfold execOp
       go_simp
     | 11,ho=>
       obtain rfl:=(Option.some.inj ho).symm
       have hla:listed.getD 8 false=true:=hL.before hi (by kernel_rfl)
       have hls:listed.getD 11 false=false:=(zAr (by rw [hsz];exact hin)).trans (zAq hi).2.1
       have hc2:=Stage.two hL.cls.1 hla hls
       have e0:a.tmps[41]?.getD undef=(.pointer (some ⟨gO,35,none⟩)):=(zAd a 41).trans (((hL.get_new (j:=10) hi (by kernel_rfl)).at_ (by decide) (by decide)).trans v10)
       have hv:=(hL.get_new (j:=8) (t:=39) hi (by kernel_rfl)).app (by decide)
       obtain ⟨vA,vK,hvv⟩:=zAm hv
       rw [hvv] at hv
       have e1:a.tmps[39]?.getD undef=_:=(zAd a 39).trans hvv
       have c0:(w1.cell? ⟨gO,35,none⟩).isSome=true:=(hc2.blk.there (o:=35) (n:=1) (by rw [hcO];decide) 0 (by decide)).1
       obtain ⟨c0v,c0⟩:=Option.isSome_iff_exists.1 c0
       have f0:=hc2.blk.frozen 35
       have hR:=fun u=>AppR.set_ (p:=⟨gO,35,none⟩) (hv) hgOB u
       have h3:=Stage.to3 (ap:=8) (P1:=(F1 BB gO 74 cO 28 32 vp n' xs II (fun _=>True))) (P2:=(F2 BB gO 74 cO II)) (hc2.stored (off:=35) hv hgOB (hIs _ _ hc2.inv)) (listed:=listed) (st:=11) (by rw [hsz];decide)
       have hcx : ∀ u,AA ((listed.setIfInBounds 11 true).getD 6 false) (w1.setCell ⟨gO,35,none⟩ u):=fun u=>by rw [zAB (by decide)];exact hAs _ u _ hL.cls.2
       refine step_wp rfl rfl ?_
       clear hi ho hL hin hc2
       refine wp_skip (w':=w1.setCell ⟨gO,35,none⟩ _) ?_ ⟨_,rfl,StR.mk (by decide) (by decide) v11.symm,⟨h3,hcx _⟩,fun j u _ h=>StR.keep (fun _ h=>h.set_ hgOB _) (fun _ h=>AppR.set_ h hgOB _) j u h⟩
       clear v0 v1 v2 v3 v4 v5 v6 v9 v10 v11 h3
       unfold execOp
       go_simp
     | (n+12),ho=>exact absurd hin (by simp)
    ·intro a w1 listed hL hall
     obtain ⟨v3,hb3,ho3,hi3,_⟩:=Stage.three hL.cls.1 (hall 11 (by decide))
     have hrd:=hL.cls.2
     rw [hall 6 (by decide)] at hrd
     have hrd:=hAe _ hrd
     rw [←hII.out] at hi3
     rw [hset.out] at hb3
     have hob3:ObjB w1 gO { nObj k with tree:=I.1,pars:=acc++[J.1] } (.slice none 0 0) v3:=⟨hb3,hotr,hota⟩
     rw [←hxs.out,←hn'.out,←hBB.out,hrow.out] at ho3
     have hown3:OwnIds w1 w.heap.size v3 (acc++[J.1]):=by unfold OwnIds;rw [List.length_append];exact ho3
     have hl3:(acc++[J.1]).length≤j+1:=by rw [List.length_append];simp only [List.length_cons,List.length_nil];omega
     have hlJ:J.2.1.length≤100000:=by omega
     have hpi3:ParI w gO gR { nObj k with tree:=I.1 } J.2 (acc++[J.1]) v3 w1:=⟨hob3,hown3,hrd,hi3⟩
     obtain ⟨vs,rfl,hR⟩:=hL.frame (by kernel_rfl) (zA7 (n:=59) (by kernel_rfl)) hall
     clear hL hall hR hF1 hIb hIB hIs hIf hIc hAt hAb hAB hAs hAe hA1 hJb hII hset hrow hxs hn' hBB hm1 hm2 hb3 ho3 hi3 hve hcO hob3 hown3 hrd hSB
     simp only [putAll,Act.put,List.setIfInBounds_toArray,List.set_cons_zero,List.set_cons_succ]
     go_wp2_with (fail)
     go_roundg f
     case rel=>exact ⟨j+1,J.2,acc++[J.1],v3,by go_num,by omega,by omega,hl3,h8',hrel,hlJ,hpi3⟩
     case measure=>exact Nat.lt_succ_self f
 clear hpi0 hn0 hn1 hX hb8 hstart hR2l hbl2 hf1
 obtain ⟨vp,hpi⟩:=hcut
 obtain ⟨hOb,hown,hRb,hfar⟩:=hpi
 go_upto_if 45 with (first
  | ((with_reducible refine (hntc _ hRb).out.mono ?_);rintro e w5 ⟨rfl,hr5,hf5⟩
     have hO5:=hOb.far hf5 hgO
     have hown5:=hf5.own hown (fun k hk=>by have:=(World.ownsRow.lt hown k hk).1;simp;omega)
     have hfar5:=hfar.trans (hf5.mono hS)
     have c1:=hr5.c1
     have fr1:=hr5.f 1
     clear hOb hown hfar hRb hntc hf5))
 have hpi5:ParI w gO gR { nObj k with tree:=I.1 } T.2 X.1 vp w5:=⟨hO5,hown5,hr5,hfar5⟩
 go_cut [] from 45 to 48 (fun wx=>ParI w gO gR { nObj k with tree:=I.1 } R4 X.1 vp wx)
 case first=>
  clear hxc hend
  by_cases h4:4294967295<T.1
  ·have h4i:(4294967295:Int)<(T.1:Int):=by omega
   have e4:Hid (R4=(T.2.1,true)):=by show _=_;rw [←HR4.out,decide_eq_true h4];rfl
   have hown6:OwnIds (w5.setCell ⟨gR,1,none⟩ (.bool true)) w.heap.size vp X.1:=own_set hown5 hltR _
   clear hpi5 HR4
   go_wp2_with (fail)
   go_meet
   case rel=>exact ⟨hO5.far (S:=[some gR]) ((Far.refl _ _).set_ (p:=⟨gR,1,none⟩) (.inl (by simp)) _) hgO,hown6,by rw [e4.out];exact hr5.bad,hfar5.set_ (.inl (by simp)) _⟩
  ·have h4i : ¬ (4294967295:Int)<(T.1:Int):=by omega
   have e4:Hid (R4=T.2):=by show _=_;rw [←HR4.out,decide_eq_false h4];rfl
   clear HR4
   go_wp2_with (fail)
   go_meet
   case rel=>rw [e4.out];exact hpi5
 obtain ⟨hO6,hown6,hr6,hf6⟩:=hcut
 clear hpi5 hO5 hown5 hr5 hfar5 c1 fr1 HR4
 have f36:=hO6.fr 36
 have c36:=hO6.time
 have hO7:=hO6.setTime (T.1%4294967296)
 have hown7:=own_set (p:=⟨gO,36,none⟩) hown6 hltO (.int .u32 (T.1%4294967296:Nat))
 have hr7:=hr6.set_ (p:=⟨gO,36,none⟩) (fun e=>hne e.symm) (.int .u32 (T.1%4294967296:Nat))
 have hf7:=hf6.set_ (p:=⟨gO,36,none⟩) (.inl (by simp)) (.int .u32 (T.1%4294967296:Nat))
 clear hO6 hown6 hr6 hf6
 have hend2:Hid (C0=((⟨k,[],[],I.1,X.1,T.1%4294967296,Y.1,noId,0,[]⟩:ObjL),Y.2)):=hend
 have hcast:((T.1%4294967296:Nat):Int)=(T.1:Int)%4294967296:=by omega
 have e36:Value.int .u32 ((T.1%4294967296:Nat):Int) = .int .u32 ((T.1:Int)%4294967296):=by rw [hcast]
 rw [e36] at hO7 hown7 hr7 hf7
 clear hend hcast e36
 go_wp2_with (first
  | ((with_reducible refine (hxc _ hr7).out.mono ?_);rintro e w8 ⟨rfl,hr8,hf8⟩
     clear f36 c36
     have hO8:=hO7.far hf8 hgO
     have hown8:=hf8.own hown7 (fun k hk=>by have:=(World.ownsRow.lt hown7 k hk).1;simp;omega)
     have hf8:=hf7.trans (hf8.mono hS)
     have f37:=hO8.fr 37
     have c37:=hO8.text
     have hO9:=hO8.setText Y.1
     have hown9:=own_set (p:=⟨gO,37,none⟩) hown8 hltO (.string (B Y.1))
     have hr9:=hr8.set_ (p:=⟨gO,37,none⟩) (fun e=>hne e.symm) (.string (B Y.1))
     have hf9:=hf8.set_ (p:=⟨gO,37,none⟩) (.inl (by simp)) (.string (B Y.1))
     clear hO7 hown7 hr7 hf7 hxc hO8 hown8 hr8 hf8))
 go_end0
 refine ⟨rfl,?_⟩
 rw [hend2.out]
 exact ⟨_,_,⟨hO9,World.ownsRow_nil _ _ _ _,hown9,hr9,hf9⟩⟩
def idG (s:Txt):Txt:=s.take 32++List.replicate (32-s.length) 0
theorem idG_len (s:Txt):(idG s).length=32:=by unfold idG;simp;omega
def gEnt (d:UInt8) (t:Txt):EntL:=⟨(takeN t).1,d.toNat,idG (t.drop (takeN t).2)⟩
def gTree : Nat→Txt→List EntL→List EntL
 | f+1,d::t,acc=>gTree f ((t.drop (takeN t).2).drop 32) (acc++[gEnt d t])
 | _,_,acc=>acc
def gPars : Nat→Txt→List Txt→List Txt×Txt
 | 0,t,acc=>(acc,t)
 | n+1,t,acc=>gPars n (t.drop 32) (acc++[idG t])
def gCommit (t:Txt):ObjL:=
 let a:=t.drop 32
 let b:=a.drop (getN a).2
 let p:=gPars (min (getN a).1 9) b []
 ⟨3,[],[],idG t,p.1,(getN p.2).1%4294967296,(takeN (p.2.drop (getN p.2).2)).1,noId,0,[]⟩
def gTag (t:Txt):ObjL:=⟨4,[],[],noId,[],0,[],idG (t.drop 1),(t.headD 0).toNat,(takeN ((t.drop 1).drop 32)).1⟩
def zeroO : ObjL:=⟨0,[],[],noId,[],0,[],noId,0,[]⟩
def guessB (k:Nat) (t:Txt):ObjL:=if k=1 then ⟨1,t,[],noId,[],0,[],noId,0,[]⟩ else if k=2 then ⟨2,[],gTree 65 t [],noId,[],0,[],noId,0,[]⟩ else if k=3 then gCommit t else if k=4 then gTag t else nObj k
def guessL (c:UInt8) (q:Txt):ObjL:=if (takeN q).2=0 then zeroO else guessB c.toNat (takeN q).1
theorem put_pos (n:Nat):0<(put n).length:=putF_pos 9 n
theorem getN_app (n:Nat) (hn:n≤18446744073709551615) (b:Txt):getN (put n++b)=(n,(put n).length):=by unfold getN;rw [get_put n hn b];rfl
theorem zDD (t b:Txt) (ht:t.length≤18446744073709551615):takeN (textE t++b)=(t,(textE t).length):=by
 have hg:getN (textE t++b)=(t.length,(put t.length).length):=by
  unfold textE
  rw [List.append_assoc,getN_app _ ht]
 have hp:=put_pos t.length
 unfold takeN
 rw [hg]
 simp only
 rw [if_neg]
 ·unfold textE
  rw [List.append_assoc,List.drop_left,List.take_left,List.length_append]
 ·unfold textE
  simp only [List.length_append]
  omega
theorem idG_app (i b:Txt) (hi:i.length=32):idG (i++b)=i:=by
 unfold idG
 rw [show 32-(i++b).length=0 from by simp;omega,←hi,List.take_left]
 simp
theorem drop32 (i b:Txt) (hi:i.length=32):(i++b).drop 32=b:=by rw [←hi,List.drop_left]
theorem gTree_app : ∀ (l:List EntL) (f:Nat) (acc:List EntL),(∀ e∈l,(e.kind=1∨e.kind=2)∧e.id.length=32∧e.name.length≤18446744073709551615)→l.length≤f→gTree f (entsE l) acc=acc++l
 | [],0,acc,_,_=>by simp [gTree]
 | [],f+1,acc,_,_=>by simp [gTree,entsE]
 | e::l,0,acc,_,hf=>by simp at hf
 | e::l,f+1,acc,h,hf=>by
   obtain ⟨h1,h2,h3⟩:=h e (by simp)
   have he:entsE (e::l)=byteK e.kind::(textE e.name++(e.id++entsE l)):=by simp [entsE,entE]
   have ht:=zDD e.name (e.id++entsE l) h3
   rw [he,gTree,gEnt,ht]
   simp only [List.drop_left]
   rw [drop32 e.id _ h2,idG_app e.id _ h2,gTree_app l f _ (fun x hx=>h x (by simp [hx])) (by simp at hf;omega)]
   have:=zDv (k:=e.kind) (by omega) (by omega)
   rw [this]
   simp
theorem gPars_app (b:Txt) : ∀ (l:List Txt) (acc:List Txt),(∀ p∈l,p.length=32)→gPars l.length (l.flatten++b) acc=(acc++l,b)
 | [],acc,_=>by simp [gPars]
 | p::l,acc,h=>by
   have hp:=h p (by simp)
   rw [List.length_cons,gPars,List.flatten_cons,List.append_assoc,idG_app p _ hp,drop32 p _ hp,gPars_app b l _ (fun x hx=>h x (by simp [hx]))]
   simp
theorem guess_enc (o:ObjL) (hm:mayB o=true) (hs:Sound o) (hl:(bodyO o).length≤4096):guessB (byteK o.kind).toNat (bodyO o)=o:=by
 obtain ⟨htr,hta,he,hp,htm⟩:=hs
 have ha:=may_alone hm
 unfold aloneB at ha
 rcases zEb hm with hk | hk | hk | hk
 ·rw [hk] at ha
  simp at ha
  obtain ⟨c1,c2,c3,c4⟩:=zBM ha.1.2
  obtain ⟨t1,t2,t3⟩:=tag_all ha.2
  have e1:=zBJ ha.1.1
  have hb:bodyO o=o.data:=by unfold bodyO;rw [if_pos hk]
  rw [hb,hk]
  show guessB 1 _=_
  unfold guessB
  rw [if_pos rfl]
  obtain ⟨kind,data,ents,tree,pars,time,text,target,of_,name⟩:=o
  simp only at *
  subst hk c1 c2 c3 c4 t1 t2 t3 e1
  rfl
 ·have hf:entsB o.ents=true:=by
   unfold mayB at hm
   rw [if_pos hk] at hm
   simp at hm
   exact hm.2
  rw [hk] at ha
  simp at ha
  obtain ⟨c1,c2,c3,c4⟩:=zBM ha.1.2
  obtain ⟨t1,t2,t3⟩:=tag_all ha.2
  have e1:=zBH ha.1.1
  have hb:bodyO o=entsE o.ents:=by unfold bodyO;rw [if_neg (by omega),if_pos hk]
  rw [hb,hk]
  show guessB 2 _=_
  unfold guessB
  rw [if_neg (by omega),if_pos rfl]
  have hfine:=(ents_fine hf).2
  have:=gTree_app o.ents 65 [] (fun e hx=>⟨(hfine e hx).2,he e hx,by have:=zEk (hfine e hx).1;omega⟩) (by have:=(ents_fine hf).1;omega)
  simp only [this,List.nil_append]
  obtain ⟨kind,data,ents,tree,pars,time,text,target,of_,name⟩:=o
  simp only at *
  subst hk c1 c2 c3 c4 t1 t2 t3 e1
  rfl
 ·have hp8:o.pars.length≤8:=by
   unfold mayB at hm
   rw [if_neg (by omega),if_pos hk] at hm
   simp at hm
   exact hm.2
  rw [hk] at ha
  simp at ha
  obtain ⟨t1,t2,t3⟩:=tag_all ha.2
  have e1:=zBH ha.1.1
  have e2:=zBJ ha.1.2
  have hb:bodyO o=commitE o:=by unfold bodyO;rw [if_neg (by omega),if_neg (by omega),if_pos hk]
  rw [hb] at hl ⊢
  rw [hk]
  show guessB 3 _=_
  unfold guessB
  rw [if_neg (by omega),if_neg (by omega),if_pos rfl]
  have htx:o.text.length≤18446744073709551615:=by
   unfold commitE textE at hl
   simp only [List.length_append] at hl
   omega
  have hc:commitE o=o.tree++(put o.pars.length++(o.pars.flatten++(put o.time++(textE o.text++[])))):=by unfold commitE;simp
  rw [hc]
  unfold gCommit
  simp only [idG_app o.tree _ htr,drop32 o.tree _ htr,getN_app o.pars.length (by omega),List.drop_left,show min o.pars.length 9=o.pars.length from by omega,gPars_app _ o.pars [] hp,getN_app o.time (by omega),zDD o.text [] htx,List.nil_append]
  rw [Nat.mod_eq_of_lt htm]
  obtain ⟨kind,data,ents,tree,pars,time,text,target,of_,name⟩:=o
  simp only at *
  subst hk t1 t2 t3 e1 e2
  rfl
 ·have hfn:kindB o.of_=true∧nameB o.name=true:=by
   unfold mayB at hm
   rw [if_neg (by omega),if_neg (by omega),if_pos hk] at hm
   simp at hm
   exact ⟨hm.1.2,hm.2⟩
  rw [hk] at ha
  simp at ha
  obtain ⟨c1,c2,c3,c4⟩:=zBM ha.2
  have e1:=zBH ha.1.1
  have e2:=zBJ ha.1.2
  have hb:bodyO o=tagE o:=by unfold bodyO;rw [if_neg (by omega),if_neg (by omega),if_neg (by omega),if_pos hk]
  rw [hb,hk]
  show guessB 4 _=_
  unfold guessB
  rw [if_neg (by omega),if_neg (by omega),if_neg (by omega),if_pos rfl]
  have hnl:=zEk hfn.2
  have hof:1≤o.of_∧o.of_≤4:=by
   have:=hfn.1
   unfold kindB at this
   simp at this
   exact this
  have hc:tagE o=byteK o.of_::(o.target++(textE o.name++[])):=by unfold tagE;simp
  rw [hc]
  unfold gTag
  have hbk:=zDv (k:=o.of_) (by omega) (by omega)
  simp only [List.drop_succ_cons,List.drop_zero,List.headD_cons,idG_app o.target _ hta,drop32 o.target _ hta,zDD o.name [] (by omega),hbk]
  obtain ⟨kind,data,ents,tree,pars,time,text,target,of_,name⟩:=o
  simp only at *
  subst hk c1 c2 c3 c4 e1 e2
  rfl
theorem guess_whole (o:ObjL) (hm:mayB o=true) (hs:Sound o) (hl:(bodyO o).length≤4096):guessL (byteK o.kind) (textE (bodyO o))=o:=by
 have ht:=zDD (bodyO o) [] (by omega)
 rw [List.append_nil] at ht
 unfold guessL
 rw [ht,if_neg (show ¬ (textE (bodyO o)).length=0 from by unfold textE;have:=put_pos (bodyO o).length;rw [List.length_append];omega)]
 exact guess_enc o hm hs hl
theorem gTree_sound : ∀ (f:Nat) (t:Txt) (acc:List EntL),(∀ e∈acc,e.id.length=32) → ∀ e∈gTree f t acc,e.id.length=32
 | 0,t,acc,h=>by rw [gTree];exact h;intro a b c hc;cases hc
 | f+1,[],acc,h=>by rw [gTree];exact h;intro a b c hc hd;cases hd
 | f+1,d::t,acc,h=>by
   rw [gTree]
   refine gTree_sound f _ _ ?_
   intro e he
   rcases List.mem_append.1 he with he | he
   ·exact h e he
   ·obtain rfl:=List.mem_singleton.1 he
    exact idG_len _
theorem zCY : ∀ (n:Nat) (t:Txt) (acc:List Txt),(∀ e∈acc,e.length=32) → ∀ e∈(gPars n t acc).1,e.length=32
 | 0,t,acc,h=>h
 | n+1,t,acc,h=>by
   rw [gPars]
   refine zCY n _ _ ?_
   intro e he
   rcases List.mem_append.1 he with he | he
   ·exact h e he
   ·obtain rfl:=List.mem_singleton.1 he
    exact idG_len _
theorem guess_sound (c:UInt8) (q:Txt):Sound (guessL c q):=by
 unfold guessL guessB
 repeat' split
 ·exact ⟨zAc,zAc,(by intro p hp;cases hp),(by intro p hp;cases hp),by show 0<_;omega⟩
 ·exact ⟨zAc,zAc,(by intro p hp;cases hp),(by intro p hp;cases hp),by show 0<_;omega⟩
 ·exact ⟨zAc,zAc,gTree_sound _ _ _ (by simp),(by intro p hp;cases hp),by show 0<_;omega⟩
 ·exact ⟨idG_len _,zAc,(by intro p hp;cases hp),zCY _ _ _ (by simp),Nat.mod_lt _ (by omega)⟩
 ·exact ⟨zAc,idG_len _,(by intro p hp;cases hp),(by intro p hp;cases hp),by show 0<_;omega⟩
 ·exact ⟨zAc,zAc,(by intro p hp;cases hp),(by intro p hp;cases hp),by show 0<_;omega⟩
theorem dec_same (c:UInt8) (q:Txt):decO (c::q)=if encO (guessL c q)=some (c::q) then some (guessL c q) else none:=by
 split
 ·rename_i h
  have hs:=guess_sound c q
  exact (dec_enc h hs.tree hs.target hs.ents hs.pars hs.time).1
 ·rename_i h
  cases hd:decO (c::q) with
  | none=>rfl
  | some o=>
    exfalso
    apply h
    obtain ⟨h1,hs⟩:=dec_back hd
    have hm:=(dec_len hd).2
    have h2:=h1
    unfold encO at h2
    split at h2
    ·rename_i hc
     injection h2 with h2
     have hw:wholeO o=byteK o.kind::textE (bodyO o):=rfl
     rw [hw] at h2 hc
     have hbl:(bodyO o).length≤4096:=by have:=hc.2;unfold textE at this;simp at this;omega
     injection h2 with h3 h4
     have hg:=guess_whole o hm hs hbl
     rw [h3,h4] at hg
     rw [hg]
     exact h1
    ·cases h2
end Go.Proofs.YtodebknbchaccaaGreatDoor
