/- Texts of this claim, laid together: StoW, Fold, StoB, RdB1, RdT, RdC, GsP. -/
import Derived.Test.YtbcbmjdmlcldjaaGreatDoorMe
import Derived.Great.FillDense
import Derived.Deep.CutBlock
namespace Go.Proofs.YtbcbmjdmlcldjaaGreatDoor
open Go.RowKit
section
attribute [local go_sem ↓] ldvI_eq
structure StoAt (w:World) (base p:Nat) (vl:Value) (s:List StL):Prop where
 blk:Blk w p 104 #[vl]
 own:zAW w base vl s
 ok:StoOk s
section
variable {w w':World} {base p:Nat} {vl:Value} {s:List StL}
theorem StoAt.c0 (h:StoAt w base p vl s):w.cell? ⟨p,0,none⟩=some vl:=by rw [h.blk.cell];rfl
theorem StoAt.fr (h:StoAt w base p vl s):w.frozen? ⟨p,0,none⟩=false:=h.blk.frozen 0
theorem StoAt.lt (h:StoAt w base p vl s):p<w.heap.size:=h.blk.lt
theorem StoAt.ne (h:StoAt w base p vl s):vl.ownBlock≠some p:=fun e=>zAu h.own h.blk (by decide) e.symm
theorem StoAt.below (h:StoAt w base p vl s) (hb:Below w.heap.size w w'):StoAt w' base p vl s:=⟨h.blk.below hb h.blk.lt,zAd h.own hb,h.ok⟩
theorem StoAt.far {S:List (Option Nat)} (h:StoAt w base p vl s) (hf:Far S w w') (h1:some p ∉ S) (h2 : ∀ k,vl.ownBlock=some k→some k ∉ S):StoAt w' base p vl s:=⟨hf.blk h.blk h1,hf.own h.own h2,h.ok⟩
theorem StoAt.drew (h:StoAt w base p vl s):StoAt w.drew base p vl s:=⟨h.blk,h.own,h.ok⟩
theorem StoAt.items (h:StoAt w base p vl s):Stits w vl s:=h.own.refs h.ok.ok
theorem StoAt.form (h:StoAt w base p vl s) : ∃ A cap,vl = .slice A s.length cap:=by
 obtain ⟨A,cap,e⟩:=zAl h.own
 exact ⟨A,cap,e⟩
end
set_option maxRecDepth 100000 in
set_option maxHeartbeats 1000000 in
theorem zEC (w:World) :
 Calls Tryz.prog 27 #[] w fun e w'=>e = .returned (.pointer (some ⟨w.heap.size,0,none⟩))∧StoAt w' w.heap.size w.heap.size (.slice none 0 0) []∧Below w.heap.size w w':=by
 go_enter Tryz.func27,Tryz.ntmps27
 go_wp2
 go_ret
 exact ⟨rfl,⟨Blk.new _ _ _,World.ownsRow_nil _ _ _ _,StoOk.nil⟩,(Below.refl _ _).alloc (Nat.le_refl _) _⟩
set_option maxRecDepth 100000 in
set_option maxHeartbeats 2000000 in
theorem zDl {w:World} {base p:Nat} {vl:Value} {s:List StL} (h:StoAt w base p vl s) (n:Txt) (hn:n.length=32) :
 Calls Tryz.prog 54 #[.pointer (some ⟨p,0,none⟩), .agg (u8s n)] w fun e w'=>e = .returned (.tuple #[.int .i64 (posK StL.id s n), .bool (hasK StL.id s n)])∧Below w.heap.size w w':=by
 obtain ⟨W1,hW1⟩ : ∃ W1,w.alloc (.cells (u8s n) 53)=W1:=⟨_,rfl⟩
 have n1:Blk W1 w.heap.size 53 (u8s n):=by rw [←hW1];exact Blk.new _ _ _
 have b1:Below w.heap.size w W1:=by rw [←hW1];exact (Below.refl _ _).alloc (Nat.le_refl _) _
 have hbs:=fun (W:World) (hW:Below W1.heap.size W1 W)=>bsfStits_calls s h.ok.ok (by have:=h.ok.few;omega) vl W (h.items.below (bthen b1 b1.size hW)) 86 stoPlace1_func n hn (fun x=>Lib.compareBytes x.id n)
  (fun W2 x hx _=>stoPlace1_calls x (h.ok.ok x hx) n hn W2) (posK StL.id s n) posK_le (fun i x hx=>by
    rw [←decide_eq_true_iff (p:=Lib.compareBytes x.id n<0),cmp_neg,sorted_at h.ok.sorted hx,decide_eq_true_iff])
 rw [←hasK_hit h.ok.sorted] at hbs
 have hsI:(Tryz.prog.info? 53).map (·.size)=some (u8s n).toList.length:=by rw [zAO,hn];exact sz32
 have c0:=fun (W:World) (hW:Below W1.heap.size W1 W)=>(h.below (bthen b1 b1.size hW)).c0
 obtain ⟨NC,hNC⟩ : ∃ NC,u8s n=NC:=⟨_,rfl⟩
 rw [hNC] at hW1 n1 hsI hbs ⊢
 clear hNC h
 generalize posK StL.id s n=P at *
 generalize hasK StL.id s n=HB at *
 go_enter Tryz.func54,Tryz.ntmps54
 go_wp2
 refine zAe (C:=fun W=>Below W1.heap.size W1 W) (by kernel_rfl) (by kernel_rfl) (Below.refl _ _).drew ?_
 repeat
  first
   | ((with_reducible refine zAm ?_ ?_)
      ·(go_simp;done)
      apply Exists.intro
      refine ⟨fun W hW=>?_,?_⟩
      ·have q0:=c0 W hW
       have q1:(ldvI ⟨w.heap.size,0,none⟩).run Tryz.prog W = .ok (.agg NC) W:=by
        have:=run_loadVar_mid (P:=Tryz.prog) W w.heap.size 0 53 NC.toList _ (zAk (n1.below hW n1.lt)) Tryz.underlying53 rfl hsI
        rwa [Array.toArray_toList] at this
       have hkeep:=zC2 hW (hbs W hW)
       go_simp
       first
        | rfl
        | (with_reducible exact hkeep)
      simp only [Act.put,zA,zB,zC])
   | ((with_reducible refine zAj ?_ ?_)
      ·(first | rfl | (go_simp;done))
      simp only [Act.put,zA,zB,zC])
 with_reducible refine wpQuiet_nil ?_
 intro w5 hW5
 go_wp2
 go_ret2
 exact ⟨rfl,bthen b1 b1.size hW5⟩
set_option maxRecDepth 100000 in
theorem stoLen_calls {w:World} {base p:Nat} {vl:Value} {s:List StL} (h:StoAt w base p vl s) :
 Calls Tryz.prog 89 #[.pointer (some ⟨p,0,none⟩)] w fun e w'=>e = .returned (.int .i64 s.length)∧w'=w:=by
 have c0:=h.c0
 obtain ⟨A,cap,rfl⟩:=h.form
 go_enter Tryz.func89,Tryz.ntmps89
 go_wp2
 go_ret
 exact ⟨rfl,rfl⟩
def getV (s:List StL) (n:Txt):Value:=match getS s n with
 | some x => .tuple #[.string (B x.text), .bool true]
 | none => .tuple #[.string (B []), .bool false]
set_option maxRecDepth 100000 in
set_option maxHeartbeats 2000000 in
theorem zEH {w:World} {base p:Nat} {vl:Value} {s:List StL} (h:StoAt w base p vl s) (n:Txt) (hn:n.length=32) :
 Calls Tryz.prog 56 #[.pointer (some ⟨p,0,none⟩), .agg (u8s n)] w fun e w'=>e = .returned (getV s n)∧Below w.heap.size w w':=by
 obtain ⟨W1,hW1⟩ : ∃ W1,w.alloc (.cells (u8s n) 53)=W1:=⟨_,rfl⟩
 have n1:Blk W1 w.heap.size 53 (u8s n):=by rw [←hW1];exact Blk.new _ _ _
 have b1:Below w.heap.size w W1:=by rw [←hW1];exact (Below.refl _ _).alloc (Nat.le_refl _) _
 have hpl:=Lib.hid (zDl (h.below b1) n hn)
 have hsI:(Tryz.prog.info? 53).map (·.size)=some (u8s n).toList.length:=by rw [zAO,hn];exact sz32
 have q1:(ldvI ⟨w.heap.size,0,none⟩).run Tryz.prog W1 = .ok (.agg (u8s n)) W1:=by
  have:=run_loadVar_mid (P:=Tryz.prog) W1 w.heap.size 0 53 (u8s n).toList _ (zAk n1) Tryz.underlying53 rfl hsI
  rwa [Array.toArray_toList] at this
 have hG:=getS_at h.ok n
 have c0:=fun (W:World) (hW:Below w.heap.size w W)=>(h.below hW).c0
 have hit:=h.items
 have hok:=h.ok.ok
 obtain ⟨r,hr⟩ : ∃ r,Hid (getV s n=r):=⟨_,Lib.hid rfl⟩
 rw [hr.out]
 have hrv:=hr.out
 unfold getV at hrv
 clear hr
 obtain ⟨NC,hNC⟩ : ∃ NC,u8s n=NC:=⟨_,rfl⟩
 rw [hNC] at hW1 n1 hpl q1 ⊢
 clear hNC h hsI
 have hple:posK StL.id s n≤s.length:=posK_le
 generalize posK StL.id s n=P at *
 cases hh:hasK StL.id s n with
 | false=>
   rw [hh] at hG hpl
   rw [hG] at hrv
   have hrv:Hid (_=r):=hrv
   clear hG hh
   go_enter Tryz.func56,Tryz.ntmps56
   go_wp2_with (first
    | ((with_reducible refine hpl.out.mono ?_);rintro e w2 ⟨rfl,hb2⟩))
   go_ret2
   exact ⟨by rw [←hrv.out];rfl,bthen b1 b1.size hb2⟩
 | true=>
   rw [hh] at hG hpl
   rw [if_pos rfl] at hG
   have hlt:P<s.length:=by
    rcases Nat.lt_or_ge P s.length with h | h
    ·exact h
    ·exfalso
     have:=hasK_atS hh hG
     rw [List.getElem?_eq_none h] at this
     cases this
   obtain ⟨x,hx⟩ : ∃ x,s[P]?=some x:=⟨_,List.getElem?_eq_getElem hlt⟩
   rw [hx] at hG
   rw [hG] at hrv
   have hrv:Hid (_=r):=hrv
   obtain ⟨A,cap,rfl,hcap1,hcap2,hat⟩:=hit
   obtain ⟨ga,oa,rfl,hga,hca⟩:=hat (by omega)
   have hxr:=hca P x hx
   have hx32:=(hok x (List.mem_of_getElem? hx)).1
   have hPi:(P:Int)<(s.length:Int):=by omega
   clear hG hh hat hca hx hok
   go_enter Tryz.func56,Tryz.ntmps56
   go_wp2_with (first
    | ((with_reducible refine hpl.out.mono ?_);rintro e w2 ⟨rfl,hb2⟩
       have b2:=bthen b1 b1.size hb2
       have c2:=c0 _ b2
       have t2:=stitC_text hx32 (zAc hxr hga b2)))
   all_goals try (exfalso;omega)
   go_ret2
   exact ⟨by rw [←hrv.out];rfl,b2⟩
end
theorem fold_mid (q:Nat) (c0:Array Value) (pre l post:List Value) (hq:pre.length=q) (hsz:c0.size=q+l.length+post.length) (hp : ∀ i,i<q→c0[i]?=pre[i]?) (ht : ∀ i,c0[q+l.length+i]?=post[i]?) :
 (l.zipIdx 0).foldl (fun cs (x:Value×Nat)=>cs.setIfInBounds (q+x.2) x.1) c0=(pre++(l++post)).toArray:=by
 obtain ⟨h1,h2⟩:=Great.foldl_set q l 0 c0
 apply Array.ext_getElem?
 intro k
 rw [h2 k]
 by_cases hk:k<q
 ·rw [if_neg (by omega),hp k hk]
  simp [List.getElem?_append_left (show k<pre.length by omega)]
 ·by_cases hk2:k<q+l.length
  ·rw [if_pos ⟨by omega,by omega,by omega⟩]
   simp [List.getElem?_append_right (show pre.length≤k by omega),hq,List.getElem?_append_left (show k-q<l.length by omega)]
  ·rw [if_neg (by omega)]
   have:=ht (k-(q+l.length))
   rw [show q+l.length+(k-(q+l.length))=k from by omega] at this
   rw [this]
   simp [List.getElem?_append_right (show pre.length≤k by omega),hq,List.getElem?_append_right (show l.length≤k-q by omega),show k-q-l.length=k-(q+l.length) from by omega]
section
set_option maxRecDepth 100000 in
theorem built_stit (x:StL) (hid:x.id.length=32):Tryz.prog.built 112 [(0, .agg (u8s x.id)),(1, .string (B x.text))]=some (stitC x).toArray:=by
 obtain ⟨it,hi,hz,hs,hb⟩:=Tryz.stitTy.hi
 have hpl:(match Tryz.prog.underlying 112 with | some (.struct fields)=>fields.toList.mapM (fun f=>(Tryz.prog.info? f.type).map fun i=>(f.offset,i.size)) | _=>none)=some [(0,32),(32,1)]:=by kernel_rfl
 have hu:=Tryz.underlying112
 rw [hu] at hpl
 unfold Program.built
 rw [hi,hu]
 simp only [hz]
 simp only at hpl
 rw [hpl]
 have e0:(Value.agg (u8s x.id)).cells=u8s x.id:=rfl
 have e1:(Value.string (B x.text)).cells = #[.string (B x.text)]:=rfl
 have f1 : ∀ c:Array Value,Array.foldl (fun cs (x:Value×Nat)=>cs.setIfInBounds (32+x.snd) x.fst) c (#[.string (B x.text)]:Array Value).zipIdx=c.setIfInBounds 32 (.string (B x.text)):=fun c=>rfl
 have f0 : ∀ c:Array Value,Array.foldl (fun cs (x:Value×Nat)=>cs.setIfInBounds (0+x.snd) x.fst) c (u8s x.id).zipIdx=(x.id.map u8v).zipIdx.foldl (fun cs (x:Value×Nat)=>cs.setIfInBounds (0+x.snd) x.fst) c:=fun c=>by
  rw [←Array.foldl_toList,Array.toList_zipIdx]
  rfl
 have g0:(#[(0,32),(32,1)]:Array (Nat×Nat))[0]?=some (0,32):=rfl
 have g1:(#[(0,32),(32,1)]:Array (Nat×Nat))[1]?=some (32,1):=rfl
 obtain ⟨Z,hZ⟩ : ∃ Z,Z=zStit.cells:=⟨_,rfl⟩
 have hZl:Z.size=33:=by rw [hZ];rfl
 have hZ32:Z[32]?=some (.string (B [])):=by rw [hZ];rfl
 have hfin:(x.id.map u8v).zipIdx.foldl (fun cs (x:Value×Nat)=>cs.setIfInBounds (0+x.snd) x.fst) Z=([]++(x.id.map u8v++[Value.string (B [])])).toArray:=by
  refine fold_mid 0 _ [] (x.id.map u8v) [Value.string (B [])] rfl (by rw [hZl,List.length_map,hid];rfl) (fun i hi=>absurd hi (by omega)) (fun i=>?_)
  rw [List.length_map,hid]
  match i with
  | 0=>exact hZ32
  | n+1=>rw [Array.getElem?_eq_none (by omega)];rfl
 simp only [Instr.fill,g0,g1,e0,e1]
 rw [←hZ,f0,if_neg (by simp [zAh,hid,hZl]),hfin,f1,if_neg (by simp [hid])]
 congr 1
 unfold stitC
 rw [show (u8s x.id).toList=x.id.map u8v from by simp [u8s]]
 simp only [List.setIfInBounds_toArray,List.nil_append]
 rw [List.set_append_right _ _ (by rw [List.length_map,hid];omega),List.length_map,hid]
 rfl
def StPutR (V:Nat→Value) (w0:World) (base:Nat) (vl:Value) (x:StL) (s':List StL) (i:Nat) (v:Value) (W:World):Prop:=
 if i=9 then (∃ b,v = .slice (some ⟨b,0,none⟩) 1 1∧Blk W b 112 (stitC x).toArray∧w0.heap.size≤b)
 else if i=10 then zAW W base v s'∧Newer w0 vl v
 else v=V i
structure StPutC (w0:World) (base p:Nat) (vl:Value) (s':List StL) (listed:Array Bool) (W:World):Prop where
 a_:listed.getD 10 false=false→Below w0.heap.size w0 W
 b_:listed.getD 10 false=true→listed.getD 13 false=false→Far [vl.ownBlock] w0 W
 c_:listed.getD 13 false=true → ∃ v',Blk W p 104 #[v']∧zAW W base v' s'∧Newer w0 vl v'∧Far [some p,vl.ownBlock] w0 W
 sz:w0.heap.size≤W.heap.size
section
variable {V:Nat→Value} {w0 w w':World} {base p:Nat} {vl:Value} {x:StL} {s':List StL} {i:Nat} {v:Value} {listed:Array Bool}
theorem StPutR.at_ (h:StPutR V w0 base vl x s' i v w) (hi:i≠9∧i≠10):v=V i:=by unfold StPutR at h;rwa [if_neg hi.1,if_neg hi.2] at h
theorem StPutR.mk (hi:i≠9∧i≠10) (h:v=V i):StPutR V w0 base vl x s' i v w:=by unfold StPutR;rwa [if_neg hi.1,if_neg hi.2]
theorem StPutR.lit {b:Nat} (h:Blk w b 112 (stitC x).toArray) (hb:w0.heap.size≤b):StPutR V w0 base vl x s' 9 (.slice (some ⟨b,0,none⟩) 1 1) w:=by unfold StPutR;rw [if_pos rfl];exact ⟨b,rfl,h,hb⟩
theorem StPutR.litAt (h:StPutR V w0 base vl x s' 9 v w) : ∃ b,v = .slice (some ⟨b,0,none⟩) 1 1∧Blk w b 112 (stitC x).toArray∧w0.heap.size≤b:=by unfold StPutR at h;rwa [if_pos rfl] at h
theorem StPutR.ins (h:zAW w base v s') (hn:Newer w0 vl v):StPutR V w0 base vl x s' 10 v w:=by unfold StPutR;rw [if_neg (by omega),if_pos rfl];exact ⟨h,hn⟩
theorem StPutR.insAt (h:StPutR V w0 base vl x s' 10 v w):zAW w base v s'∧Newer w0 vl v:=by unfold StPutR at h;rwa [if_neg (by omega),if_pos rfl] at h
theorem StPutR.far {S:List (Option Nat)} (h:StPutR V w0 base vl x s' i v w) (hf:Far S w w') (h9 : ∀ b,w0.heap.size≤b→b<w.heap.size→some b ∉ S) (h10:i=10 → ∀ k,v.ownBlock=some k→some k ∉ S):StPutR V w0 base vl x s' i v w':=by
 by_cases e:i=9
 ·subst e
  obtain ⟨b,rfl,h1,h2⟩:=h.litAt
  exact .lit (hf.blk h1 (h9 b h2 h1.lt)) h2
 ·by_cases e2:i=10
  ·subst e2
   obtain ⟨h1,h2⟩:=h.insAt
   exact .ins (hf.own h1 (h10 rfl)) h2
  ·exact .mk ⟨e,e2⟩ (h.at_ ⟨e,e2⟩)
theorem StPutC.same (h:StPutC w0 base p vl s' listed w) (hi:i<listed.size) (hne:i≠10∧i≠13):StPutC w0 base p vl s' (listed.setIfInBounds i true) w:=by
 have e1:(listed.setIfInBounds i true).getD 10 false=listed.getD 10 false:=by rw [zAY hi,if_neg (fun e=>hne.1 e.symm)]
 have e2:(listed.setIfInBounds i true).getD 13 false=listed.getD 13 false:=by rw [zAY hi,if_neg (fun e=>hne.2 e.symm)]
 exact ⟨by rw [e1];exact h.a_,by rw [e1,e2];exact h.b_,by rw [e2];exact h.c_,h.sz⟩
theorem StPutC.drew (h:StPutC w0 base p vl s' listed w):StPutC w0 base p vl s' listed w.drew:=⟨fun e=>(h.a_ e).drew,fun e1 e2=>(h.b_ e1 e2).drew,fun e=>by
 obtain ⟨v',h1,h2,h3,h4⟩:=h.c_ e
 exact ⟨v',h1,h2,h3,h4.drew⟩,h.sz⟩
theorem StPutC.start (w:World):StPutC w base p vl s' (Array.replicate 14 false) w:=⟨fun _=>Below.refl _ _,fun h=>by simp at h,fun h=>by simp at h,Nat.le_refl _⟩
end
end
set_option maxRecDepth 100000 in
set_option maxHeartbeats 2000000 in
theorem blob_calls (k:Nat) (r:Rd) (hr:r.1.length≤100000) (gO gR:Nat) (hne:gO≠gR) (w:World) (hO:ObjB w gO (nObj k) (.slice none 0 0) (.slice none 0 0)) (hR:RdB w gR r) :
 Calls Tryz.prog 79 #[.pointer (some ⟨gR,0,none⟩), .pointer (some ⟨gO,0,none⟩)] w fun e w'=>e = .returned (.tuple #[])∧Did w gO gR w.heap.size (rBlob k r) w':=by
 have hcall:=Lib.hid (rb_calls r.1.length r hr hr gR w hR)
 have c0:=hR.c0
 obtain ⟨x,hx⟩ : ∃ x,Hid (rBlob k r=x):=⟨_,Lib.hid rfl⟩
 have hgO:some gO ∉ [some gR]:=by simp;omega
 rw [hx.out]
 go_enter Tryz.func79,Tryz.ntmps79
 go_wp2_with (first
  | ((with_reducible refine hcall.out.mono ?_);rintro e w1 ⟨rfl,hr1,hf1⟩
     have hO1:=hO.far hf1 hgO
     have f1:=hO1.fr 1
     have c1:=hO1.data))
 go_end0
 refine ⟨rfl,?_⟩
 rw [←hx.out]
 exact ⟨_,_,⟨hO1.setData _,World.ownsRow_nil _ _ _ _,World.ownsRow_nil _ _ _ _,hr1.set_ (fun e=>hne e.symm) _,(hf1.mono (by simp)).set_ (.inl (by simp)) _⟩⟩
set_option maxRecDepth 100000 in
set_option maxHeartbeats 2000000 in
theorem tag_calls (k:Nat) (r:Rd) (hr:r.1.length≤100000) (gO gR:Nat) (hne:gO≠gR) (w:World) (hO:ObjB w gO (nObj k) (.slice none 0 0) (.slice none 0 0)) (hR:RdB w gR r) :
 Calls Tryz.prog 82 #[.pointer (some ⟨gR,0,none⟩), .pointer (some ⟨gO,0,none⟩)] w fun e w'=>e = .returned (.tuple #[])∧Did w gO gR w.heap.size (rTag k r) w':=by
 have hl1:=zE0 r
 have hl2:=rId_le (rKind r).2
 have hkc:=Lib.hid (rk_calls r hr gR w hR)
 have hic:=fun W hW=>Lib.hid (zEW (rKind r).2 (by omega) gR W hW)
 have htc:=fun W hW=>Lib.hid (rt_calls (rId (rKind r).2).2 (by omega) gR W hW)
 obtain ⟨x,hx⟩ : ∃ x,Hid (rTag k r=x):=⟨_,Lib.hid rfl⟩
 have hgO:some gO ∉ [some gR]:=by simp;omega
 have hid32:=rId_len (rKind r).2
 have hsz:(Tryz.prog.info? 53).map (·.size)=some (u8s (rId (rKind r).2).1).size:=by rw [zAh,hid32];exact sz32
 have h32:(u8s (rId (rKind r).2).1).size=32:=by rw [zAh,hid32]
 have hone:=u8s_one (rId (rKind r).2).1
 have hxx:Hid (x=((⟨k,[],[],noId,[],0,[],(rId (rKind r).2).1,(rKind r).1,(rText (rId (rKind r).2).2).1⟩:ObjL),(rText (rId (rKind r).2).2).2)):=hx.out.symm
 rw [hx.out]
 clear hx
 generalize rKind r=K at *
 generalize rId K.2=I at *
 generalize rText I.2=T at *
 go_enter Tryz.func82,Tryz.ntmps82
 go_wp2_with (first
  | ((with_reducible refine hkc.out.mono ?_);rintro e w1 ⟨rfl,hr1,hf1⟩
     have hO1:=hO.far hf1 hgO
     have f1:=hO1.fr 70
     have c1:=hO1.of_
     have hO1:=hO1.setOf K.1
     have hr1:=hr1.set_ (p:=⟨gO,70,none⟩) (fun e=>hne e.symm) (.int .i64 K.1)
     have hf1:=(hf1.mono (T:=[some gO,some gR]) (by simp)).set_ (p:=⟨gO,70,none⟩) (.inl (by simp)) (.int .i64 K.1)
     clear hkc)
  | ((with_reducible refine (hic _ hr1).out.mono ?_);rintro e w2 ⟨rfl,hr2,hf2⟩
     have hO2:=hO1.far hf2 hgO
     have ht2:=hO2.there 38 32 (by omega)
     have hf2:=hf1.trans (hf2.mono (by simp))
     clear hf1 hr1 hO1 f1 c1 hic)
  | ((with_reducible refine zBt (.tmp 13) (.tmp 11) gO 38 I.1 hid32 ht2 ?_ ?_ ?_);rfl;rfl
     have hO2:=hO2.setTarget I.1 hid32
     have hr2:=hr2.cells_ hne (u8s I.1).toList 38
     have hf2:=Far.cells (S:=[some gO,some gR]) (g:=gO) (.inl (List.mem_cons_self ..)) (u8s I.1).toList 38 _ hf2)
  | ((with_reducible refine (htc _ hr2).out.mono ?_);rintro e w3 ⟨rfl,hr3,hf3⟩
     have hO3:=hO2.far hf3 hgO
     have f3:=hO3.fr 71
     have c3:=hO3.name
     have hO3:=hO3.setName T.1
     have hr3:=hr3.set_ (p:=⟨gO,71,none⟩) (fun e=>hne e.symm) (.string (B T.1))
     have hf3:=(hf2.trans (hf3.mono (T:=[some gO,some gR]) (by simp))).set_ (p:=⟨gO,71,none⟩) (.inl (by simp)) (.string (B T.1))
     clear hf2 hr2 hO2 htc))
 go_end0
 refine ⟨rfl,?_⟩
 rw [hxx.out]
 exact ⟨_,_,⟨hO3,World.ownsRow_nil _ _ _ _,World.ownsRow_nil _ _ _ _,hr3,hf3⟩⟩
section
attribute [local go_sem ↓] ldvE_eq
def zEnt : Value := .agg (entC ⟨[],0,noId⟩).toArray
theorem Tryz.entTy : SliceTy Tryz.prog 65 138 zEnt 34 56:=⟨Tryz.underlying65,info_parts (by kernel_rfl),rfl,by omega⟩
theorem built_ent (k:Int):Tryz.prog.built 138 [(1, .int .i64 k)]=some (entC ⟨[],k,noId⟩).toArray:=by kernel_rfl
theorem entC_size {e:EntL} (h:e.id.length=32):(entC e).toArray.size=34:=by rw [List.size_toArray];unfold entC;simp only [List.length_cons,u8s_len,h]
theorem entC_all (e:EntL):(entC e).toArray.all (·.oneCell')=true:=all_oneCell_toArray (zD7 e)
def EntB (w:World) (g:Nat) (e:EntL):Prop:=Blk w g 138 (entC e).toArray
theorem EntB.setName {w:World} {g:Nat} {e:EntL} (h:EntB w g e) (s:Txt):EntB (w.setCell ⟨g,0,none⟩ (.string (B s))) g { e with name:=s }:=by
 have:=Blk.set_ h 0 (.string (B s))
 rwa [List.setIfInBounds_toArray] at this
theorem EntB.setId {w:World} {g:Nat} {e:EntL} (h:EntB w g e) (he:e.id.length=32) (i:Txt) (hi:i.length=32):EntB (w.setCells g 2 (u8s i).toList) g { e with id:=i }:=by
 have hb:Blk w g 138 ([Value.string (B e.name),Value.int .i64 e.kind]++((u8s e.id).toList++[])).toArray:=by rw [List.append_nil];exact h
 have:=Blk.splice (u8s i).toList 2 w _ _ _ hb rfl (by rw [u8s_len,u8s_len,he,hi])
 rw [List.append_nil] at this
 exact this
theorem EntB.far {S:List (Option Nat)} {w w':World} {g:Nat} {e:EntL} (h:EntB w g e) (hf:Far S w w') (hg:some g ∉ S):EntB w' g e:=hf.blk h hg
theorem EntB.name {w:World} {g:Nat} {e:EntL} (h:EntB w g e):w.cell? ⟨g,0,none⟩=some (.string (B e.name)):=by rw [Blk.cell h];rfl
theorem EntB.fr {w:World} {g:Nat} {e:EntL} (h:EntB w g e) (i:Nat):w.frozen? ⟨g,i,none⟩=false:=Blk.frozen h i
theorem EntB.there_ {w:World} {g:Nat} {e:EntL} (h:EntB w g e) (he:e.id.length=32):w.there g 2 32:=Blk.there h (by rw [entC_size he];decide)
theorem rEnt_less {c:UInt8} {q:Txt}:(rEnt (c::q,false)).2.1.length≤q.length:=by
 have h1:=rId_le (rText (rKind (c::q,false)).2).2
 have h2:=rText_le (rKind (c::q,false)).2
 rw [zCv] at h1 h2
 show (rId (rText (rKind (c::q,false)).2).2).2.1.length≤_
 rw [zCv]
 exact Nat.le_trans h1 h2
theorem rTree_end {f:Nat} {r:Rd} {acc:List EntL} (h:r.2=true∨r.1=[]):rTree f r acc=(acc,r):=by
 cases f with
 | zero=>rfl
 | succ f=>rw [rTree,if_pos h]
theorem rTree_step {f:Nat} {c:UInt8} {q:Txt} {acc:List EntL}:rTree (f+1) (c::q,false) acc=rTree f (rEnt (c::q,false)).2 (acc++[(rEnt (c::q,false)).1]):=by
 rw [rTree,if_neg (by simp)]
theorem zDV (r:Rd):(rText r).1.length≤r.1.length:=by
 unfold rText
 split
 ·simp
 ·split
  ·simp
  ·rename_i t q h
   have:=zCn h
   rw [this]
   unfold textE
   simp
   omega
theorem rEnt_eq (c:UInt8) (q:Txt):rEnt (c::q,false)=(⟨(rText (q,false)).1,c.toNat,(rId (rText (q,false)).2).1⟩,(rId (rText (q,false)).2).2):=by
 unfold rEnt
 rw [zCv]
structure TreeI (w:World) (gO gR:Nat) (r:Rd) (w':World):Prop where
 rd:RdB w' gR r
 far:Far [some gO,some gR] w w'
theorem TreeI.below {w w1 w2:World} {gO gR:Nat} {r:Rd} (h:TreeI w gO gR r w1) (hb:Below w1.heap.size w1 w2):TreeI w gO gR r w2:=⟨h.rd.below hb,h.far.more hb⟩
theorem TreeI.low {w w1 w2:World} {gO gR:Nat} {r:Rd} (hR:gR<w.heap.size) (h:TreeI w gO gR r w1) (hb:Below w.heap.size w1 w2):TreeI w gO gR r w2:=⟨(hb.block gR hR).trans h.rd,h.far.low hb⟩
theorem TreeI.set_ {w w1:World} {gO gR o:Nat} {r:Rd} (hne:gO≠gR) (h:TreeI w gO gR r w1) (v:Value):TreeI w gO gR r (w1.setCell ⟨gO,o,none⟩ v):=⟨RdB.set_ h.rd (fun e=>hne e.symm) v,h.far.set_ (.inl (by simp)) v⟩
set_option maxRecDepth 100000 in
set_option maxHeartbeats 4000000 in
theorem tree_calls (k:Nat) (r:Rd) (hr:r.1.length≤100000) (gO gR:Nat) (hne:gO≠gR) (w:World) (hO:ObjB w gO (nObj k) (.slice none 0 0) (.slice none 0 0)) (hR:RdB w gR r) :
 Calls Tryz.prog 80 #[.pointer (some ⟨gR,0,none⟩), .pointer (some ⟨gO,0,none⟩)] w fun e w'=>e = .returned (.tuple #[])∧Did w gO gR w.heap.size (rTr k r) w':=by
 obtain ⟨X,hX⟩ : ∃ X,Hid (rTree r.1.length r []=X):=⟨_,Lib.hid rfl⟩
 have hfin:Hid (∀ w',(∃ ve,ObjB w' gO { nObj k with ents:=X.1 } ve (.slice none 0 0)∧OwnEnts w' w.heap.size ve X.1∧RdB w' gR X.2∧Far [some gO,some gR] w w')→Did w gO gR w.heap.size (rTr k r) w'):=fun w' ⟨ve,h1,h2,h3,h4⟩=>by
  have e:rTr k r=({ nObj k with ents:=X.1 },X.2):=by unfold rTr;rw [hX.out];rfl
  rw [e]
  exact ⟨ve,_,⟨h1,h2,World.ownsRow_nil _ _ _ _,h3,h4⟩⟩
 have hgO:some gO ∉ [some gR]:=by simp;omega
 have hgR:some gR ∉ [some gO]:=by simp;omega
 have hltO:gO<w.heap.size:=hO.blk.lt
 have hltR:gR<w.heap.size:=Blk.lt hR
 have hS : ∀ k,some k∈[some gR]→some k∈[some gO,some gR]:=by simp
 have hstart:OwnEnts w w.heap.size (.slice none 0 0) []:=World.ownsRow_nil _ _ _ _
 have hf0:Far [some gO,some gR] w w:=Far.refl _ _
 have hX0:=hX
 obtain ⟨n0,hn0⟩ : ∃ n0,n0=r.1.length:=⟨_,rfl⟩
 rw [←hn0] at hX hr
 have hle0:r.1.length≤n0:=by omega
 have hO0:ObjB w gO { nObj k with ents:=[] } (.slice none 0 0) (.slice none 0 0):=hO
 clear hX0 hO
 go_enter Tryz.func80,Tryz.ntmps80
 go_wp2
 go_loopg [] n0 (fun f wr=>f≤100000 ∧ ∃ (r':Rd) (acc:List EntL) (ve:Value),r'.1.length≤f∧acc.length+f≤n0∧Hid (rTree f r' acc=X)∧OwnEnts wr w.heap.size ve acc∧ObjB wr gO { nObj k with ents:=acc } ve (.slice none 0 0)∧RdB wr gR r'∧Far [some gO,some gR] w wr)
 case atStart=>exact ⟨hr,r,[], .slice none 0 0,hle0,by simp,hX,hstart,hO0,hR,hf0⟩
 case round=>
  obtain ⟨hf1,r',acc,ve,hlen,hacc,hrel,hown,hOb,hRb,hfar⟩:=hrel
  clear hR hO0 hX hstart hf0 hn0 hle0
  obtain ⟨s,b⟩:=r'
  have c0:=hRb.c0
  have c1:=hRb.c1
  simp only at c0 c1 hlen
  by_cases hend:b=true∨s=[]
  ·have hx:Hid ((acc,(s,b))=X):=by show _=_;rw [←hrel.out];exact (rTree_end hend).symm
   clear hrel
   have hd:=hfin.out wr ⟨ve,by rw [←hx.out];exact hOb,by rw [←hx.out];exact hown,by rw [←hx.out];exact hRb,hfar⟩
   clear hOb hRb hfar hown hx hfin
   cases b with
   | true=>
     clear hend
     go_wp2
     go_end0
     exact ⟨rfl,hd⟩
   | false=>
     obtain rfl:s=[]:=by simpa using hend
     go_wp2
     go_end0
     exact ⟨rfl,hd⟩
  ·obtain rfl:b=false:=by cases b<;>simp_all
   match s,hend with
   | [],hend=>exact absurd (.inr rfl) hend
   | c::q,_=>
     cases gk with
     | zero=>simp at hlen
     | succ f=>
     have hnx:Hid (rTree f (rEnt (c::q,false)).2 (acc++[(rEnt (c::q,false)).1])=X):=by show _=_;rw [←rTree_step];exact hrel.out
     rw [rEnt_eq] at hnx
     have hless:=rEnt_less (c:=c) (q:=q)
     rw [rEnt_eq] at hless
     simp only [List.length_cons] at hlen
     clear hrel
     have hnl:=zDV (q,false)
     have hnl2:=rText_le (q,false)
     have hi32:=rId_len (rText (q,false)).2
     simp only at hnl hnl2 hless
     have hkc:=Lib.hid (rk_calls (c::q,false) (by simp;omega) gR wr hRb)
     rw [zCv] at hkc
     have htc:=fun W hW=>Lib.hid (rt_calls (q,false) (by simp;omega) gR W hW)
     have hic:=fun W hW=>Lib.hid (zEW (rText (q,false)).2 (by omega) gR W hW)
     generalize rText (q,false)=N at *
     generalize rId N.2=I at *
     have hbd:=built_ent (c.toNat:Int)
     have z34:zEnt.cells.size=34:=rfl
     have e34:(entC ⟨[],c.toNat,noId⟩).toArray.size=34:=entC_size zAi
     have eone:=entC_all ⟨[],c.toNat,noId⟩
     have hlO:=hOb.blk.lt
     have hsz0:=hfar.size
     have hxok:EntOk ⟨N.1,c.toNat,I.1⟩:=⟨hi32,by show N.1.length≤_;omega,by show _≤(c.toNat:Int);omega,by have:=c.toNat_lt;show (c.toNat:Int)≤_;omega⟩
     go_upto_region 4 with (first
      | ((with_reducible refine hkc.out.mono ?_);rintro e w1 ⟨rfl,hr1,hf1⟩
         have hO1:=hOb.far hf1 hgO
         have hown1:=hf1.own hown (fun k hk=>by have:=(World.ownsRow.lt hown k hk).1;simp;omega)
         have hfar1:=hfar.trans (hf1.mono hS)
         have hsz1:=hfar1.size
         clear hkc hRb hOb hfar hown c0 c1 hf1)
      | ((with_reducible refine zAU hbd ?_ ?_);rfl)
      | ((with_reducible refine lit_new 138 (.tmp 4) (.tmp 19) (entC ⟨[],c.toNat,noId⟩).toArray 34 szEnt e34 eone _ ?_ ?_ ?_ ?_);rfl;rfl;rfl;intro W2 hb2 hbl2
         have hO2:=hO1.below hbl2
         have hown2:=zAd hown1 hbl2
         have hr2:=hr1.below hbl2
         have hfar2:=hfar1.more hbl2
         have hsz2:=hbl2.size
         have hE2:EntB W2 w1.heap.size ⟨[],c.toNat,noId⟩:=hb2
         have hgEB:w.heap.size≤w1.heap.size:=hsz1
         have hgER:some w1.heap.size ∉ [some gR]:=by simp;omega
         have hgEO:gO≠w1.heap.size:=by omega
         have hgER':gR≠w1.heap.size:=by omega
         have hveE:ve.ownBlock≠some w1.heap.size:=fun h=>by have:=(World.ownsRow.lt hown1 _ h).2;omega
         generalize w1.heap.size=gE at *
         clear hO1 hown1 hr1 hfar1 hbl2 hb2 hsz1)
      | ((with_reducible refine (htc _ hr2).out.mono ?_);rintro e w3 ⟨rfl,hr3,hf3⟩
         have hO3:=hO2.far hf3 hgO
         have hown3:=hf3.own hown2 (fun k hk=>by have:=(World.ownsRow.lt hown2 k hk).1;simp;omega)
         have hE3:=hE2.far hf3 hgER
         have hfar3:=hfar2.trans (hf3.mono hS)
         have f3:=hE3.fr 0
         have c3:=hE3.name
         have hE3:=hE3.setName N.1
         have hr3:=hr3.set_ (p:=⟨gE,0,none⟩) hgER' (.string (B N.1))
         have hO3:=hO3.far (S:=[some gE]) ((Far.refl _ _).set_ (p:=⟨gE,0,none⟩) (.inl (by simp)) (.string (B N.1))) (by simp;omega)
         have hown3:=Far.own (S:=[some gE]) ((Far.refl _ _).set_ (p:=⟨gE,0,none⟩) (.inl (by simp)) (.string (B N.1))) hown3 (fun k hk h=>hveE (by simp at h;rw [←h];exact hk))
         have hfar3:=hfar3.set_ (p:=⟨gE,0,none⟩) (.inr hgEB) (.string (B N.1))
         clear hO2 hown2 hE2 hfar2 hr2 htc hf3)
      | ((with_reducible refine (hic _ hr3).out.mono ?_);rintro e w4 ⟨rfl,hr4,hf4⟩
         have hO4:=hO3.far hf4 hgO
         have hown4:=hf4.own hown3 (fun k hk=>by have:=(World.ownsRow.lt hown3 k hk).1;simp;omega)
         have hE4:=hE3.far hf4 hgER
         have hfar4:=hfar3.trans (hf4.mono hS)
         have ht4:=hE4.there_ zAi
         clear hO3 hown3 hE3 hfar3 hr3 hic hf4 c3 f3)
      | ((with_reducible refine zBt (.tmp 25) (.tmp 24) gE 2 I.1 hi32 ht4 ?_ ?_ ?_);rfl;rfl
         have hE5:=hE4.setId zAi I.1 hi32
         have hr5:=hr4.cells_ hgER'.symm (u8s I.1).toList 2
         have hfE:=Far.cells (S:=[some gE]) (g:=gE) (.inl (List.mem_cons_self ..)) (u8s I.1).toList 2 _ (Far.refl _ w4)
         have hO5:=hO4.far hfE (by simp;omega)
         have hown5:=hfE.own hown4 (fun k hk h=>hveE (by simp at h;rw [←h];exact hk))
         have hfar5:=hfar4.cells (.inr hgEB) (u8s I.1).toList 2 _
         clear hO4 hown4 hE4 hfar4 hr4 hfE ht4))
     have hI5:TreeI w gO gR I.2 (w4.setCells gE 2 (u8s I.1).toList):=⟨hr5,hfar5⟩
     have hIb:=fun w1 w2 (h:TreeI w gO gR I.2 w1) (hb:Below w1.heap.size w1 w2)=>h.below hb
     have hIB:=fun w1 w2 (h:TreeI w gO gR I.2 w1) (hb:Below w.heap.size w1 w2)=>h.low hltR hb
     have hIs:=fun v w1 (h:TreeI w gO gR I.2 w1)=>h.set_ (o:=2) hne v
     have hJb:=fun w1 w2 (h:EntB w1 gE ⟨N.1,c.toNat,I.1⟩) (hb:Below w1.heap.size w1 w2)=>(Blk.below h hb (Blk.lt h):EntB w2 gE ⟨N.1,c.toNat,I.1⟩)
     generalize w4.setCells gE 2 (u8s I.1).toList=W5 at *
     have hF1:F1 w.heap.size gO 68 (objC { nObj k with ents:=acc } ve (.slice none 0 0)).toArray 138 34 ve acc.length (rowsOf entC acc) (TreeI w gO gR I.2) (fun w'=>EntB w' gE ⟨N.1,c.toNat,I.1⟩) W5.drew:=⟨hO5.blk.drew,hown5,⟨hI5.rd,hI5.far.drew⟩,hE5,Nat.le_trans hfar5.size (Nat.le_refl _)⟩
     have hcO:(objC { nObj k with ents:=acc } ve (.slice none 0 0)).toArray.size=72:=by rw [List.size_toArray];unfold objC;simp only [List.length_cons,List.length_append,u8s_len,hO5.tr,hO5.ta,List.length_nil]
     have hve:(objC { nObj k with ents:=acc } ve (.slice none 0 0)).toArray[2]?=some ve:=rfl
     have hm1:acc.length+1≤9223372036854775807:=by omega
     have hm2:(acc.length+1)*56≤140737488355328:=by omega
     have hset : ∀ v':Value,(objC { nObj k with ents:=acc } ve (.slice none 0 0)).toArray.setIfInBounds 2 v'=(objC { nObj k with ents:=acc++[⟨N.1,c.toNat,I.1⟩] } v' (.slice none 0 0)).toArray:=fun v'=>by rw [List.setIfInBounds_toArray];rfl
     have hset:=Lib.hid hset
     have hrow:Hid (rowsOf entC acc++entC ⟨N.1,c.toNat,I.1⟩=rowsOf entC (acc++[⟨N.1,c.toNat,I.1⟩])):=by show _=_;rw [zAo,zAp]
     have hotr:=hO5.tr
     have hota:=hO5.ta
     have hgOB:=hltO
     clear hr5 hfar5 hO5 hown5 hE5 hI5
     generalize (objC { nObj k with ents:=acc } ve (.slice none 0 0)).toArray=cO at *
     generalize hxx:(⟨N.1,c.toNat,I.1⟩:EntL)=x at *
     clear hxx
     obtain ⟨n,hn⟩ : ∃ n,Hid (acc.length=n):=⟨_,Lib.hid rfl⟩
     rw [hn.out] at hF1 hm1 hm2
     obtain ⟨xs,hxs⟩ : ∃ xs,Hid (rowsOf entC acc=xs):=⟨_,Lib.hid rfl⟩
     rw [hxs.out] at hF1
     obtain ⟨BB,hBB⟩ : ∃ BB,Hid (w.heap.size=BB):=⟨_,Lib.hid rfl⟩
     rw [hBB.out] at hF1 hIB hgOB
     obtain ⟨II,hII⟩ : ∃ II,Hid (TreeI w gO gR I.2=II):=⟨_,Lib.hid rfl⟩
     rw [hII.out] at hF1
     have hIb : ∀ w1 w2,II w1→Below w1.heap.size w1 w2→II w2:=hII.out▸hIb
     have hIB : ∀ w1 w2,II w1→Below BB w1 w2→II w2:=hII.out▸hIB
     have hIs : ∀ v w1,II w1→II (w1.setCell ⟨gO,2,none⟩ v):=hII.out▸hIs
     obtain ⟨V,hV⟩ : ∃ V:Nat→Value,V=fun i=>[(.pointer (some ⟨gO,0,none⟩)),(.pointer (some ⟨gO,0,none⟩)),(.pointer (some ⟨gO,0,none⟩)),(.pointer (some ⟨gO,2,none⟩)),ve,(.agg (entC x).toArray),undef,undef,(.pointer (some ⟨gO,0,none⟩)),(.pointer (some ⟨gO,2,none⟩)),undef].getD i undef:=⟨_,rfl⟩
     have v0:V 0=(.pointer (some ⟨gO,0,none⟩)):=by rw [hV];rfl
     have v1:V 1=(.pointer (some ⟨gO,0,none⟩)):=by rw [hV];rfl
     have v2:V 2=(.pointer (some ⟨gO,0,none⟩)):=by rw [hV];rfl
     have v3:V 3=(.pointer (some ⟨gO,2,none⟩)):=by rw [hV];rfl
     have v4:V 4=ve:=by rw [hV];rfl
     have v5:V 5=(.agg (entC x).toArray):=by rw [hV];rfl
     have v8:V 8=(.pointer (some ⟨gO,0,none⟩)):=by rw [hV];rfl
     have v9:V 9=(.pointer (some ⟨gO,2,none⟩)):=by rw [hV];rfl
     have v10:V 10=undef:=by rw [hV];rfl
     clear hV
     refine zAR (C:=Stage 7 10 (F1 BB gO 68 cO 138 34 ve n xs II (fun w'=>EntB w' gE x)) (F2 BB gO 68 cO II) (F3 BB gO 2 68 cO 138 34 n xs (entC x) II)) (R:=StR V 6 7 (LitR BB 138 ve (entC x)) (AppR BB 138 34 n xs (entC x))) (by kernel_rfl) (by kernel_rfl) (by kernel_rfl) ?_ ?_ ?_ ?_
     ·exact zAV (n:=36) (by kernel_rfl)
     ·exact Stage.start hF1
     ·intro i o listed a w1 ho hi hL
      have hin:=(zAt hi).1
      have hsz:listed.size=11:=hL.size
      match i,ho with
      | 0,ho=>
        obtain rfl:=(Option.some.inj ho).symm
        have e0:a.tmps[1]?.getD undef=(.pointer (some ⟨gO,0,none⟩)):=(zAf a 1).trans (hL.get_old hi (by kernel_rfl))
        have hc:=Stage.same (i:=0) hL.cls (by decide) (by decide)
        refine step_wp rfl rfl ?_
        clear hi ho hL hin
        refine wp_val (v:=(.pointer (some ⟨gO,0,none⟩))) ?_ ⟨_,rfl,StR.mk (by decide) (by decide) v0.symm,hc,fun _ _ _ h=>h⟩
        clear v0 v1 v2 v3 v4 v5 v8 v9 v10 hc
        unfold execOp
        go_simp
      | 1,ho=>
        obtain rfl:=(Option.some.inj ho).symm
        have e0:a.tmps[1]?.getD undef=(.pointer (some ⟨gO,0,none⟩)):=(zAf a 1).trans (hL.get_old hi (by kernel_rfl))
        have hc:=Stage.same (i:=1) hL.cls (by decide) (by decide)
        refine step_wp rfl rfl ?_
        clear hi ho hL hin
        refine wp_val (v:=(.pointer (some ⟨gO,0,none⟩))) ?_ ⟨_,rfl,StR.mk (by decide) (by decide) v1.symm,hc,fun _ _ _ h=>h⟩
        clear v0 v1 v2 v3 v4 v5 v8 v9 v10 hc
        unfold execOp
        go_simp
      | 2,ho=>
        obtain rfl:=(Option.some.inj ho).symm
        have e0:a.tmps[27]?.getD undef=(.pointer (some ⟨gO,0,none⟩)):=(zAf a 27).trans (((hL.get_new (j:=1) hi (by kernel_rfl)).at_ (by decide) (by decide)).trans v1)
        have hc:=Stage.same (i:=2) hL.cls (by decide) (by decide)
        refine step_wp rfl rfl ?_
        clear hi ho hL hin
        refine wp_val (v:=(.pointer (some ⟨gO,0,none⟩))) ?_ ⟨_,rfl,StR.mk (by decide) (by decide) v2.symm,hc,fun _ _ _ h=>h⟩
        clear v0 v1 v2 v3 v4 v5 v8 v9 v10 hc
        unfold execOp
        go_simp
      | 3,ho=>
        obtain rfl:=(Option.some.inj ho).symm
        have e0:a.tmps[28]?.getD undef=(.pointer (some ⟨gO,0,none⟩)):=(zAf a 28).trans (((hL.get_new (j:=2) hi (by kernel_rfl)).at_ (by decide) (by decide)).trans v2)
        have hc:=Stage.same (i:=3) hL.cls (by decide) (by decide)
        refine step_wp rfl rfl ?_
        clear hi ho hL hin
        refine wp_val (v:=(.pointer (some ⟨gO,2,none⟩))) ?_ ⟨_,rfl,StR.mk (by decide) (by decide) v3.symm,hc,fun _ _ _ h=>h⟩
        clear v0 v1 v2 v3 v4 v5 v8 v9 v10 hc
        unfold execOp
        go_simp
      | 4,ho=>
        obtain rfl:=(Option.some.inj ho).symm
        have hla:listed.getD 7 false=false:=hL.later (j:=7) hi (by kernel_rfl)
        have hls:listed.getD 10 false=false:=hL.later2 hla (by kernel_rfl)
        have hc1:=Stage.one hL.cls hla hls
        have e0:a.tmps[29]?.getD undef=(.pointer (some ⟨gO,2,none⟩)):=(zAf a 29).trans (((hL.get_new (j:=3) hi (by kernel_rfl)).at_ (by decide) (by decide)).trans v3)
        have hc:=Stage.same (i:=4) hL.cls (by decide) (by decide)
        refine step_wp rfl rfl ?_
        clear hi ho hL hin
        refine wp_val (v:=ve) ?_ ⟨_,rfl,StR.mk (by decide) (by decide) v4.symm,hc,fun _ _ _ h=>h⟩
        have f0:w1.cell? ⟨gO,2,none⟩=some ve:=by rw [hc1.blk.cell];exact hve
        clear hc1
        clear v0 v1 v2 v3 v4 v5 v8 v9 v10 hc
        unfold execOp
        go_simp
      | 5,ho=>
        obtain rfl:=(Option.some.inj ho).symm
        have hla:listed.getD 7 false=false:=hL.later2 (hL.later (j:=6) hi (by kernel_rfl)) (by kernel_rfl)
        have hls:listed.getD 10 false=false:=hL.later2 hla (by kernel_rfl)
        have hc1:=Stage.one hL.cls hla hls
        have e0:a.tmps[4]?.getD undef=(.pointer (some ⟨gE,0,none⟩)):=(zAf a 4).trans (hL.get_old hi (by kernel_rfl))
        have hc:=Stage.same (i:=5) hL.cls (by decide) (by decide)
        refine step_wp rfl rfl ?_
        clear hi ho hL hin
        refine wp_val (v:=(.agg (entC x).toArray)) ?_ ⟨_,rfl,StR.mk (by decide) (by decide) v5.symm,hc,fun _ _ _ h=>h⟩
        have f0:(ldvE ⟨gE,0,none⟩).run Tryz.prog w1 = .ok (.agg (entC x).toArray) w1:=run_ldvE (zAD hc1.pre) hxok
        clear hc1
        clear v0 v1 v2 v3 v4 v5 v8 v9 v10 hc
        unfold execOp
        go_simp
      | 6,ho=>
        obtain rfl:=(Option.some.inj ho).symm
        have hla:listed.getD 7 false=false:=hL.later (j:=7) hi (by kernel_rfl)
        have hls:listed.getD 10 false=false:=hL.later2 hla (by kernel_rfl)
        have hc1:=Stage.one hL.cls hla hls
        have e0:a.tmps[31]?.getD undef=(.agg (entC x).toArray):=(zAf a 31).trans (((hL.get_new (j:=5) hi (by kernel_rfl)).at_ (by decide) (by decide)).trans v5)
        refine step_wp rfl rfl ?_
        have hbA:Below w1.heap.size w1 (w1.alloc (.cells (entC x).toArray 138)):=(Below.refl _ _).alloc (Nat.le_refl _) _
        refine zCy rfl Tryz.entTy (by decide) (zBw hxok) (.inl ( ((zAf a 31).symm.trans e0))) ⟨_,rfl,StR.mkLit ⟨w1.heap.size,rfl,Blk.new _ _ _,hc1.size,fun h=>by have:=(World.ownsRow.lt hc1.own _ h).2;omega⟩,Stage.to1 (hc1.below hbA (hIb _ _ hc1.inv hbA) (hJb _ _ hc1.pre hbA)) hla hls (by decide) (by decide),fun j u _ h=>StR.keep (fun _ h=>h.below hbA) (fun _ h=>h.below hbA) j u h⟩
      | 7,ho=>
        obtain rfl:=(Option.some.inj ho).symm
        have hla:listed.getD 7 false=false:=(zAw (by rw [hsz];exact hin)).trans (zAt hi).2.1
        have hls:listed.getD 10 false=false:=hL.later2 hla (by kernel_rfl)
        have hc1:=Stage.one hL.cls hla hls
        have hx:=(hL.get_new (j:=6) (t:=32) hi (by kernel_rfl)).lit
        have hs:a.eval (.tmp 30)=ve:=((hL.get_new (j:=4) hi (by kernel_rfl)).at_ (by decide) (by decide)).trans v4
        refine step_wp rfl rfl ?_
        refine zEO rfl Tryz.entTy hc1 hgOB hx (zBw hxok) (zD7 x) hm1 hm2 (fun w2 hb=>hIB _ _ hc1.inv hb) hs rfl ?_
        intro v2 w2 hf2 ha2 hk2 hb2
        exact ⟨_,rfl,StR.mkApp ha2 (by decide),Stage.to2 hf2 hls (by rw [hsz];decide) (by decide),fun j u hj h=>StR.keepL hk2 (fun e=>by rw [e,hla] at hj;cases hj) h⟩
      | 8,ho=>
        obtain rfl:=(Option.some.inj ho).symm
        have e0:a.tmps[26]?.getD undef=(.pointer (some ⟨gO,0,none⟩)):=(zAf a 26).trans (((hL.get_new (j:=0) hi (by kernel_rfl)).at_ (by decide) (by decide)).trans v0)
        have hc:=Stage.same (i:=8) hL.cls (by decide) (by decide)
        refine step_wp rfl rfl ?_
        clear hi ho hL hin
        refine wp_val (v:=(.pointer (some ⟨gO,0,none⟩))) ?_ ⟨_,rfl,StR.mk (by decide) (by decide) v8.symm,hc,fun _ _ _ h=>h⟩
        clear v0 v1 v2 v3 v4 v5 v8 v9 v10 hc
        unfold execOp
        go_simp
      | 9,ho=>
        obtain rfl:=(Option.some.inj ho).symm
        have e0:a.tmps[34]?.getD undef=(.pointer (some ⟨gO,0,none⟩)):=(zAf a 34).trans (((hL.get_new (j:=8) hi (by kernel_rfl)).at_ (by decide) (by decide)).trans v8)
        have hc:=Stage.same (i:=9) hL.cls (by decide) (by decide)
        refine step_wp rfl rfl ?_
        clear hi ho hL hin
        refine wp_val (v:=(.pointer (some ⟨gO,2,none⟩))) ?_ ⟨_,rfl,StR.mk (by decide) (by decide) v9.symm,hc,fun _ _ _ h=>h⟩
        clear v0 v1 v2 v3 v4 v5 v8 v9 v10 hc
        unfold execOp
        go_simp
      | 10,ho=>
        obtain rfl:=(Option.some.inj ho).symm
        have hla:listed.getD 7 false=true:=hL.before hi (by kernel_rfl)
        have hls:listed.getD 10 false=false:=(zAw (by rw [hsz];exact hin)).trans (zAt hi).2.1
        have hc2:=Stage.two hL.cls hla hls
        have e0:a.tmps[35]?.getD undef=(.pointer (some ⟨gO,2,none⟩)):=(zAf a 35).trans (((hL.get_new (j:=9) hi (by kernel_rfl)).at_ (by decide) (by decide)).trans v9)
        have hv:=(hL.get_new (j:=7) (t:=33) hi (by kernel_rfl)).app (by decide)
        obtain ⟨vA,vK,hvv⟩:=zAl hv
        rw [hvv] at hv
        have e1:a.tmps[33]?.getD undef=_:=(zAf a 33).trans hvv
        have c0:(w1.cell? ⟨gO,2,none⟩).isSome=true:=(hc2.blk.there (o:=2) (n:=1) (by rw [hcO];decide) 0 (by decide)).1
        obtain ⟨c0v,c0⟩:=Option.isSome_iff_exists.1 c0
        have f0:=hc2.blk.frozen 2
        have hR:=fun u=>AppR.set_ (p:=⟨gO,2,none⟩) (hv) hgOB u
        have h3:=Stage.to3 (ap:=7) (P1:=(F1 BB gO 68 cO 138 34 ve n xs II (fun w'=>EntB w' gE x))) (P2:=(F2 BB gO 68 cO II)) (hc2.stored (off:=2) hv hgOB (hIs _ _ hc2.inv)) (listed:=listed) (st:=10) (by rw [hsz];decide)
        refine step_wp rfl rfl ?_
        clear hi ho hL hin hc2
        refine wp_skip (w':=w1.setCell ⟨gO,2,none⟩ _) ?_ ⟨_,rfl,StR.mk (by decide) (by decide) v10.symm,h3,fun j u _ h=>StR.keep (fun _ h=>h.set_ hgOB _) (fun _ h=>AppR.set_ h hgOB _) j u h⟩
        clear v0 v1 v2 v3 v4 v5 v8 v9 v10 h3
        unfold execOp
        go_simp
      | (n+11),ho=>exact absurd hin (by simp)
     ·intro a w1 listed hL hall
      obtain ⟨v3,hb3,ho3,hi3,_⟩:=Stage.three hL.cls (hall 10 (by decide))
      rw [←hII.out] at hi3
      rw [hset.out] at hb3
      have hob3:ObjB w1 gO { nObj k with ents:=acc++[x] } v3 (.slice none 0 0):=⟨hb3,hotr,hota⟩
      rw [←hxs.out,←hn.out,←hBB.out,hrow.out] at ho3
      have hown3:OwnEnts w1 w.heap.size v3 (acc++[x]):=by unfold OwnEnts;rw [List.length_append];exact ho3
      have hl3:(acc++[x]).length+f≤n0:=by rw [List.length_append];simp only [List.length_cons,List.length_nil];omega
      have hr3':=hi3.rd
      have hf3':=hi3.far
      have hlI:I.2.1.length≤f:=by omega
      obtain ⟨vs,rfl,hR⟩:=hL.frame (by kernel_rfl) (zAV (n:=36) (by kernel_rfl)) hall
      clear hL hall hR hF1 hIb hIB hIs hJb hII hset hrow hxs hn hBB hm1 hm2 hb3 ho3 hi3 hve hcO
      simp only [putAll,Act.put,List.setIfInBounds_toArray,List.set_cons_zero,List.set_cons_succ]
      go_wp2
      go_roundg f
      case rel=>exact ⟨by omega,I.2,acc++[x],v3,hlI,hl3,hnx,hown3,hob3,hr3',hf3'⟩
      case measure=>exact Nat.lt_succ_self f
end
theorem rPars_end {f:Nat} {r:Rd} {acc:List Txt} (h:f=0∨r.2=true):rPars f r acc=(acc,r):=by
 rcases h with rfl | h
 ·rfl
 ·cases f with
  | zero=>rfl
  | succ f=>rw [rPars,if_pos h]
theorem rPars_step {f:Nat} {s:Txt} {acc:List Txt}:rPars (f+1) (s,false) acc=rPars f (rId (s,false)).2 (acc++[(rId (s,false)).1]):=by
 rw [rPars,if_neg (by simp)]
theorem rPars_le : ∀ (f:Nat) (r:Rd) (acc:List Txt),(rPars f r acc).2.1.length≤r.1.length
 | 0,r,acc=>Nat.le_refl _
 | f+1,r,acc=>by
   rw [rPars]
   split
   ·exact Nat.le_refl _
   ·exact Nat.le_trans (rPars_le f _ _) (rId_le r)
structure ParI (w:World) (gO gR:Nat) (o:ObjL) (r:Rd) (acc:List Txt) (vp:Value) (w':World):Prop where
 obj:ObjB w' gO { o with pars:=acc } (.slice none 0 0) vp
 own:OwnIds w' w.heap.size vp acc
 rd:RdB w' gR r
 far:Far [some gO,some gR] w w'
set_option maxRecDepth 100000 in
set_option maxHeartbeats 4000000 in
theorem commit_calls (k:Nat) (r:Rd) (hr:r.1.length≤100000) (gO gR:Nat) (hne:gO≠gR) (w:World) (hO:ObjB w gO (nObj k) (.slice none 0 0) (.slice none 0 0)) (hR:RdB w gR r) :
 Calls Tryz.prog 81 #[.pointer (some ⟨gR,0,none⟩), .pointer (some ⟨gO,0,none⟩)] w fun e w'=>e = .returned (.tuple #[])∧Did w gO gR w.heap.size (rCommit k r) w':=by
 have hi32:=rId_len r
 have hil:=rId_le r
 have hnl:=rNum_le (rId r).2
 have hnm:=rNum_num (rId r).2
 have hpl:=rPars_le (rNum (rId r).2).1 (badIf (decide (8<(rNum (rId r).2).1)) (rNum (rId r).2).2) []
 rw [zD0] at hpl
 have hic:=Lib.hid (zEW r hr gR w hR)
 have hnc:=fun W hW=>Lib.hid (rn_calls (rId r).2 (by omega) gR W hW)
 have hgO:some gO ∉ [some gR]:=by simp;omega
 have hltO:gO<w.heap.size:=hO.blk.lt
 have hltR:gR<w.heap.size:=Blk.lt hR
 have hS : ∀ k,some k∈[some gR]→some k∈[some gO,some gR]:=by simp
 have hend:Hid (rCommit k r=((⟨k,[],[],(rId r).1,(rPars (rNum (rId r).2).1 (badIf (decide (8<(rNum (rId r).2).1)) (rNum (rId r).2).2) []).1,(rNum (rPars (rNum (rId r).2).1 (badIf (decide (8<(rNum (rId r).2).1)) (rNum (rId r).2).2) []).2).1%4294967296,(rText (badIf (decide (4294967295<(rNum (rPars (rNum (rId r).2).1 (badIf (decide (8<(rNum (rId r).2).1)) (rNum (rId r).2).2) []).2).1)) (rNum (rPars (rNum (rId r).2).1 (badIf (decide (8<(rNum (rId r).2).1)) (rNum (rId r).2).2) []).2).2)).1,noId,0,[]⟩:ObjL),
  (rText (badIf (decide (4294967295<(rNum (rPars (rNum (rId r).2).1 (badIf (decide (8<(rNum (rId r).2).1)) (rNum (rId r).2).2) []).2).1)) (rNum (rPars (rNum (rId r).2).1 (badIf (decide (8<(rNum (rId r).2).1)) (rNum (rId r).2).2) []).2).2)).2)):=rfl
 generalize rId r=I at *
 generalize rNum I.2=N at *
 obtain ⟨C0,hC0⟩ : ∃ C0,Hid (rCommit k r=C0):=⟨_,Lib.hid rfl⟩
 rw [hC0.out] at hend
 rw [hC0.out]
 obtain ⟨X,hX⟩ : ∃ X,Hid (rPars N.1 (badIf (decide (8<N.1)) N.2) []=X):=⟨_,Lib.hid rfl⟩
 rw [hX.out] at hend hpl
 have hntc:=fun W hW=>Lib.hid (rn_calls X.2 (by omega) gR W hW)
 have htl:=rNum_le X.2
 have htm:=rNum_num X.2
 generalize rNum X.2=T at *
 have hbl:=zD0 (decide (4294967295<T.1)) T.2
 have hxc:=fun W hW=>Lib.hid (rt_calls (badIf (decide (4294967295<T.1)) T.2) (by rw [hbl];omega) gR W hW)
 generalize hR4:badIf (decide (4294967295<T.1)) T.2=R4 at *
 have HR4:=Lib.hid hR4
 generalize rText R4=Y at *
 clear hR4 hC0 hbl
 have hstart:OwnIds w w.heap.size (.slice none 0 0) []:=World.ownsRow_nil _ _ _ _
 go_enter Tryz.func81,Tryz.ntmps81
 go_upto_if 15 with (first
  | ((with_reducible refine hic.out.mono ?_);rintro e w1 ⟨rfl,hr1,hf1⟩
     have hO1:=hO.far hf1 hgO
     have ht1:=hO1.there 3 32 (by omega)
     have hf1:=(hf1.mono (T:=[some gO,some gR]) hS)
     clear hic hR hO)
  | ((with_reducible refine zBt (.tmp 11) (.tmp 9) gO 3 I.1 hi32 ht1 ?_ ?_ ?_);rfl;rfl
     have hO2:=hO1.setTree I.1 hi32
     have hr2:=hr1.cells_ hne (u8s I.1).toList 3
     have hf2:=Far.cells (S:=[some gO,some gR]) (g:=gO) (.inl (List.mem_cons_self ..)) (u8s I.1).toList 3 _ hf1
     clear hO1 hr1 hf1 ht1)
  | ((with_reducible refine (hnc _ hr2).out.mono ?_);rintro e w3 ⟨rfl,hr3,hf3⟩
     have hO3:=hO2.far hf3 hgO
     have hfar3:=hf2.trans (hf3.mono hS)
     clear hnc hr2 hO2 hf2 hf3))
 have hc1:=hr3.c1
 have hfr1:=hr3.f 1
 generalize hR2:badIf (decide (8<N.1)) N.2=R2 at *
 have hbl2:R2.1=N.2.1:=by rw [←hR2];exact zD0 _ _
 have hbt:Hid (8<N.1→R2=(N.2.1,true)):=fun h=>by rw [←hR2,decide_eq_true h];rfl
 have hbf:Hid (¬ 8<N.1→R2=N.2):=fun h=>by rw [←hR2,decide_eq_false h];rfl
 clear hR2
 go_cut [] from 15 to 18 (fun wx=>RdB wx gR R2∧ObjB wx gO { nObj k with tree:=I.1 } (.slice none 0 0) (.slice none 0 0)∧Far [some gO,some gR] w wx)
 case first=>
  by_cases h8:8<N.1
  ·have h8i:(8:Int)<(N.1:Int):=by omega
   have e2:=Lib.hid (hbt.out h8)
   clear hbt hbf hbl2
   go_wp2_with (fail)
   go_meet
   case rel=>exact ⟨by rw [e2.out];exact hr3.bad,hO3.far (S:=[some gR]) ((Far.refl _ _).set_ (p:=⟨gR,1,none⟩) (.inl (by simp)) _) hgO,hfar3.set_ (.inl (by simp)) _⟩
  ·have h8i : ¬ (8:Int)<(N.1:Int):=by omega
   have e2:=Lib.hid (hbf.out h8)
   clear hbt hbf hbl2
   go_wp2_with (fail)
   go_meet
   case rel=>exact ⟨by rw [e2.out];exact hr3,hO3,hfar3⟩
 obtain ⟨hrX,hOX,hfX⟩:=hcut
 clear hr3 hO3 hfar3 hc1 hfr1
 have hb8:Hid (R2.2=false→N.1≤8):=fun h=>by
  by_cases h8:8<N.1
  ·rw [hbt.out h8] at h;cases h
  ·omega
 clear hbt hbf
 have hR2l:R2.1.length≤100000:=by rw [hbl2];omega
 have hownX:OwnIds wc w.heap.size (.slice none 0 0) []:=World.ownsRow_nil _ _ _ _
 have hn0:N.1≤0+N.1:=by omega
 have hn1:0+N.1≤N.1:=by omega
 have hpi0:ParI w gO gR { nObj k with tree:=I.1 } R2 [] (.slice none 0 0) wc:=⟨hOX,hownX,hrX,hfX⟩
 generalize N.1=n at *
 clear hOX hownX hrX hfX
 go_upto_block 0 with (fail)
 go_cut [] from 5 to 41 (fun wx => ∃ vp,ParI w gO gR { nObj k with tree:=I.1 } X.2 X.1 vp wx)
 case first=>
  go_wp2_with (fail)
  go_loopg [5] n (fun f vi wr => ∃ (j:Nat) (r':Rd) (acc:List Txt) (vp:Value),vi = .int .u64 j∧j+f≤n∧n≤j+f∧acc.length≤j∧Hid (r'.2=false→n≤8)∧Hid (rPars f r' acc=X)∧r'.1.length≤100000∧ParI w gO gR { nObj k with tree:=I.1 } r' acc vp wr)
  case atStart=>exact ⟨0,R2,[], .slice none 0 0,rfl,hn1,hn0,by simp,hb8,hX,hR2l,hpi0⟩
  case round=>
   obtain ⟨j,r',acc,vp,rfl,hj1,hj2,hacc,h8,hrel,hlen,hpi⟩:=hrel
   clear hX hb8 hpi0 hn0 hn1 hR2l hbl2
   have c1:=hpi.rd.c1
   by_cases hex:gk=0∨r'.2=true
   ·have hx:Hid ((acc,r')=X):=by show _=_;rw [←hrel.out];exact (rPars_end hex).symm
    have hfi:ParI w gO gR { nObj k with tree:=I.1 } X.2 X.1 vp wr:=by rw [←hx.out];exact hpi
    clear hrel h8 hx hpi
    cases hX2:r'.2 with
    | true=>
      rw [hX2] at c1
      clear hX2 hex
      by_cases hjn:j<n
      ·have hjn1:(j:Int)<(n:Int):=by omega
       go_wp2_with (fail)
       all_goals try (exfalso;omega)
       go_meet
       case rel=>exact ⟨vp,hfi⟩
      ·have hjn1 : ¬ (j:Int)<(n:Int):=by omega
       go_wp2_with (fail)
       all_goals try (exfalso;omega)
       go_meet
       case rel=>exact ⟨vp,hfi⟩
    | false=>
      rw [hX2] at c1 hex
      have hg0:gk=0:=by simpa using hex
      have hjn1 : ¬ (j:Int)<(n:Int):=by omega
      clear hX2 hex hg0
      go_wp2_with (fail)
      all_goals try (exfalso;omega)
      go_meet
      case rel=>exact ⟨vp,hfi⟩
   ·have hb0:r'.2=false:=by cases hq:r'.2<;>simp_all
    cases gk with
    | zero=>exact absurd (.inl rfl) hex
    | succ f=>
    have hn8:=h8.out hb0
    have hjn1:(j:Int)<(n:Int):=by omega
    have hj8:(j:Int)<8:=by omega
    obtain ⟨s,b⟩:=r'
    simp only at hb0 c1 hlen
    subst hb0
    rw [rPars_step] at hrel
    have hj32:=rId_len (s,false)
    have hjl:=rId_le (s,false)
    simp only at hjl
    have hIc0:=fun W (hW:RdB W gR (s,false))=>Lib.hid (zEW (s,false) hlen gR W hW)
    generalize rId (s,false)=J at *
    have h8':Hid (J.2.2=false→n≤8):=fun _=>hn8
    clear h8 hex
    go_upto_region 7 with (fail)
    all_goals try (exfalso;omega)
    obtain ⟨hOb,hown,hRb,hfar⟩:=hpi
    have hotr:=hOb.tr
    have hota:=hOb.ta
    have hF1:F1 w.heap.size gO 68 (objC { nObj k with tree:=I.1,pars:=acc } (.slice none 0 0) vp).toArray 53 32 vp acc.length (rowsOf idC acc) (Far [some gO,some gR] w) (fun _=>True) wr.drew:=⟨hOb.blk.drew,hown,hfar.drew,trivial,Nat.le_trans hfar.size (Nat.le_refl _)⟩
    have hA1:RdB wr.drew gR (if false=true then J.2 else (s,false)):=hRb.drewN 1
    have hcO:(objC { nObj k with tree:=I.1,pars:=acc } (.slice none 0 0) vp).toArray.size=72:=by rw [List.size_toArray];unfold objC;simp only [List.length_cons,List.length_append,u8s_len,hotr,hota,List.length_nil]
    have hve:(objC { nObj k with tree:=I.1,pars:=acc } (.slice none 0 0) vp).toArray[35]?=some vp:=by rw [List.getElem?_toArray];exact obj_pars (o:={ nObj k with tree:=I.1,pars:=acc }) hotr
    have hset:Hid (∀ v':Value,(objC { nObj k with tree:=I.1,pars:=acc } (.slice none 0 0) vp).toArray.setIfInBounds 35 v'=(objC { nObj k with tree:=I.1,pars:=acc++[J.1] } (.slice none 0 0) v').toArray):=fun v'=>by
     rw [List.setIfInBounds_toArray]
     congr 1
     show _::_::_::((u8s I.1).toList++_).set 32 _=_
     rw [set_app (by rw [u8s_len];exact hi32) (Nat.le_refl _)];rfl
    have hrow:Hid (rowsOf idC acc++idC J.1=rowsOf idC (acc++[J.1])):=by show _=_;rw [zAo,zAp]
    have hm1:acc.length+1≤9223372036854775807:=by omega
    have hm2:(acc.length+1)*32≤140737488355328:=by omega
    have hIb:=fun w1 w2 (h:Far [some gO,some gR] w w1) (hb:Below w1.heap.size w1 w2)=>h.more hb
    have hIB:=fun w1 w2 (h:Far [some gO,some gR] w w1) (hb:Below w.heap.size w1 w2)=>h.low hb
    have hIs:=fun v w1 (h:Far [some gO,some gR] w w1)=>h.set_ (p:=⟨gO,35,none⟩) (.inl (by simp)) v
    have hIf:=fun w1 w2 (h:Far [some gO,some gR] w w1) (hb:Far [some gR] w1 w2)=>h.trans (hb.mono hS)
    have hIc:=fun W (hW:RdB W gR (if false=true then J.2 else (s,false)))=>hIc0 W hW
    have hAt:=fun W (hW:RdB W gR J.2)=>(hW:RdB W gR (if true=true then J.2 else (s,false)))
    have hAb:=fun b w1 w2 (h:RdB w1 gR (if b=true then J.2 else (s,false))) (hb:Below w1.heap.size w1 w2)=>h.below hb
    have hAB:=fun b w1 w2 (h:RdB w1 gR (if b=true then J.2 else (s,false))) (hb:Below w.heap.size w1 w2)=>((hb.block gR hltR).trans h:RdB w2 gR (if b=true then J.2 else (s,false)))
    have hAs:=fun b v w1 (h:RdB w1 gR (if b=true then J.2 else (s,false)))=>RdB.set_ (p:=⟨gO,35,none⟩) h (fun e=>hne e.symm) v
    have hJb:=fun (w1 w2:World) (_:True) (_:Below w1.heap.size w1 w2)=>trivial
    have hSB : ∀ k,some k∈[some gR]→k<w.heap.size:=fun k hk=>by simp at hk;omega
    have hgOB:=hltO
    clear hOb hown hRb hfar hIc0 c1
    generalize (objC { nObj k with tree:=I.1,pars:=acc } (.slice none 0 0) vp).toArray=cO at *
    obtain ⟨n',hn'⟩ : ∃ n',Hid (acc.length=n'):=⟨_,Lib.hid rfl⟩
    rw [hn'.out] at hF1 hm1 hm2
    obtain ⟨xs,hxs⟩ : ∃ xs,Hid (rowsOf idC acc=xs):=⟨_,Lib.hid rfl⟩
    rw [hxs.out] at hF1
    obtain ⟨II,hII⟩ : ∃ II,Hid (Far [some gO,some gR] w=II):=⟨_,Lib.hid rfl⟩
    rw [hII.out] at hF1
    have hIb : ∀ w1 w2,II w1→Below w1.heap.size w1 w2→II w2:=hII.out▸hIb
    have hIB : ∀ w1 w2,II w1→Below w.heap.size w1 w2→II w2:=hII.out▸hIB
    have hIf : ∀ w1 w2,II w1→Far [some gR] w1 w2→II w2:=hII.out▸hIf
    have hIs : ∀ v w1,II w1→II (w1.setCell ⟨gO,35,none⟩ v):=hII.out▸hIs
    obtain ⟨BB,hBB⟩ : ∃ BB,Hid (w.heap.size=BB):=⟨_,Lib.hid rfl⟩
    rw [hBB.out] at hF1 hIB hgOB hAB hSB
    obtain ⟨AA,hAA⟩ : ∃ AA:Bool→World→Prop,AA=fun b W=>RdB W gR (if b=true then J.2 else (s,false)):=⟨_,rfl⟩
    have hAe : ∀ W,AA true W→RdB W gR J.2:=fun W h=>by rw [hAA] at h;exact h
    have hA1:AA false wr.drew:=by rw [hAA];exact hA1
    have hIc : ∀ W,AA false W→_:=fun W h=>hIc W (by rw [hAA] at h;exact h)
    have hAt : ∀ W,RdB W gR J.2→AA true W:=fun W h=>by rw [hAA];exact h
    have hAb : ∀ b w1 w2,AA b w1→Below w1.heap.size w1 w2→AA b w2:=fun b w1 w2 h hb=>by rw [hAA] at *;exact hAb b w1 w2 h hb
    have hAB : ∀ b w1 w2,AA b w1→Below BB w1 w2→AA b w2:=fun b w1 w2 h hb=>by rw [hAA] at *;exact hAB b w1 w2 h hb
    have hAs : ∀ b v w1,AA b w1→AA b (w1.setCell ⟨gO,35,none⟩ v):=fun b v w1 h=>by rw [hAA] at *;exact hAs b v w1 h
    clear hAA
    obtain ⟨V,hV⟩ : ∃ V:Nat→Value,V=fun i=>[(.pointer (some ⟨gO,0,none⟩)),(.pointer (some ⟨gO,0,none⟩)),(.pointer (some ⟨gO,0,none⟩)),(.pointer (some ⟨gO,35,none⟩)),vp,(.pointer (some ⟨gR,0,none⟩)),(.agg (u8s J.1)),undef,undef,(.pointer (some ⟨gO,0,none⟩)),(.pointer (some ⟨gO,35,none⟩)),undef].getD i undef:=⟨_,rfl⟩
    have v0:V 0=(.pointer (some ⟨gO,0,none⟩)):=by rw [hV];rfl
    have v1:V 1=(.pointer (some ⟨gO,0,none⟩)):=by rw [hV];rfl
    have v2:V 2=(.pointer (some ⟨gO,0,none⟩)):=by rw [hV];rfl
    have v3:V 3=(.pointer (some ⟨gO,35,none⟩)):=by rw [hV];rfl
    have v4:V 4=vp:=by rw [hV];rfl
    have v5:V 5=(.pointer (some ⟨gR,0,none⟩)):=by rw [hV];rfl
    have v6:V 6=(.agg (u8s J.1)):=by rw [hV];rfl
    have v9:V 9=(.pointer (some ⟨gO,0,none⟩)):=by rw [hV];rfl
    have v10:V 10=(.pointer (some ⟨gO,35,none⟩)):=by rw [hV];rfl
    have v11:V 11=undef:=by rw [hV];rfl
    clear hV
    refine zAR (C:=fun listed w=>Stage 8 11 (F1 BB gO 68 cO 53 32 vp n' xs II (fun _=>True)) (F2 BB gO 68 cO II) (F3 BB gO 35 68 cO 53 32 n' xs (idC J.1) II) listed w∧AA (listed.getD 6 false) w) (R:=StR V 7 8 (LitR BB 53 vp (idC J.1)) (AppR BB 53 32 n' xs (idC J.1))) (by kernel_rfl) (by kernel_rfl) (by kernel_rfl) ?_ ?_ ?_ ?_
    ·exact zAV (n:=59) (by kernel_rfl)
    ·exact ⟨Stage.start hF1,by rw [zBh];exact hA1⟩
    ·intro i o listed a w1 ho hi hL
     have hin:=(zAt hi).1
     have hsz:listed.size=12:=hL.size
     match i,ho with
     | 0,ho=>
       obtain rfl:=(Option.some.inj ho).symm
       have e0:a.tmps[1]?.getD undef=(.pointer (some ⟨gO,0,none⟩)):=(zAf a 1).trans (hL.get_old hi (by kernel_rfl))
       have hc:=Stage.same (i:=0) hL.cls.1 (by decide) (by decide)
       have hcx:=hL.cls.2
       rw [←zAG (i:=0) (j:=6) (l:=listed) (by decide)] at hcx
       have hc:=And.intro hc hcx
       clear hcx
       refine step_wp rfl rfl ?_
       clear hi ho hL hin
       refine wp_val (v:=(.pointer (some ⟨gO,0,none⟩))) ?_ ⟨_,rfl,StR.mk (by decide) (by decide) v0.symm,hc,fun _ _ _ h=>h⟩
       clear v0 v1 v2 v3 v4 v5 v6 v9 v10 v11 hc
       unfold execOp
       go_simp
     | 1,ho=>
       obtain rfl:=(Option.some.inj ho).symm
       have e0:a.tmps[1]?.getD undef=(.pointer (some ⟨gO,0,none⟩)):=(zAf a 1).trans (hL.get_old hi (by kernel_rfl))
       have hc:=Stage.same (i:=1) hL.cls.1 (by decide) (by decide)
       have hcx:=hL.cls.2
       rw [←zAG (i:=1) (j:=6) (l:=listed) (by decide)] at hcx
       have hc:=And.intro hc hcx
       clear hcx
       refine step_wp rfl rfl ?_
       clear hi ho hL hin
       refine wp_val (v:=(.pointer (some ⟨gO,0,none⟩))) ?_ ⟨_,rfl,StR.mk (by decide) (by decide) v1.symm,hc,fun _ _ _ h=>h⟩
       clear v0 v1 v2 v3 v4 v5 v6 v9 v10 v11 hc
       unfold execOp
       go_simp
     | 2,ho=>
       obtain rfl:=(Option.some.inj ho).symm
       have e0:a.tmps[32]?.getD undef=(.pointer (some ⟨gO,0,none⟩)):=(zAf a 32).trans (((hL.get_new (j:=1) hi (by kernel_rfl)).at_ (by decide) (by decide)).trans v1)
       have hc:=Stage.same (i:=2) hL.cls.1 (by decide) (by decide)
       have hcx:=hL.cls.2
       rw [←zAG (i:=2) (j:=6) (l:=listed) (by decide)] at hcx
       have hc:=And.intro hc hcx
       clear hcx
       refine step_wp rfl rfl ?_
       clear hi ho hL hin
       refine wp_val (v:=(.pointer (some ⟨gO,0,none⟩))) ?_ ⟨_,rfl,StR.mk (by decide) (by decide) v2.symm,hc,fun _ _ _ h=>h⟩
       clear v0 v1 v2 v3 v4 v5 v6 v9 v10 v11 hc
       unfold execOp
       go_simp
     | 3,ho=>
       obtain rfl:=(Option.some.inj ho).symm
       have e0:a.tmps[33]?.getD undef=(.pointer (some ⟨gO,0,none⟩)):=(zAf a 33).trans (((hL.get_new (j:=2) hi (by kernel_rfl)).at_ (by decide) (by decide)).trans v2)
       have hc:=Stage.same (i:=3) hL.cls.1 (by decide) (by decide)
       have hcx:=hL.cls.2
       rw [←zAG (i:=3) (j:=6) (l:=listed) (by decide)] at hcx
       have hc:=And.intro hc hcx
       clear hcx
       refine step_wp rfl rfl ?_
       clear hi ho hL hin
       refine wp_val (v:=(.pointer (some ⟨gO,35,none⟩))) ?_ ⟨_,rfl,StR.mk (by decide) (by decide) v3.symm,hc,fun _ _ _ h=>h⟩
       clear v0 v1 v2 v3 v4 v5 v6 v9 v10 v11 hc
       unfold execOp
       go_simp
     | 4,ho=>
       obtain rfl:=(Option.some.inj ho).symm
       have hla:listed.getD 8 false=false:=hL.later (j:=8) hi (by kernel_rfl)
       have hls:listed.getD 11 false=false:=hL.later2 hla (by kernel_rfl)
       have hc1:=Stage.one hL.cls.1 hla hls
       have e0:a.tmps[34]?.getD undef=(.pointer (some ⟨gO,35,none⟩)):=(zAf a 34).trans (((hL.get_new (j:=3) hi (by kernel_rfl)).at_ (by decide) (by decide)).trans v3)
       have hc:=Stage.same (i:=4) hL.cls.1 (by decide) (by decide)
       have hcx:=hL.cls.2
       rw [←zAG (i:=4) (j:=6) (l:=listed) (by decide)] at hcx
       have hc:=And.intro hc hcx
       clear hcx
       refine step_wp rfl rfl ?_
       clear hi ho hL hin
       refine wp_val (v:=vp) ?_ ⟨_,rfl,StR.mk (by decide) (by decide) v4.symm,hc,fun _ _ _ h=>h⟩
       have f0:w1.cell? ⟨gO,35,none⟩=some vp:=by rw [hc1.blk.cell];exact hve
       clear hc1
       clear v0 v1 v2 v3 v4 v5 v6 v9 v10 v11 hc
       unfold execOp
       go_simp
     | 5,ho=>
       obtain rfl:=(Option.some.inj ho).symm
       have e0:a.tmps[0]?.getD undef=(.pointer (some ⟨gR,0,none⟩)):=(zAf a 0).trans (hL.get_old hi (by kernel_rfl))
       have hc:=Stage.same (i:=5) hL.cls.1 (by decide) (by decide)
       have hcx:=hL.cls.2
       rw [←zAG (i:=5) (j:=6) (l:=listed) (by decide)] at hcx
       have hc:=And.intro hc hcx
       clear hcx
       refine step_wp rfl rfl ?_
       clear hi ho hL hin
       refine wp_val (v:=(.pointer (some ⟨gR,0,none⟩))) ?_ ⟨_,rfl,StR.mk (by decide) (by decide) v5.symm,hc,fun _ _ _ h=>h⟩
       clear v0 v1 v2 v3 v4 v5 v6 v9 v10 v11 hc
       unfold execOp
       go_simp
     | 6,ho=>
       obtain rfl:=(Option.some.inj ho).symm
       have hla:listed.getD 8 false=false:=hL.later (j:=8) hi (by kernel_rfl)
       have hls:listed.getD 11 false=false:=hL.later2 hla (by kernel_rfl)
       have hc1:=Stage.one hL.cls.1 hla hls
       have e0:a.tmps[36]?.getD undef=(.pointer (some ⟨gR,0,none⟩)):=(zAf a 36).trans (((hL.get_new (j:=5) hi (by kernel_rfl)).at_ (by decide) (by decide)).trans v5)
       refine step_wp rfl rfl ?_
       have hl6:listed.getD 6 false=false:=(zAw (by rw [hsz];exact hin)).trans (zAt hi).2.1
       have hl7:listed.getD 7 false=false:=hL.later (j:=7) hi (by kernel_rfl)
       have hA:=hL.cls.2
       rw [hl6] at hA
       have hcl:=hIc w1 hA
       have hcj:=fun j u (hj:listed.getD j false=true) (h:StR V 7 8 (LitR BB 53 vp (idC J.1)) (AppR BB 53 32 n' xs (idC J.1)) j u w1) (w2:World)=>(StR.keepN (fun e=>by rw [e,hl7] at hj;cases hj) (fun e=>by rw [e,hla] at hj;cases hj) h:StR V 7 8 (LitR BB 53 vp (idC J.1)) (AppR BB 53 32 n' xs (idC J.1)) j u w2)
       refine zDz rfl (vals := #[.pointer (some ⟨gR,0,none⟩)]) (map1 ((zAf a 36).symm.trans e0)) (by go_simp) hcl.out ?_
       rintro e w2 ⟨rfl,hr2,hf2⟩
       exact ⟨_,rfl,_,rfl,StR.mk (by decide) (by decide) v6.symm,⟨Stage.to1 (hc1.far hf2 hgO hSB (hIf _ _ hc1.inv hf2) trivial) hla hls (by decide) (by decide),by rw [zDW (by rw [hsz];decide)];exact hAt _ hr2⟩,fun j u hj h=>hcj j u hj h w2⟩
     | 7,ho=>
       obtain rfl:=(Option.some.inj ho).symm
       have hla:listed.getD 8 false=false:=hL.later (j:=8) hi (by kernel_rfl)
       have hls:listed.getD 11 false=false:=hL.later2 hla (by kernel_rfl)
       have hc1:=Stage.one hL.cls.1 hla hls
       have e0:a.tmps[37]?.getD undef=(.agg (u8s J.1)):=(zAf a 37).trans (((hL.get_new (j:=6) hi (by kernel_rfl)).at_ (by decide) (by decide)).trans v6)
       refine step_wp rfl rfl ?_
       have hbA:Below w1.heap.size w1 (w1.alloc (.cells (idC J.1).toArray 53)):=(Below.refl _ _).alloc (Nat.le_refl _) _
       refine zCy rfl Tryz.idsTy (by decide) (idC_len hj32) (.inl (idC_agg ((zAf a 37).symm.trans e0))) ⟨_,rfl,StR.mkLit ⟨w1.heap.size,rfl,Blk.new _ _ _,hc1.size,fun h=>by have:=(World.ownsRow.lt hc1.own _ h).2;omega⟩,⟨Stage.to1 (hc1.below hbA (hIb _ _ hc1.inv hbA) (hJb _ _ hc1.pre hbA)) hla hls (by decide) (by decide),by rw [zAG (by decide)];exact hAb _ _ _ hL.cls.2 hbA⟩,fun j u _ h=>StR.keep (fun _ h=>h.below hbA) (fun _ h=>h.below hbA) j u h⟩
     | 8,ho=>
       obtain rfl:=(Option.some.inj ho).symm
       have hla:listed.getD 8 false=false:=(zAw (by rw [hsz];exact hin)).trans (zAt hi).2.1
       have hls:listed.getD 11 false=false:=hL.later2 hla (by kernel_rfl)
       have hc1:=Stage.one hL.cls.1 hla hls
       have hx:=(hL.get_new (j:=7) (t:=38) hi (by kernel_rfl)).lit
       have hs:a.eval (.tmp 35)=vp:=((hL.get_new (j:=4) hi (by kernel_rfl)).at_ (by decide) (by decide)).trans v4
       refine step_wp rfl rfl ?_
       refine zEO rfl Tryz.idsTy hc1 hgOB hx (idC_len hj32) (idC_one J.1) hm1 hm2 (fun w2 hb=>hIB _ _ hc1.inv hb) hs rfl ?_
       intro v2 w2 hf2 ha2 hk2 hb2
       exact ⟨_,rfl,StR.mkApp ha2 (by decide),⟨Stage.to2 hf2 hls (by rw [hsz];decide) (by decide),by rw [zAG (by decide)];exact hAB _ _ _ hL.cls.2 hb2⟩,fun j u hj h=>StR.keepL hk2 (fun e=>by rw [e,hla] at hj;cases hj) h⟩
     | 9,ho=>
       obtain rfl:=(Option.some.inj ho).symm
       have e0:a.tmps[31]?.getD undef=(.pointer (some ⟨gO,0,none⟩)):=(zAf a 31).trans (((hL.get_new (j:=0) hi (by kernel_rfl)).at_ (by decide) (by decide)).trans v0)
       have hc:=Stage.same (i:=9) hL.cls.1 (by decide) (by decide)
       have hcx:=hL.cls.2
       rw [←zAG (i:=9) (j:=6) (l:=listed) (by decide)] at hcx
       have hc:=And.intro hc hcx
       clear hcx
       refine step_wp rfl rfl ?_
       clear hi ho hL hin
       refine wp_val (v:=(.pointer (some ⟨gO,0,none⟩))) ?_ ⟨_,rfl,StR.mk (by decide) (by decide) v9.symm,hc,fun _ _ _ h=>h⟩
       clear v0 v1 v2 v3 v4 v5 v6 v9 v10 v11 hc
       unfold execOp
       go_simp
     | 10,ho=>
       obtain rfl:=(Option.some.inj ho).symm
       have e0:a.tmps[40]?.getD undef=(.pointer (some ⟨gO,0,none⟩)):=(zAf a 40).trans (((hL.get_new (j:=9) hi (by kernel_rfl)).at_ (by decide) (by decide)).trans v9)
       have hc:=Stage.same (i:=10) hL.cls.1 (by decide) (by decide)
       have hcx:=hL.cls.2
       rw [←zAG (i:=10) (j:=6) (l:=listed) (by decide)] at hcx
       have hc:=And.intro hc hcx
       clear hcx
       refine step_wp rfl rfl ?_
       clear hi ho hL hin
       refine wp_val (v:=(.pointer (some ⟨gO,35,none⟩))) ?_ ⟨_,rfl,StR.mk (by decide) (by decide) v10.symm,hc,fun _ _ _ h=>h⟩
       clear v0 v1 v2 v3 v4 v5 v6 v9 v10 v11 hc
       unfold execOp
       go_simp
     | 11,ho=>
       obtain rfl:=(Option.some.inj ho).symm
       have hla:listed.getD 8 false=true:=hL.before hi (by kernel_rfl)
       have hls:listed.getD 11 false=false:=(zAw (by rw [hsz];exact hin)).trans (zAt hi).2.1
       have hc2:=Stage.two hL.cls.1 hla hls
       have e0:a.tmps[41]?.getD undef=(.pointer (some ⟨gO,35,none⟩)):=(zAf a 41).trans (((hL.get_new (j:=10) hi (by kernel_rfl)).at_ (by decide) (by decide)).trans v10)
       have hv:=(hL.get_new (j:=8) (t:=39) hi (by kernel_rfl)).app (by decide)
       obtain ⟨vA,vK,hvv⟩:=zAl hv
       rw [hvv] at hv
       have e1:a.tmps[39]?.getD undef=_:=(zAf a 39).trans hvv
       have c0:(w1.cell? ⟨gO,35,none⟩).isSome=true:=(hc2.blk.there (o:=35) (n:=1) (by rw [hcO];decide) 0 (by decide)).1
       obtain ⟨c0v,c0⟩:=Option.isSome_iff_exists.1 c0
       have f0:=hc2.blk.frozen 35
       have hR:=fun u=>AppR.set_ (p:=⟨gO,35,none⟩) (hv) hgOB u
       have h3:=Stage.to3 (ap:=8) (P1:=(F1 BB gO 68 cO 53 32 vp n' xs II (fun _=>True))) (P2:=(F2 BB gO 68 cO II)) (hc2.stored (off:=35) hv hgOB (hIs _ _ hc2.inv)) (listed:=listed) (st:=11) (by rw [hsz];decide)
       have hcx : ∀ u,AA ((listed.setIfInBounds 11 true).getD 6 false) (w1.setCell ⟨gO,35,none⟩ u):=fun u=>by rw [zAG (by decide)];exact hAs _ u _ hL.cls.2
       refine step_wp rfl rfl ?_
       clear hi ho hL hin hc2
       refine wp_skip (w':=w1.setCell ⟨gO,35,none⟩ _) ?_ ⟨_,rfl,StR.mk (by decide) (by decide) v11.symm,⟨h3,hcx _⟩,fun j u _ h=>StR.keep (fun _ h=>h.set_ hgOB _) (fun _ h=>AppR.set_ h hgOB _) j u h⟩
       clear v0 v1 v2 v3 v4 v5 v6 v9 v10 v11 h3
       unfold execOp
       go_simp
     | (n+12),ho=>exact absurd hin (by simp)
    ·intro a w1 listed hL hall
     obtain ⟨v3,hb3,ho3,hi3,_⟩:=Stage.three hL.cls.1 (hall 11 (by decide))
     have hrd:=hL.cls.2
     rw [hall 6 (by decide)] at hrd
     have hrd:=hAe _ hrd
     rw [←hII.out] at hi3
     rw [hset.out] at hb3
     have hob3:ObjB w1 gO { nObj k with tree:=I.1,pars:=acc++[J.1] } (.slice none 0 0) v3:=⟨hb3,hotr,hota⟩
     rw [←hxs.out,←hn'.out,←hBB.out,hrow.out] at ho3
     have hown3:OwnIds w1 w.heap.size v3 (acc++[J.1]):=by unfold OwnIds;rw [List.length_append];exact ho3
     have hl3:(acc++[J.1]).length≤j+1:=by rw [List.length_append];simp only [List.length_cons,List.length_nil];omega
     have hlJ:J.2.1.length≤100000:=by omega
     have hpi3:ParI w gO gR { nObj k with tree:=I.1 } J.2 (acc++[J.1]) v3 w1:=⟨hob3,hown3,hrd,hi3⟩
     obtain ⟨vs,rfl,hR⟩:=hL.frame (by kernel_rfl) (zAV (n:=59) (by kernel_rfl)) hall
     clear hL hall hR hF1 hIb hIB hIs hIf hIc hAt hAb hAB hAs hAe hA1 hJb hII hset hrow hxs hn' hBB hm1 hm2 hb3 ho3 hi3 hve hcO hob3 hown3 hrd hSB
     simp only [putAll,Act.put,List.setIfInBounds_toArray,List.set_cons_zero,List.set_cons_succ]
     go_wp2_with (fail)
     go_roundg f
     case rel=>exact ⟨j+1,J.2,acc++[J.1],v3,by go_num,by omega,by omega,hl3,h8',hrel,hlJ,hpi3⟩
     case measure=>exact Nat.lt_succ_self f
 clear hpi0 hn0 hn1 hX hb8 hstart hR2l hbl2 hf1
 obtain ⟨vp,hpi⟩:=hcut
 obtain ⟨hOb,hown,hRb,hfar⟩:=hpi
 go_upto_if 45 with (first
  | ((with_reducible refine (hntc _ hRb).out.mono ?_);rintro e w5 ⟨rfl,hr5,hf5⟩
     have hO5:=hOb.far hf5 hgO
     have hown5:=hf5.own hown (fun k hk=>by have:=(World.ownsRow.lt hown k hk).1;simp;omega)
     have hfar5:=hfar.trans (hf5.mono hS)
     have c1:=hr5.c1
     have fr1:=hr5.f 1
     clear hOb hown hfar hRb hntc hf5))
 have hpi5:ParI w gO gR { nObj k with tree:=I.1 } T.2 X.1 vp w5:=⟨hO5,hown5,hr5,hfar5⟩
 go_cut [] from 45 to 48 (fun wx=>ParI w gO gR { nObj k with tree:=I.1 } R4 X.1 vp wx)
 case first=>
  clear hxc hend
  by_cases h4:4294967295<T.1
  ·have h4i:(4294967295:Int)<(T.1:Int):=by omega
   have e4:Hid (R4=(T.2.1,true)):=by show _=_;rw [←HR4.out,decide_eq_true h4];rfl
   have hown6:OwnIds (w5.setCell ⟨gR,1,none⟩ (.bool true)) w.heap.size vp X.1:=own_set hown5 hltR _
   clear hpi5 HR4
   go_wp2_with (fail)
   go_meet
   case rel=>exact ⟨hO5.far (S:=[some gR]) ((Far.refl _ _).set_ (p:=⟨gR,1,none⟩) (.inl (by simp)) _) hgO,hown6,by rw [e4.out];exact hr5.bad,hfar5.set_ (.inl (by simp)) _⟩
  ·have h4i : ¬ (4294967295:Int)<(T.1:Int):=by omega
   have e4:Hid (R4=T.2):=by show _=_;rw [←HR4.out,decide_eq_false h4];rfl
   clear HR4
   go_wp2_with (fail)
   go_meet
   case rel=>rw [e4.out];exact hpi5
 obtain ⟨hO6,hown6,hr6,hf6⟩:=hcut
 clear hpi5 hO5 hown5 hr5 hfar5 c1 fr1 HR4
 have f36:=hO6.fr 36
 have c36:=hO6.time
 have hO7:=hO6.setTime (T.1%4294967296)
 have hown7:=own_set (p:=⟨gO,36,none⟩) hown6 hltO (.int .u32 (T.1%4294967296:Nat))
 have hr7:=hr6.set_ (p:=⟨gO,36,none⟩) (fun e=>hne e.symm) (.int .u32 (T.1%4294967296:Nat))
 have hf7:=hf6.set_ (p:=⟨gO,36,none⟩) (.inl (by simp)) (.int .u32 (T.1%4294967296:Nat))
 clear hO6 hown6 hr6 hf6
 have hend2:Hid (C0=((⟨k,[],[],I.1,X.1,T.1%4294967296,Y.1,noId,0,[]⟩:ObjL),Y.2)):=hend
 have hcast:((T.1%4294967296:Nat):Int)=(T.1:Int)%4294967296:=by omega
 have e36:Value.int .u32 ((T.1%4294967296:Nat):Int) = .int .u32 ((T.1:Int)%4294967296):=by rw [hcast]
 rw [e36] at hO7 hown7 hr7 hf7
 clear hend hcast e36
 go_wp2_with (first
  | ((with_reducible refine (hxc _ hr7).out.mono ?_);rintro e w8 ⟨rfl,hr8,hf8⟩
     clear f36 c36
     have hO8:=hO7.far hf8 hgO
     have hown8:=hf8.own hown7 (fun k hk=>by have:=(World.ownsRow.lt hown7 k hk).1;simp;omega)
     have hf8:=hf7.trans (hf8.mono hS)
     have f37:=hO8.fr 37
     have c37:=hO8.text
     have hO9:=hO8.setText Y.1
     have hown9:=own_set (p:=⟨gO,37,none⟩) hown8 hltO (.string (B Y.1))
     have hr9:=hr8.set_ (p:=⟨gO,37,none⟩) (fun e=>hne e.symm) (.string (B Y.1))
     have hf9:=hf8.set_ (p:=⟨gO,37,none⟩) (.inl (by simp)) (.string (B Y.1))
     clear hO7 hown7 hr7 hf7 hxc hO8 hown8 hr8 hf8))
 go_end0
 refine ⟨rfl,?_⟩
 rw [hend2.out]
 exact ⟨_,_,⟨hO9,World.ownsRow_nil _ _ _ _,hown9,hr9,hf9⟩⟩
def idG (s:Txt):Txt:=s.take 32++List.replicate (32-s.length) 0
theorem idG_len (s:Txt):(idG s).length=32:=by unfold idG;simp;omega
def gEnt (d:UInt8) (t:Txt):EntL:=⟨(takeN t).1,d.toNat,idG (t.drop (takeN t).2)⟩
def gTree : Nat→Txt→List EntL→List EntL
 | f+1,d::t,acc=>gTree f ((t.drop (takeN t).2).drop 32) (acc++[gEnt d t])
 | _,_,acc=>acc
def gPars : Nat→Txt→List Txt→List Txt×Txt
 | 0,t,acc=>(acc,t)
 | n+1,t,acc=>gPars n (t.drop 32) (acc++[idG t])
def gCommit (t:Txt):ObjL:=
 let a:=t.drop 32
 let b:=a.drop (getN a).2
 let p:=gPars (min (getN a).1 9) b []
 ⟨3,[],[],idG t,p.1,(getN p.2).1%4294967296,(takeN (p.2.drop (getN p.2).2)).1,noId,0,[]⟩
def gTag (t:Txt):ObjL:=⟨4,[],[],noId,[],0,[],idG (t.drop 1),(t.headD 0).toNat,(takeN ((t.drop 1).drop 32)).1⟩
def zeroO : ObjL:=⟨0,[],[],noId,[],0,[],noId,0,[]⟩
def guessB (k:Nat) (t:Txt):ObjL:=if k=1 then ⟨1,t,[],noId,[],0,[],noId,0,[]⟩ else if k=2 then ⟨2,[],gTree 65 t [],noId,[],0,[],noId,0,[]⟩ else if k=3 then gCommit t else if k=4 then gTag t else nObj k
def guessL (c:UInt8) (q:Txt):ObjL:=if (takeN q).2=0 then zeroO else guessB c.toNat (takeN q).1
theorem put_pos (n:Nat):0<(put n).length:=putF_pos 9 n
theorem getN_app (n:Nat) (hn:n≤18446744073709551615) (b:Txt):getN (put n++b)=(n,(put n).length):=by unfold getN;rw [get_put n hn b];rfl
theorem zDF (t b:Txt) (ht:t.length≤18446744073709551615):takeN (textE t++b)=(t,(textE t).length):=by
 have hg:getN (textE t++b)=(t.length,(put t.length).length):=by
  unfold textE
  rw [List.append_assoc,getN_app _ ht]
 have hp:=put_pos t.length
 unfold takeN
 rw [hg]
 simp only
 rw [if_neg]
 ·unfold textE
  rw [List.append_assoc,List.drop_left,List.take_left,List.length_append]
 ·unfold textE
  simp only [List.length_append]
  omega
theorem idG_app (i b:Txt) (hi:i.length=32):idG (i++b)=i:=by
 unfold idG
 rw [show 32-(i++b).length=0 from by simp;omega,←hi,List.take_left]
 simp
theorem drop32 (i b:Txt) (hi:i.length=32):(i++b).drop 32=b:=by rw [←hi,List.drop_left]
theorem gTree_app : ∀ (l:List EntL) (f:Nat) (acc:List EntL),(∀ e∈l,(e.kind=1∨e.kind=2)∧e.id.length=32∧e.name.length≤18446744073709551615)→l.length≤f→gTree f (entsE l) acc=acc++l
 | [],0,acc,_,_=>by simp [gTree]
 | [],f+1,acc,_,_=>by simp [gTree,entsE]
 | e::l,0,acc,_,hf=>by simp at hf
 | e::l,f+1,acc,h,hf=>by
   obtain ⟨h1,h2,h3⟩:=h e (by simp)
   have he:entsE (e::l)=byteK e.kind::(textE e.name++(e.id++entsE l)):=by simp [entsE,entE]
   have ht:=zDF e.name (e.id++entsE l) h3
   rw [he,gTree,gEnt,ht]
   simp only [List.drop_left]
   rw [drop32 e.id _ h2,idG_app e.id _ h2,gTree_app l f _ (fun x hx=>h x (by simp [hx])) (by simp at hf;omega)]
   have:=zDR (k:=e.kind) (by omega) (by omega)
   rw [this]
   simp
theorem gPars_app (b:Txt) : ∀ (l:List Txt) (acc:List Txt),(∀ p∈l,p.length=32)→gPars l.length (l.flatten++b) acc=(acc++l,b)
 | [],acc,_=>by simp [gPars]
 | p::l,acc,h=>by
   have hp:=h p (by simp)
   rw [List.length_cons,gPars,List.flatten_cons,List.append_assoc,idG_app p _ hp,drop32 p _ hp,gPars_app b l _ (fun x hx=>h x (by simp [hx]))]
   simp
theorem guess_enc (o:ObjL) (hm:mayB o=true) (hs:Sound o) (hl:(bodyO o).length≤4096):guessB (byteK o.kind).toNat (bodyO o)=o:=by
 obtain ⟨htr,hta,he,hp,htm⟩:=hs
 have ha:=zCZ hm
 unfold aloneB at ha
 rcases zCB hm with hk | hk | hk | hk
 ·rw [hk] at ha
  simp at ha
  obtain ⟨c1,c2,c3,c4⟩:=zBi ha.1.2
  obtain ⟨t1,t2,t3⟩:=tag_all ha.2
  have e1:=zBm ha.1.1
  have hb:bodyO o=o.data:=by unfold bodyO;rw [if_pos hk]
  rw [hb,hk]
  show guessB 1 _=_
  unfold guessB
  rw [if_pos rfl]
  obtain ⟨kind,data,ents,tree,pars,time,text,target,of_,name⟩:=o
  simp only at *
  subst hk c1 c2 c3 c4 t1 t2 t3 e1
  rfl
 ·have hf:entsB o.ents=true:=by
   unfold mayB at hm
   rw [if_pos hk] at hm
   simp at hm
   exact hm.2
  rw [hk] at ha
  simp at ha
  obtain ⟨c1,c2,c3,c4⟩:=zBi ha.1.2
  obtain ⟨t1,t2,t3⟩:=tag_all ha.2
  have e1:=zBT ha.1.1
  have hb:bodyO o=entsE o.ents:=by unfold bodyO;rw [if_neg (by omega),if_pos hk]
  rw [hb,hk]
  show guessB 2 _=_
  unfold guessB
  rw [if_neg (by omega),if_pos rfl]
  have hfine:=(zDT hf).2
  have:=gTree_app o.ents 65 [] (fun e hx=>⟨(hfine e hx).2,he e hx,by have:=zC6 (hfine e hx).1;omega⟩) (by have:=(zDT hf).1;omega)
  simp only [this,List.nil_append]
  obtain ⟨kind,data,ents,tree,pars,time,text,target,of_,name⟩:=o
  simp only at *
  subst hk c1 c2 c3 c4 t1 t2 t3 e1
  rfl
 ·have hp8:o.pars.length≤8:=by
   unfold mayB at hm
   rw [if_neg (by omega),if_pos hk] at hm
   simp at hm
   exact hm.2
  rw [hk] at ha
  simp at ha
  obtain ⟨t1,t2,t3⟩:=tag_all ha.2
  have e1:=zBT ha.1.1
  have e2:=zBm ha.1.2
  have hb:bodyO o=commitE o:=by unfold bodyO;rw [if_neg (by omega),if_neg (by omega),if_pos hk]
  rw [hb] at hl ⊢
  rw [hk]
  show guessB 3 _=_
  unfold guessB
  rw [if_neg (by omega),if_neg (by omega),if_pos rfl]
  have htx:o.text.length≤18446744073709551615:=by
   unfold commitE textE at hl
   simp only [List.length_append] at hl
   omega
  have hc:commitE o=o.tree++(put o.pars.length++(o.pars.flatten++(put o.time++(textE o.text++[])))):=by unfold commitE;simp
  rw [hc]
  unfold gCommit
  simp only [idG_app o.tree _ htr,drop32 o.tree _ htr,getN_app o.pars.length (by omega),List.drop_left,show min o.pars.length 9=o.pars.length from by omega,gPars_app _ o.pars [] hp,getN_app o.time (by omega),zDF o.text [] htx,List.nil_append]
  rw [Nat.mod_eq_of_lt htm]
  obtain ⟨kind,data,ents,tree,pars,time,text,target,of_,name⟩:=o
  simp only at *
  subst hk t1 t2 t3 e1 e2
  rfl
 ·have hfn:kindB o.of_=true∧nameB o.name=true:=by
   unfold mayB at hm
   rw [if_neg (by omega),if_neg (by omega),if_pos hk] at hm
   simp at hm
   exact ⟨hm.1.2,hm.2⟩
  rw [hk] at ha
  simp at ha
  obtain ⟨c1,c2,c3,c4⟩:=zBi ha.2
  have e1:=zBT ha.1.1
  have e2:=zBm ha.1.2
  have hb:bodyO o=tagE o:=by unfold bodyO;rw [if_neg (by omega),if_neg (by omega),if_neg (by omega),if_pos hk]
  rw [hb,hk]
  show guessB 4 _=_
  unfold guessB
  rw [if_neg (by omega),if_neg (by omega),if_neg (by omega),if_pos rfl]
  have hnl:=zC6 hfn.2
  have hof:1≤o.of_∧o.of_≤4:=by
   have:=hfn.1
   unfold kindB at this
   simp at this
   exact this
  have hc:tagE o=byteK o.of_::(o.target++(textE o.name++[])):=by unfold tagE;simp
  rw [hc]
  unfold gTag
  have hbk:=zDR (k:=o.of_) (by omega) (by omega)
  simp only [List.drop_succ_cons,List.drop_zero,List.headD_cons,idG_app o.target _ hta,drop32 o.target _ hta,zDF o.name [] (by omega),hbk]
  obtain ⟨kind,data,ents,tree,pars,time,text,target,of_,name⟩:=o
  simp only at *
  subst hk c1 c2 c3 c4 e1 e2
  rfl
theorem guess_whole (o:ObjL) (hm:mayB o=true) (hs:Sound o) (hl:(bodyO o).length≤4096):guessL (byteK o.kind) (textE (bodyO o))=o:=by
 have ht:=zDF (bodyO o) [] (by omega)
 rw [List.append_nil] at ht
 unfold guessL
 rw [ht,if_neg (show ¬ (textE (bodyO o)).length=0 from by unfold textE;have:=put_pos (bodyO o).length;rw [List.length_append];omega)]
 exact guess_enc o hm hs hl
theorem gTree_sound : ∀ (f:Nat) (t:Txt) (acc:List EntL),(∀ e∈acc,e.id.length=32) → ∀ e∈gTree f t acc,e.id.length=32
 | 0,t,acc,h=>by rw [gTree];exact h;intro a b c hc;cases hc
 | f+1,[],acc,h=>by rw [gTree];exact h;intro a b c hc hd;cases hd
 | f+1,d::t,acc,h=>by
   rw [gTree]
   refine gTree_sound f _ _ ?_
   intro e he
   rcases List.mem_append.1 he with he | he
   ·exact h e he
   ·obtain rfl:=List.mem_singleton.1 he
    exact idG_len _
theorem zDt : ∀ (n:Nat) (t:Txt) (acc:List Txt),(∀ e∈acc,e.length=32) → ∀ e∈(gPars n t acc).1,e.length=32
 | 0,t,acc,h=>h
 | n+1,t,acc,h=>by
   rw [gPars]
   refine zDt n _ _ ?_
   intro e he
   rcases List.mem_append.1 he with he | he
   ·exact h e he
   ·obtain rfl:=List.mem_singleton.1 he
    exact idG_len _
theorem guess_sound (c:UInt8) (q:Txt):Sound (guessL c q):=by
 unfold guessL guessB
 repeat' split
 ·exact ⟨zAi,zAi,(by intro p hp;cases hp),(by intro p hp;cases hp),by show 0<_;omega⟩
 ·exact ⟨zAi,zAi,(by intro p hp;cases hp),(by intro p hp;cases hp),by show 0<_;omega⟩
 ·exact ⟨zAi,zAi,gTree_sound _ _ _ (by simp),(by intro p hp;cases hp),by show 0<_;omega⟩
 ·exact ⟨idG_len _,zAi,(by intro p hp;cases hp),zDt _ _ _ (by simp),Nat.mod_lt _ (by omega)⟩
 ·exact ⟨zAi,idG_len _,(by intro p hp;cases hp),(by intro p hp;cases hp),by show 0<_;omega⟩
 ·exact ⟨zAi,zAi,(by intro p hp;cases hp),(by intro p hp;cases hp),by show 0<_;omega⟩
theorem dec_same (c:UInt8) (q:Txt):decO (c::q)=if encO (guessL c q)=some (c::q) then some (guessL c q) else none:=by
 split
 ·rename_i h
  have hs:=guess_sound c q
  exact (dec_enc h hs.tree hs.target hs.ents hs.pars hs.time).1
 ·rename_i h
  cases hd:decO (c::q) with
  | none=>rfl
  | some o=>
    exfalso
    apply h
    obtain ⟨h1,hs⟩:=zDg hd
    have hm:=(dec_len hd).2
    have h2:=h1
    unfold encO at h2
    split at h2
    ·rename_i hc
     injection h2 with h2
     have hw:wholeO o=byteK o.kind::textE (bodyO o):=rfl
     rw [hw] at h2 hc
     have hbl:(bodyO o).length≤4096:=by have:=hc.2;unfold textE at this;simp at this;omega
     injection h2 with h3 h4
     have hg:=guess_whole o hm hs hbl
     rw [h3,h4] at hg
     rw [hg]
     exact h1
    ·cases h2
end Go.Proofs.YtbcbmjdmlcldjaaGreatDoor
