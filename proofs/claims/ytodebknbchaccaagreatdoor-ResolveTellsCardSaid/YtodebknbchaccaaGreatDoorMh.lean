/- Texts of this claim, laid together: DocW, Fold, StoB, StoO, DocO, GsE, GsC, GsT, GsD. -/
import Derived.Test.YtodebknbchaccaaGreatDoorMg
import Derived.Great.FillDense
namespace Go.Proofs.YtodebknbchaccaaGreatDoor
open Go.RowKit
section
structure DiL where
 st:StL
 o:ObjL
 ve:Value
 vp:Value
def ditC (e:DiL):List Value:=(u8s e.st.id).toList ++ .string (B e.st.text)::objC e.o e.ve e.vp
structure DitOk (w:World) (e:DiL):Prop where
 dec:decO e.st.text=some e.o
 id:e.st.id.length=32
 ok:ObjOk e.o
 oe:OwnEnts w 0 e.ve e.o.ents
 op:OwnIds w 0 e.vp e.o.pars
theorem DitOk.val {w:World} {e:DiL} (h:DitOk w e):ObjV w e.ve e.vp e.o:=⟨h.ok,SliceAt.of_own (fun x hx=>zBt (h.ok.ents x hx)) h.oe,SliceAt.of_own (fun x hx=>idC_len (h.ok.pars x hx)) h.op⟩
theorem DitOk.below {w w':World} {e:DiL} (h:DitOk w e) (hb:Below w.heap.size w w'):DitOk w' e:=⟨h.dec,h.id,h.ok,zAf h.oe hb,zAf h.op hb⟩
theorem DitOk.forms {w:World} {e:DiL} (h:DitOk w e) : ∃ A1 A2 k1 k2,e.ve = .slice A1 e.o.ents.length k1∧e.vp = .slice A2 e.o.pars.length k2:=by
 obtain ⟨A1,k1,e1,_⟩:=h.val.ents
 obtain ⟨A2,k2,e2,_⟩:=h.val.pars
 exact ⟨A1,A2,k1,k2,e1,e2⟩
theorem zDr {w:World} {e:DiL} (h:DitOk w e):(ditC e).length=105:=by
 unfold ditC
 rw [List.length_append,zAW,h.id,List.length_cons,zAC h.val.ok]
theorem ditC_one {w:World} {e:DiL} (h:DitOk w e) : ∀ u∈ditC e,u.oneCell'=true:=by
 obtain ⟨A1,A2,k1,k2,e1,e2⟩:=h.forms
 intro u hu
 unfold ditC at hu
 rw [e1,e2] at hu
 rcases List.mem_append.1 hu with hu | hu
 ·exact u8v_one e.st.id u (by simpa [u8s] using hu)
 ·rcases List.mem_cons.1 hu with rfl | hu
  ·rfl
  ·have:=Array.all_eq_true_iff_forall_mem.1 (zAz e.o A1 A2 e.o.ents.length k1 e.o.pars.length k2) u (by simpa using hu)
   exact this
def zDit : Value := .agg ((u8s noId).toList ++ .string (B [])::objC zeroO (.slice none 0 0) (.slice none 0 0)).toArray
theorem Tryz.ditTy : SliceTy Tryz.prog 32 98 zDit 105 232:=⟨Tryz.underlying32,info_parts (by kernel_rfl),by kernel_rfl,by omega⟩
theorem szDit : (Tryz.prog.info? 98).map (·.size)=some 105:=by kernel_rfl
section
variable {w:World} {g o:Nat} {e:DiL}
theorem dit_id (h:w.rangeAt g o (ditC e)):w.rangeAt g o (u8s e.st.id).toList:=fun j u hu=>h j u (by
 unfold ditC
 rw [List.getElem?_append_left (List.getElem?_eq_some_iff.1 hu).1]
 exact hu)
theorem dit_rest (h:w.rangeAt g o (ditC e)) (hid:e.st.id.length=32):w.rangeAt g (o+32) (.string (B e.st.text)::objC e.o e.ve e.vp):=fun j u hu=>by
 have:=h (32+j) u (by
  unfold ditC
  rw [List.getElem?_append_right (by rw [zAW,hid];omega),zAW,hid,Nat.add_sub_cancel_left]
  exact hu)
 rwa [←Nat.add_assoc] at this
theorem zCm (h:w.rangeAt g o (ditC e)) (hid:e.st.id.length=32):w.cell? ⟨g,o+32,none⟩=some (.string (B e.st.text)):=by
 have:=dit_rest h hid 0 _ rfl
 rwa [Nat.add_zero] at this
theorem dit_obj (h:w.rangeAt g o (ditC e)) (hid:e.st.id.length=32):w.rangeAt g (o+33) (objC e.o e.ve e.vp):=fun j u hu=>by
 have:=dit_rest h hid (1+j) u (by
  rw [show 1+j=j+1 from by omega,List.getElem?_cons_succ]
  exact hu)
 rwa [show o+32+(1+j)=o+33+j from by omega] at this
theorem dit_kind (h:w.rangeAt g o (ditC e)) (hid:e.st.id.length=32):w.cell? ⟨g,o+33,none⟩=some (.int .i64 e.o.kind):=by
 have:=dit_obj h hid 0 _ rfl
 rwa [Nat.add_zero] at this
end
abbrev OwnDits (w:World) (B:Nat) (v:Value) (l:List DiL):Prop:=w.ownsRow B 98 105 v l.length (rowsOf ditC l)
structure DocSt (w:World) (vm:Value) (es:List DiL):Prop where
 own:OwnDits w 0 vm es
 each : ∀ e∈es,DitOk w e
 ok:StoOk (es.map (·.st))
theorem DocSt.at_ {w:World} {vm:Value} {es:List DiL} (h:DocSt w vm es):SliceAt w 105 ditC vm es:=SliceAt.of_own (fun e he=>zDr (h.each e he)) h.own
theorem DocSt.below {w w':World} {vm:Value} {es:List DiL} (h:DocSt w vm es) (hb:Below w.heap.size w w'):DocSt w' vm es:=⟨zAf h.own hb,fun e he=>(h.each e he).below hb,h.ok⟩
theorem DocSt.few {w:World} {vm:Value} {es:List DiL} (h:DocSt w vm es):es.length≤500000:=by have:=h.ok.few;rwa [List.length_map] at this
def AtR (es:List DiL) (n:Txt) (e:Ending):Prop:=(∃ (k:Nat) (x:DiL),e = .returned (.int .i64 k)∧es[k]?=some x∧getS (es.map (·.st)) n=some x.st)∨(e = .returned (.int .i64 (-1))∧getS (es.map (·.st)) n=none)
theorem getS_drop {s:List StL} {k:Nat} {x:StL} {n:Txt} (hx:s[k]?=some x):getS (s.drop k) n=if x.id=n then some x else getS (s.drop (k+1)) n:=by
 have hlt:=(List.getElem?_eq_some_iff.1 hx).1
 have he:=(List.getElem?_eq_some_iff.1 hx).2
 rw [List.drop_eq_getElem_cons hlt,he]
 unfold getS
 rw [List.find?_cons]
 by_cases h:x.id=n
 ·rw [if_pos h];simp [h]
 ·rw [if_neg h]
  have:(x.id==n)=false:=by simpa using h
  rw [this]
set_option maxRecDepth 100000 in
set_option maxHeartbeats 2000000 in
theorem zBv {w:World} {vm:Value} {es:List DiL} (h:DocSt w vm es) (n:Txt) (hn:n.length=32) :
 Calls Tryz.prog 34 #[.agg #[vm], .agg (u8s n)] w fun e w'=>AtR es n e∧Below w.heap.size w w':=by
 have hfew:=h.few
 have heach:=h.each
 obtain ⟨A,cap,rfl,hcap1,hcap2,hat⟩:=h.at_
 obtain ⟨W1,hW1⟩ : ∃ W1,w.alloc (.cells #[.slice A es.length cap] 34)=W1:=⟨_,rfl⟩
 have s1:Blk W1 w.heap.size 34 #[.slice A es.length cap]:=by rw [←hW1];exact Blk.new _ _ _
 have b1:Below w.heap.size w W1:=by rw [←hW1];exact (Below.refl _ _).alloc (Nat.le_refl _) _
 obtain ⟨W2,hW2⟩ : ∃ W2,W1.alloc (.cells (u8s n) 28)=W2:=⟨_,rfl⟩
 have n2:Blk W2 W1.heap.size 28 (u8s n):=by rw [←hW2];exact Blk.new _ _ _
 have bb2:Below W1.heap.size W1 W2:=by rw [←hW2];exact (Below.refl _ _).alloc (Nat.le_refl _) _
 have s2:=s1.below bb2 s1.lt
 have b2:=bthen b1 b1.size bb2
 have hG0:Hid (getS ((es.map (·.st)).drop 0) n=getS (es.map (·.st)) n):=rfl
 have hsI:(Tryz.prog.info? 28).map (·.size)=some (u8s n).toList.length:=by rw [zAW,hn];exact sz32
 have hag:Value.agg (u8s n) = .agg (u8s n).toList.toArray:=by rw [Array.toArray_toList]
 unfold AtR
 generalize getS (es.map (·.st)) n=G at *
 clear h
 go_enter Tryz.func34,Tryz.ntmps34
 go_wp2
 go_loopw [5] (fun vi wr => ∃ k:Nat,vi = .int .i64 k∧k≤es.length∧Hid (getS ((es.map (·.st)).drop k) n=G)∧Below W2.heap.size W2 wr) (fun vi _=>es.length-(intOf vi).toNat)
 case atStart=>exact ⟨0,rfl,by omega,hG0,Below.refl _ _⟩
 case round=>
  obtain ⟨k,rfl,hk,hrel,hbel⟩:=hrel
  have hbr:=bthen b2 b2.size hbel
  have c0:wr.cell? ⟨w.heap.size,0,none⟩=some (.slice A es.length cap):=(s2.below hbel s2.lt).cell 0
  clear hW1 hW2
  by_cases hlt:k<es.length
  ·have hki:(k:Int)<(es.length:Int):=by omega
   obtain ⟨ga,oa,rfl,hga,hca⟩:=hat (by omega)
   obtain ⟨x,hx⟩ : ∃ x,es[k]?=some x:=⟨_,List.getElem?_eq_getElem hlt⟩
   have hxid:=(heach x (List.mem_of_getElem? hx)).id
   have hxr:=dit_id (hca k x hx)
   have hgd:=getS_drop (n:=n) (show (es.map (·.st))[k]?=some x.st by rw [List.getElem?_map,hx];rfl)
   have hsx:(Tryz.prog.info? 28).map (·.size)=some (u8s x.st.id).toList.length:=by rw [zAW,hxid];exact sz32
   have heq:=fun W=>run_eql_id W x.st.id n hxid hn
   obtain ⟨bo,hbo⟩ : ∃ bo,decide (x.st.id=n)=bo:=⟨_,rfl⟩
   rw [hbo] at heq
   have hbo:=Lib.hid hbo
   have hxh:=Lib.hid hx
   clear hx hca hat heach
   go_wp2
   refine zAg (C:=fun W=>Below W2.heap.size W2 W) (by kernel_rfl) (by kernel_rfl) hbel.drew ?_
   repeat
    first
     | ((with_reducible refine zAs ?_ ?_)
        ·(go_simp;done)
        apply Exists.intro
        refine ⟨fun W hW=>?_,?_⟩
        ·first
          | exact zAA _ _ rfl ga (oa+k*105) rfl (u8s x.st.id).toList _ (zAb hxr hga (bthen b2 b2.size hW)) Tryz.underlying28 rfl hsx rfl
          | exact zAA _ _ rfl W1.heap.size 0 rfl (u8s n).toList _ (zAj (n2.below hW n2.lt)) Tryz.underlying28 rfl hsI rfl
          | (have q0:W.cell? ⟨w.heap.size,0,none⟩=some (.slice (some ⟨ga,oa,none⟩) es.length cap):=(s2.below hW s2.lt).cell 0
             have q1:=heq W
             rw [←Array.toArray_toList (xs:=u8s x.st.id),←Array.toArray_toList (xs:=u8s n)] at q1
             go_simp
             first
              | rfl)
        simp only [Act.put,zA,zB,zC])
     | ((with_reducible refine zAk ?_ ?_)
        ·(first | rfl | (go_simp;done))
        simp only [Act.put,zA,zB,zC])
   with_reducible refine wpQuiet_nil ?_
   intro w5 hW5
   have hb5:=bthen b2 b2.size hW5
   have hgd2:=hrel.out
   rw [←List.map_drop] at hgd hgd2
   rw [hgd2] at hgd
   cases bo
   rotate_left
   ·have hxn:x.st.id=n:=of_decide_eq_true hbo.out
    rw [if_pos hxn] at hgd
    have hgd:Hid (G=some x.st):=hgd
    clear hgd2 hxn hrel hG0
    go_wp2
    go_ret
    exact ⟨.inl ⟨k,x,rfl,hxh.out,hgd.out⟩,hb5⟩
   ·have hxn : ¬ x.st.id=n:=of_decide_eq_false hbo.out
    rw [if_neg hxn] at hgd
    have hgd:Hid (getS ((es.map (·.st)).drop (k+1)) n=G):=by show _=_;exact hgd.symm
    clear hgd2 hxn hrel hG0
    go_wp2
    go_roundw
    case rel=>exact ⟨k+1,by go_num,by omega,hgd,hW5⟩
    case measure=>simp [intOf];omega
  ·have hki : ¬ (k:Int)<(es.length:Int):=by omega
   have hGn:Hid (G=none):=by
    show _=_
    rw [←hrel.out,List.drop_eq_nil_of_le (by rw [List.length_map];omega)]
    rfl
   clear hrel hG0 hat
   go_wp2
   go_ret
   exact ⟨.inr ⟨rfl,hGn.out⟩,hbr⟩
end
theorem fold_mid (q:Nat) (c0:Array Value) (pre l post:List Value) (hq:pre.length=q) (hsz:c0.size=q+l.length+post.length) (hp : ∀ i,i<q→c0[i]?=pre[i]?) (ht : ∀ i,c0[q+l.length+i]?=post[i]?) :
 (l.zipIdx 0).foldl (fun cs (x:Value×Nat)=>cs.setIfInBounds (q+x.2) x.1) c0=(pre++(l++post)).toArray:=by
 obtain ⟨h1,h2⟩:=Great.foldl_set q l 0 c0
 apply Array.ext_getElem?
 intro k
 rw [h2 k]
 by_cases hk:k<q
 ·rw [if_neg (by omega),hp k hk]
  simp [List.getElem?_append_left (show k<pre.length by omega)]
 ·by_cases hk2:k<q+l.length
  ·rw [if_pos ⟨by omega,by omega,by omega⟩]
   simp [List.getElem?_append_right (show pre.length≤k by omega),hq,List.getElem?_append_left (show k-q<l.length by omega)]
  ·rw [if_neg (by omega)]
   have:=ht (k-(q+l.length))
   rw [show q+l.length+(k-(q+l.length))=k from by omega] at this
   rw [this]
   simp [List.getElem?_append_right (show pre.length≤k by omega),hq,List.getElem?_append_right (show l.length≤k-q by omega),show k-q-l.length=k-(q+l.length) from by omega]
section
set_option maxRecDepth 100000 in
theorem built_stit (x:StL) (hid:x.id.length=32):Tryz.prog.built 165 [(0, .agg (u8s x.id)),(1, .string (B x.text))]=some (stitC x).toArray:=by
 obtain ⟨it,hi,hz,hs,hb⟩:=Tryz.stitTy.hi
 have hpl:(match Tryz.prog.underlying 165 with | some (.struct fields)=>fields.toList.mapM (fun f=>(Tryz.prog.info? f.type).map fun i=>(f.offset,i.size)) | _=>none)=some [(0,32),(32,1)]:=by kernel_rfl
 have hu:=Tryz.underlying165
 rw [hu] at hpl
 unfold Program.built
 rw [hi,hu]
 simp only [hz]
 simp only at hpl
 rw [hpl]
 have e0:(Value.agg (u8s x.id)).cells=u8s x.id:=rfl
 have e1:(Value.string (B x.text)).cells = #[.string (B x.text)]:=rfl
 have f1 : ∀ c:Array Value,Array.foldl (fun cs (x:Value×Nat)=>cs.setIfInBounds (32+x.snd) x.fst) c (#[.string (B x.text)]:Array Value).zipIdx=c.setIfInBounds 32 (.string (B x.text)):=fun c=>rfl
 have f0 : ∀ c:Array Value,Array.foldl (fun cs (x:Value×Nat)=>cs.setIfInBounds (0+x.snd) x.fst) c (u8s x.id).zipIdx=(x.id.map u8v).zipIdx.foldl (fun cs (x:Value×Nat)=>cs.setIfInBounds (0+x.snd) x.fst) c:=fun c=>by
  rw [←Array.foldl_toList,Array.toList_zipIdx]
  rfl
 have g0:(#[(0,32),(32,1)]:Array (Nat×Nat))[0]?=some (0,32):=rfl
 have g1:(#[(0,32),(32,1)]:Array (Nat×Nat))[1]?=some (32,1):=rfl
 obtain ⟨Z,hZ⟩ : ∃ Z,Z=zStit.cells:=⟨_,rfl⟩
 have hZl:Z.size=33:=by rw [hZ];rfl
 have hZ32:Z[32]?=some (.string (B [])):=by rw [hZ];rfl
 have hfin:(x.id.map u8v).zipIdx.foldl (fun cs (x:Value×Nat)=>cs.setIfInBounds (0+x.snd) x.fst) Z=([]++(x.id.map u8v++[Value.string (B [])])).toArray:=by
  refine fold_mid 0 _ [] (x.id.map u8v) [Value.string (B [])] rfl (by rw [hZl,List.length_map,hid];rfl) (fun i hi=>absurd hi (by omega)) (fun i=>?_)
  rw [List.length_map,hid]
  match i with
  | 0=>exact hZ32
  | n+1=>rw [Array.getElem?_eq_none (by omega)];rfl
 simp only [Instr.fill,g0,g1,e0,e1]
 rw [←hZ,f0,if_neg (by simp [zAh,hid,hZl]),hfin,f1,if_neg (by simp [hid])]
 congr 1
 unfold stitC
 rw [show (u8s x.id).toList=x.id.map u8v from by simp [u8s]]
 simp only [List.setIfInBounds_toArray,List.nil_append]
 rw [List.set_append_right _ _ (by rw [List.length_map,hid];omega),List.length_map,hid]
 rfl
def StPutR (V:Nat→Value) (w0:World) (base:Nat) (vl:Value) (x:StL) (s':List StL) (i:Nat) (v:Value) (W:World):Prop:=
 if i=9 then (∃ b,v = .slice (some ⟨b,0,none⟩) 1 1∧Blk W b 165 (stitC x).toArray∧w0.heap.size≤b)
 else if i=10 then zAS W base v s'∧Newer w0 vl v
 else v=V i
structure StPutC (w0:World) (base p:Nat) (vl:Value) (s':List StL) (listed:Array Bool) (W:World):Prop where
 a_:listed.getD 10 false=false→Below w0.heap.size w0 W
 b_:listed.getD 10 false=true→listed.getD 13 false=false→Far [vl.ownBlock] w0 W
 c_:listed.getD 13 false=true → ∃ v',Blk W p 159 #[v']∧zAS W base v' s'∧Newer w0 vl v'∧Far [some p,vl.ownBlock] w0 W
 sz:w0.heap.size≤W.heap.size
section
variable {V:Nat→Value} {w0 w w':World} {base p:Nat} {vl:Value} {x:StL} {s':List StL} {i:Nat} {v:Value} {listed:Array Bool}
theorem StPutR.at_ (h:StPutR V w0 base vl x s' i v w) (hi:i≠9∧i≠10):v=V i:=by unfold StPutR at h;rwa [if_neg hi.1,if_neg hi.2] at h
theorem StPutR.mk (hi:i≠9∧i≠10) (h:v=V i):StPutR V w0 base vl x s' i v w:=by unfold StPutR;rwa [if_neg hi.1,if_neg hi.2]
theorem StPutR.lit {b:Nat} (h:Blk w b 165 (stitC x).toArray) (hb:w0.heap.size≤b):StPutR V w0 base vl x s' 9 (.slice (some ⟨b,0,none⟩) 1 1) w:=by unfold StPutR;rw [if_pos rfl];exact ⟨b,rfl,h,hb⟩
theorem StPutR.litAt (h:StPutR V w0 base vl x s' 9 v w) : ∃ b,v = .slice (some ⟨b,0,none⟩) 1 1∧Blk w b 165 (stitC x).toArray∧w0.heap.size≤b:=by unfold StPutR at h;rwa [if_pos rfl] at h
theorem StPutR.ins (h:zAS w base v s') (hn:Newer w0 vl v):StPutR V w0 base vl x s' 10 v w:=by unfold StPutR;rw [if_neg (by omega),if_pos rfl];exact ⟨h,hn⟩
theorem StPutR.insAt (h:StPutR V w0 base vl x s' 10 v w):zAS w base v s'∧Newer w0 vl v:=by unfold StPutR at h;rwa [if_neg (by omega),if_pos rfl] at h
theorem StPutR.far {S:List (Option Nat)} (h:StPutR V w0 base vl x s' i v w) (hf:Far S w w') (h9 : ∀ b,w0.heap.size≤b→b<w.heap.size→some b ∉ S) (h10:i=10 → ∀ k,v.ownBlock=some k→some k ∉ S):StPutR V w0 base vl x s' i v w':=by
 by_cases e:i=9
 ·subst e
  obtain ⟨b,rfl,h1,h2⟩:=h.litAt
  exact .lit (hf.blk h1 (h9 b h2 h1.lt)) h2
 ·by_cases e2:i=10
  ·subst e2
   obtain ⟨h1,h2⟩:=h.insAt
   exact .ins (hf.own h1 (h10 rfl)) h2
  ·exact .mk ⟨e,e2⟩ (h.at_ ⟨e,e2⟩)
theorem StPutC.same (h:StPutC w0 base p vl s' listed w) (hi:i<listed.size) (hne:i≠10∧i≠13):StPutC w0 base p vl s' (listed.setIfInBounds i true) w:=by
 have e1:(listed.setIfInBounds i true).getD 10 false=listed.getD 10 false:=by rw [zA1 hi,if_neg (fun e=>hne.1 e.symm)]
 have e2:(listed.setIfInBounds i true).getD 13 false=listed.getD 13 false:=by rw [zA1 hi,if_neg (fun e=>hne.2 e.symm)]
 exact ⟨by rw [e1];exact h.a_,by rw [e1,e2];exact h.b_,by rw [e2];exact h.c_,h.sz⟩
theorem StPutC.drew (h:StPutC w0 base p vl s' listed w):StPutC w0 base p vl s' listed w.drew:=⟨fun e=>(h.a_ e).drew,fun e1 e2=>(h.b_ e1 e2).drew,fun e=>by
 obtain ⟨v',h1,h2,h3,h4⟩:=h.c_ e
 exact ⟨v',h1,h2,h3,h4.drew⟩,h.sz⟩
theorem StPutC.start (w:World):StPutC w base p vl s' (Array.replicate 14 false) w:=⟨fun _=>Below.refl _ _,fun h=>by simp at h,fun h=>by simp at h,Nat.le_refl _⟩
end
end
section
def kindS (s:List StL) (n:Txt):Int:=match getS s n with
 | some x=>match decO x.text with | some o=>o.kind | none=>0
 | none=>0
theorem dec_kind {t:Txt} {o:ObjL} (h:decO t=some o) : ∃ c q,t=c::q∧o.kind=(c.toNat:Int):=by
 unfold decO at h
 match t,h with
 | c::q,h=>
   simp only at h
   split at h
   ·cases h
   ·split at h
    ·cases h
    ·split at h
     ·cases h
     ·split at h
      ·cases h
      ·injection h with h
       exact ⟨c,q,rfl,by rw [←h,zCN]⟩
section
variable {w w':World} {base p:Nat} {vl:Value} {s:List StL}
theorem boxId (w:World) (n:Txt) (hn:n.length=32) : ∃ W1,w.alloc (.cells (u8s n) 28)=W1∧Below w.heap.size w W1∧Blk W1 w.heap.size 28 (u8s n) ∧ ∀ W,Below W1.heap.size W1 W→(ldvI ⟨w.heap.size,0,none⟩).run Tryz.prog W = .ok (.agg (u8s n)) W:=by
 have n1:Blk (w.alloc (.cells (u8s n) 28)) w.heap.size 28 (u8s n):=Blk.new _ _ _
 refine ⟨_,rfl,(Below.refl _ _).alloc (Nat.le_refl _) _,n1,fun W hW=>?_⟩
 have hsI:(Tryz.prog.info? 28).map (·.size)=some (u8s n).toList.length:=by rw [zAW,hn];exact sz32
 have:=run_loadVar_mid (P:=Tryz.prog) W w.heap.size 0 28 (u8s n).toList _ (zAj (n1.below hW n1.lt)) Tryz.underlying28 rfl hsI
 rwa [Array.toArray_toList] at this
attribute [local go_sem ↓] ldvI_eq ldvO_eq
attribute [local go_sem ↓] ldvStit_eq
end
attribute [local go_sem ↓] ldvI_eq ldvO_eq
end
section
attribute [local go_sem ↓] ldvI_eq ldvO_eq
theorem boxSt {w:World} (vm:Value) (n:Txt) (hn:n.length=32) : ∃ W1 W2,w.alloc (.cells #[vm] 34)=W1∧W1.alloc (.cells (u8s n) 28)=W2∧Below w.heap.size w W2∧w.heap.size<W1.heap.size∧W1.heap.size<W2.heap.size ∧
 ∀ W,Below W2.heap.size W2 W→W.cell? ⟨w.heap.size,0,none⟩=some vm∧W.heap[w.heap.size]?=some (.cells #[vm] 34 (0,0))∧(ldvI ⟨W1.heap.size,0,none⟩).run Tryz.prog W = .ok (.agg (u8s n)) W:=by
 obtain ⟨W1,hW1⟩ : ∃ W1,w.alloc (.cells #[vm] 34)=W1:=⟨_,rfl⟩
 have s1:Blk W1 w.heap.size 34 #[vm]:=by rw [←hW1];exact Blk.new _ _ _
 have b1:Below w.heap.size w W1:=by rw [←hW1];exact (Below.refl _ _).alloc (Nat.le_refl _) _
 obtain ⟨W2,hW2,bb2,n2,ld⟩:=boxId W1 n hn
 refine ⟨W1,W2,hW1,hW2,bthen b1 b1.size bb2,s1.lt,n2.lt,fun W hW=>⟨?_,?_,ld W hW⟩⟩
 ·exact ((s1.below bb2 s1.lt).below hW (Nat.lt_of_lt_of_le s1.lt bb2.size)).cell 0
 ·exact (s1.below bb2 s1.lt).below hW (Nat.lt_of_lt_of_le s1.lt bb2.size)
theorem szDSt : (Tryz.prog.info? 34).map (·.size)=some 1:=by kernel_rfl
def ldvS (p:Addr):Sem Value:=loadVar 34 p
theorem ldvS_eq (p:Addr):loadVar 34 p=ldvS p:=rfl
attribute [local go_sem ↓] ldvS_eq
theorem zAF {w:World} {g:Nat} {vm:Value} (h:w.heap[g]?=some (.cells #[vm] 34 (0,0))):(ldvS ⟨g,0,none⟩).run Tryz.prog w = .ok (.agg #[vm]) w:=
 run_loadVar_row w g _ _ _ _ _ h Tryz.underlying34 rfl szDSt
section
variable {w:World} {vm:Value} {es:List DiL}
set_option maxRecDepth 100000 in
set_option maxHeartbeats 1000000 in
theorem zCj (h:DocSt w vm es) (n:Txt) (hn:n.length=32) :
 Calls Tryz.prog 93 #[.agg #[vm], .agg (u8s n)] w fun e w'=>e = .returned (.int .i64 (kindS (es.map (·.st)) n))∧Below w.heap.size w w':=by
 obtain ⟨W1,W2,hW1,hW2,b2,hl1,hl2,hf⟩:=boxSt (w:=w) vm n hn
 obtain ⟨c2,r2,q2⟩:=hf W2 (Below.refl _ _)
 have l2:=zAF r2
 have ha:=zBv (h.below b2) n hn
 unfold AtR at ha
 obtain ⟨r,hr⟩ : ∃ r,Hid (kindS (es.map (·.st)) n=r):=⟨_,Lib.hid rfl⟩
 rw [hr.out]
 have hrv:=hr.out
 unfold kindS at hrv
 clear hr
 have heach:=h.each
 have hfew:=h.few
 obtain ⟨A,cap,rfl,hcap1,hcap2,hat⟩:=h.at_
 generalize u8s n=NC at *
 cases hG:getS (es.map (·.st)) n with
 | none=>
   rw [hG] at ha
   have ha:Calls Tryz.prog 34 #[.agg #[.slice A es.length cap], .agg NC] W2 fun e w'=>e = .returned (.int .i64 (-1))∧Below W2.heap.size W2 w':=ha.mono fun e w' ⟨h1,h2⟩=>by
    rcases h1 with ⟨k,x,_,_,hx⟩ | ⟨he,_⟩
    ·cases hx
    ·exact ⟨he,h2⟩
   have ha:=Lib.hid ha
   rw [hG] at hrv
   have hrv:Hid (r=0):=hrv.symm
   clear hG hf h heach hat
   go_enter Tryz.func93,Tryz.ntmps93
   go_wp2_with (first
    | ((with_reducible refine ha.out.mono ?_);rintro e w3 ⟨rfl,hb3⟩))
   go_ret
   exact ⟨by rw [hrv.out];rfl,bthen b2 b2.size hb3⟩
 | some y=>
   rw [hG] at ha
   have ha:Calls Tryz.prog 34 #[.agg #[.slice A es.length cap], .agg NC] W2 fun e w'=>(∃ (k:Nat) (x:DiL),e = .returned (.int .i64 k)∧es[k]?=some x∧y=x.st)∧Below W2.heap.size W2 w':=ha.mono fun e w' ⟨h1,h2⟩=>by
    rcases h1 with ⟨k,x,he,hx0,hx⟩ | ⟨_,hx⟩
    ·exact ⟨⟨k,x,he,hx0,by injection hx⟩,h2⟩
    ·cases hx
   have ha:=Lib.hid ha
   rw [hG] at hrv
   simp only at hrv
   have hrv:Hid (∀ o,decO y.text=some o→r=o.kind):=fun o ho=>by rw [ho] at hrv;exact hrv.symm
   clear hG h
   go_enter Tryz.func93,Tryz.ntmps93
   go_wp2_with (first
    | ((with_reducible refine ha.out.mono ?_);rintro e w3 ⟨⟨k,x,rfl,hx,rfl⟩,hb3⟩
       have hlt:=(List.getElem?_eq_some_iff.1 hx).1
       have hk0 : ¬ (k:Int)<0:=by omega
       have hki:(k:Int)<(es.length:Int):=by omega
       obtain ⟨ga,oa,rfl,hga,hca⟩:=hat (by omega)
       have hd:=heach x (List.mem_of_getElem? hx)
       have b3:=bthen b2 b2.size hb3
       have k3:=dit_kind (zAb (hca k x hx) hga b3) hd.id
       have c3:=(hf w3 hb3).1
       have hdx:=Lib.hid hd.dec
       clear hx hca hat heach hd hf))
   all_goals try (exfalso;omega)
   go_ret
   exact ⟨by rw [hrv.out _ hdx.out];rfl,b3⟩
def ObjG (s:List StL) (n:Txt) (w':World) (e:Ending):Prop:=match getS s n with
 | some x => ∃ o A1 A2 k1 k2,decO x.text=some o∧e = .returned (.agg (objC o (.slice A1 o.ents.length k1) (.slice A2 o.pars.length k2)).toArray)∧ObjV w' (.slice A1 o.ents.length k1) (.slice A2 o.pars.length k2) o
 | none=>e = .returned (.agg zObj)
theorem ObjG.below {s:List StL} {n:Txt} {w w':World} {e:Ending} (h:ObjG s n w e) (hb:Below w.heap.size w w'):ObjG s n w' e:=by
 unfold ObjG at h ⊢
 cases hG:getS s n with
 | none=>rw [hG] at h;exact h
 | some x=>
   rw [hG] at h
   obtain ⟨o,A1,A2,k1,k2,h1,h2,h3⟩:=h
   exact ⟨o,A1,A2,k1,k2,h1,h2,h3.below hb⟩
end
end
section
attribute [local go_sem ↓] ldvO_eq
theorem fold_at (q:Nat) (c0:Array Value) (pre:List Value) (l:List Value) (hq:pre.length=q) (h0:c0.size=q+l.length) (hp : ∀ i,i<q→c0[i]?=pre[i]?) :
 (l.zipIdx 0).foldl (fun cs (x:Value×Nat)=>cs.setIfInBounds (q+x.2) x.1) c0=(pre++l).toArray:=by
 obtain ⟨h1,h2⟩:=Great.foldl_set q l 0 c0
 apply Array.ext_getElem?
 intro k
 rw [h2 k]
 by_cases hk:k<q
 ·rw [if_neg (by omega),hp k hk]
  simp [List.getElem?_append_left (show k<pre.length by omega)]
 ·by_cases hk2:k<q+l.length
  ·rw [if_pos ⟨by omega,by omega,by omega⟩]
   simp [List.getElem?_append_right (show pre.length≤k by omega),hq]
  ·rw [if_neg (by omega),Array.getElem?_eq_none (by omega)]
   symm
   rw [Array.getElem?_eq_none (by simp;omega)]
theorem zEnt_cells : zEnt.cells.size=34:=rfl
set_option maxRecDepth 100000 in
theorem built_entry (n:Txt) (k:Int) (id:Txt) (hid:id.length=32):Tryz.prog.built 181 [(1, .int .i64 k),(0, .string (B n)),(2, .agg (u8s id))]=some (entC ⟨n,k,id⟩).toArray:=by
 obtain ⟨it,hi,hz,hs,hb⟩:=Tryz.entTy.hi
 have hpl:(match Tryz.prog.underlying 181 with | some (.struct fields)=>fields.toList.mapM (fun f=>(Tryz.prog.info? f.type).map fun i=>(f.offset,i.size)) | _=>none)=some [(0,1),(1,1),(2,32)]:=by kernel_rfl
 have hu:=Tryz.underlying181
 rw [hu] at hpl
 unfold Program.built
 rw [hi,hu]
 simp only [hz]
 simp only at hpl
 rw [hpl]
 have h34:=zEnt_cells
 have e0:(Value.string (B n)).cells = #[.string (B n)]:=rfl
 have e1:(Value.int .i64 k).cells = #[.int .i64 k]:=rfl
 have e2:(Value.agg (u8s id)).cells=u8s id:=rfl
 have f0 : ∀ c:Array Value,Array.foldl (fun cs (x:Value×Nat)=>cs.setIfInBounds (0+x.snd) x.fst) c (#[.string (B n)]:Array Value).zipIdx=c.setIfInBounds 0 (.string (B n)):=fun c=>rfl
 have f1 : ∀ c:Array Value,Array.foldl (fun cs (x:Value×Nat)=>cs.setIfInBounds (1+x.snd) x.fst) c (#[.int .i64 k]:Array Value).zipIdx=c.setIfInBounds 1 (.int .i64 k):=fun c=>rfl
 have f2 : ∀ c:Array Value,Array.foldl (fun cs (x:Value×Nat)=>cs.setIfInBounds (2+x.snd) x.fst) c (u8s id).zipIdx=(id.map u8v).zipIdx.foldl (fun cs (x:Value×Nat)=>cs.setIfInBounds (2+x.snd) x.fst) c:=fun c=>by
  rw [←Array.foldl_toList,Array.toList_zipIdx]
  rfl
 have g0:(#[(0,1),(1,1),(2,32)]:Array (Nat×Nat))[0]?=some (0,1):=rfl
 have g1:(#[(0,1),(1,1),(2,32)]:Array (Nat×Nat))[1]?=some (1,1):=rfl
 have g2:(#[(0,1),(1,1),(2,32)]:Array (Nat×Nat))[2]?=some (2,32):=rfl
 have hfin:(id.map u8v).zipIdx.foldl (fun cs (x:Value×Nat)=>cs.setIfInBounds (2+x.snd) x.fst) ((zEnt.cells.setIfInBounds 1 (.int .i64 k)).setIfInBounds 0 (.string (B n)))=(entC ⟨n,k,id⟩).toArray:=by
  rw [fold_at 2 _ [.string (B n), .int .i64 k] (id.map u8v) rfl (by rw [Array.size_setIfInBounds,Array.size_setIfInBounds,h34,List.length_map,hid]) (fun i hi=>by
   rw [Array.getElem?_setIfInBounds,Array.getElem?_setIfInBounds]
   match i,hi with
   | 0,_=>simp [h34]
   | 1,_=>simp [h34])]
  unfold entC
  rw [show (u8s id).toList=id.map u8v from by simp [u8s]]
  rfl
 simp only [Instr.fill,g0,g1,g2,e0,e1,e2]
 rw [f1,if_neg (by simp [h34]),f0,if_neg (by simp [h34]),f2,if_neg (by simp [zAh,hid,h34]),hfin]
theorem zA2 (s:Txt):(takeN s).2≤s.length∧(takeN s).1.length≤s.length:=by
 by_cases h:(getN s).2=0
 ·rw [takeN_zero h];simp
 ·by_cases h2:s.length-(getN s).2<(getN s).1
  ·rw [takeN_short h h2];simp
  ·rw [takeN_yes h (by omega)]
   have:=getN_le s
   simp
   omega
structure GsI (w:World) (W:World):Prop where
 z:Blk W w.heap.size 74 zObj
 bel:Below w.heap.size w W
theorem GsI.below {w W W':World} (h:GsI w W) (hb:Below W.heap.size W W'):GsI w W':=⟨h.z.below hb h.z.lt,bthen h.bel h.bel.size hb⟩
theorem GsI.low {w W W':World} {B0:Nat} (h:GsI w W) (hB:w.heap.size<B0) (hb:Below B0 W W'):GsI w W':=⟨(hb.block _ hB).trans h.z,h.bel.trans (hb.mono (Nat.le_of_lt hB))⟩
theorem GsI.set_ {w W:World} (h:GsI w W) {g o:Nat} (hg:w.heap.size<g) (v:Value):GsI w (W.setCell ⟨g,o,none⟩ v):=⟨h.z.far (by simp;omega) v,h.bel.setCell (Nat.le_of_lt hg) v⟩
theorem GsI.cells_ {w W:World} (h:GsI w W) {g o:Nat} (hg:w.heap.size<g) (vs:List Value):GsI w (W.setCells g o vs):=
 ⟨(Far.cells (S:=[some g]) (g:=g) (.inl (by simp)) vs o W (Far.refl _ W)).blk h.z (by simp;omega),h.bel.trans ((Far.cells (S:=[some g]) (g:=g) (.inl (by simp)) vs o W (Far.refl _ W)).below h.bel.size (fun k hk=>by simp at hk;omega))⟩
def GsR (o:ObjL) (w:World) (e:Ending) (w':World):Prop:=(∃ A1 A2 k1 k2,e = .returned (.agg (objC o (.slice A1 o.ents.length k1) (.slice A2 o.pars.length k2)).toArray)∧ObjV w' (.slice A1 o.ents.length k1) (.slice A2 o.pars.length k2) o∧OwnEnts w' w.heap.size (.slice A1 o.ents.length k1) o.ents∧OwnIds w' w.heap.size (.slice A2 o.pars.length k2) o.pars)∧Below w.heap.size w w'
theorem GsR.of {w W:World} {B0:Nat} {o:ObjL} {ve vp:Value} (ho:ObjOk o) (hz:GsI w W) (he:OwnEnts W B0 ve o.ents) (hp:OwnIds W B0 vp o.pars) (hB:w.heap.size<B0) :
 GsR o w (.returned (.agg (objC o ve vp).toArray)) (W.setRow w.heap.size (objC o ve vp).toArray):=by
 have hv:=zCC ho he hp hB (objC o ve vp).toArray
 obtain ⟨A1,k1,e1,_⟩:=hv.ents
 obtain ⟨A2,k2,e2,_⟩:=hv.pars
 subst e1 e2
 exact ⟨⟨A1,A2,k1,k2,rfl,hv,zAE (own_row he hB _) (Nat.le_of_lt hB),zAE (own_row hp hB _) (Nat.le_of_lt hB)⟩,zAa hz.bel (Nat.le_refl _) _⟩
theorem zero_smallG : Small zeroO:=⟨by decide,by simp [zeroO],by decide,by decide,by decide,by decide⟩
theorem zero_okG (w:World):ObjV w (.slice none 0 0) (.slice none 0 0) zeroO:=⟨⟨zAc,zAc,by simp [zeroO],by simp [zeroO],by decide,by decide,by decide,by decide,by decide,by decide,by decide,by decide⟩,SliceAt.nil,SliceAt.nil⟩
theorem zBN (o:ObjL) {ve vp:Value} {W:World} {B0:Nat} (he:OwnEnts W B0 ve o.ents) (hp:OwnIds W B0 vp o.pars):(objC o ve vp).toArray.all (·.oneCell')=true:=by
 obtain ⟨A1,k1,rfl⟩:=zAm he
 obtain ⟨A2,k2,rfl⟩:=zAm hp
 exact zAz o A1 A2 _ k1 _ k2
end
section
attribute [local go_sem ↓] ldvO_eq
theorem ObjB.drewN {w:World} {g:Nat} {o:ObjL} {ve vp:Value} (h:ObjB w g o ve vp) (n:Nat):ObjB (w.drewN n) g o ve vp:=⟨h.blk.drewN n,h.tr,h.ta⟩
theorem GsI.drewN {w W:World} (h:GsI w W) (n:Nat):GsI w (W.drewN n):=⟨h.z.drewN n,bdrewN h.bel n⟩
theorem plainO_ok (n:Int) (hn:0≤n) (hn2:n<256) (t:Txt) (ht:t.length≤5000):ObjOk ⟨n,t,[],noId,[],0,[],noId,0,[]⟩:=
 ⟨zAc,zAc,(fun _ h=>by cases h),(fun _ h=>by cases h),by show t.length≤_;omega,by simp,by simp,by simp,by show _≤n;omega,by show n≤_;omega,by simp,by simp⟩
theorem tagO_ok (i:Txt) (hi:i.length=32) (n:Int) (hn:0≤n) (hn2:n<256) (t:Txt) (ht:t.length≤5000):ObjOk ⟨4,[],[],noId,[],0,[],i,n,t⟩:=
 ⟨zAc,hi,(fun _ h=>by cases h),(fun _ h=>by cases h),by simp,by simp,by show t.length≤_;omega,by simp,by simp,by simp,by show _≤n;omega,by show n≤_;omega⟩
set_option maxRecDepth 100000 in
set_option maxHeartbeats 4000000 in
theorem guess_blob (c:UInt8) (q:Txt) (hl:q.length≤5000) (hk:c.toNat=1) (hn0 : ¬ (takeN q).2=0) (w:World):Calls Tryz.prog 55 #[.string (B (c::q))] w fun e w'=>GsR ⟨1,(takeN q).1,[],noId,[],0,[],noId,0,[]⟩ w e w':=by
 have HK:=Lib.hid hk
 clear hk
 have hzv:=zeroObj
 have hzl:zObj.size=72:=zAu
 have htl:(takeN q).1.length≤q.length:=(zA2 q).2
 have htk : ∀ W,Calls Tryz.prog 83 #[.string (B q)] W fun e w'=>e = .returned (.tuple #[.string (B (takeN q).1), .int .i64 (takeN q).2])∧W=w':=fun W=>(zAI q (by omega) W).mono fun _ _ h=>⟨h.1,h.2.symm⟩
 generalize (takeN q).1=t at *
 generalize (takeN q).2=kn at *
 have hki:((kn:Int)==0)=false:=by simp;omega
 have hex:(B (c::q)).extract 1 (q.length+1)=B q:=by
  rw [zAR]
  simp
 obtain ⟨W1,hW1⟩ : ∃ W1,w.alloc (.cells zObj 74)=W1:=⟨_,rfl⟩
 have hx1:Blk W1 w.heap.size 74 zObj:=by rw [←hW1];exact Blk.new _ _ _
 have b1:Below w.heap.size w W1:=by rw [←hW1];exact (Below.refl _ _).alloc (Nat.le_refl _) _
 have hs1:w.heap.size<W1.heap.size:=by rw [←hW1];simp
 have htk:=Lib.hid htk
 have hc0:0≤(c.toNat:Int):=by omega
 have hc1:(c.toNat:Int)<256:=by have:=c.toNat_lt;omega
 have hbd:=zBp (c.toNat:Int)
 have e72:(objC ⟨c.toNat,[],[],noId,[],0,[],noId,0,[]⟩ (.slice none 0 0) (.slice none 0 0)).toArray.size=72:=by rw [List.size_toArray];unfold objC;simp only [List.length_cons,List.length_append,u8s_len,zAc,List.length_nil]
 have eone:(objC ⟨c.toNat,[],[],noId,[],0,[],noId,0,[]⟩ (.slice none 0 0) (.slice none 0 0)).toArray.all (·.oneCell')=true:=by kernel_rfl
 obtain ⟨X,hX⟩ : ∃ X,Hid ((⟨1,t,[],noId,[],0,[],noId,0,[]⟩:ObjL)=X):=⟨_,Lib.hid rfl⟩
 rw [hX.out]
 go_enter Tryz.func55,Tryz.ntmps55
 go_upto_if 26 with (first
  | ((with_reducible refine zA6 hbd ?_ ?_);rfl)
  | ((with_reducible refine lit_new 74 (.tmp 3) (.tmp 18) (objC ⟨c.toNat,[],[],noId,[],0,[],noId,0,[]⟩ (.slice none 0 0) (.slice none 0 0)).toArray 72 szObj e72 eone _ ?_ ?_ ?_ ?_)
     ·first | exact hzl | rfl
     ·rfl
     ·rfl
     intro W2 hb2 hbl2
     have hO2:ObjB W2 W1.heap.size ⟨c.toNat,[],[],noId,[],0,[],noId,0,[]⟩ (.slice none 0 0) (.slice none 0 0):=⟨hb2,zAc,zAc⟩
     have hI2:GsI w W2:=⟨hx1.below hbl2 hx1.lt,bthen b1 b1.size hbl2⟩
     have hgOB:W1.heap.size<W2.heap.size:=hb2.lt
     have tk2:=htk.out W2
     have tk2:=Lib.hid tk2
     clear hx1 b1 hb2 hbl2)
  | ((with_reducible refine tk2.out.mono ?_);rintro e w3 ⟨rfl,rfl⟩
     clear tk2))
 have ck:=hO2.kind
 simp only at ck
 have hsO:=hs1
 clear hW1 hbd e72 eone hs1
 generalize W1.heap.size=gO at *
 obtain ⟨BB,hBB⟩ : ∃ BB,BB=W2.heap.size:=⟨_,rfl⟩
 rw [←hBB] at hgOB
 have hnE:OwnEnts W2 BB (.slice none 0 0) []:=World.ownsRow_nil _ _ _ _
 have hnP:OwnIds W2 BB (.slice none 0 0) []:=World.ownsRow_nil _ _ _ _
 have hBs:BB≤W2.heap.size:=by omega
 have hwB:w.heap.size<BB:=by omega
 clear hBB
 rw [HK.out] at hO2 ck
 have hki2:(c.toNat:Int)=1:=by rw [HK.out];rfl
 clear hc0 hc1
 have f1:=hO2.fr 1
 have d1:=hO2.data
 have hO3:ObjB _ gO ⟨1,t,[],noId,[],0,[],noId,0,[]⟩ _ _:=hO2.setData t
 have hI3:=hI2.set_ (o:=1) hsO (.string (B t))
 have hnE3:=own_set (p:=⟨gO,1,none⟩) hnE hgOB (.string (B t))
 have hnP3:=own_set (p:=⟨gO,1,none⟩) hnP hgOB (.string (B t))
 have hok:ObjOk (⟨1,t,[],noId,[],0,[],noId,0,[]⟩:ObjL):=plainO_ok 1 (by omega) (by omega) t (by omega)
 have hzF:=hI3.z
 have hfin:=Lib.hid (GsR.of hok hI3 hnE3 hnP3 hwB)
 have hq:=zAU hO3 hok
 have hc72:(objC (⟨1,t,[],noId,[],0,[],noId,0,[]⟩:ObjL) (.slice none 0 0) (.slice none 0 0)).toArray.size=72:=by rw [List.size_toArray,zAC hok]
 have hcone:=zBN (⟨1,t,[],noId,[],0,[],noId,0,[]⟩:ObjL) hnE3 hnP3
 clear hI3 hI2 hO2 hO3 hnE hnP hnE3 hnP3
 generalize hcs:(objC (⟨1,t,[],noId,[],0,[],noId,0,[]⟩:ObjL) (.slice none 0 0) (.slice none 0 0)).toArray=cs at *
 have HC:=Lib.hid hcs
 clear hcs
 have hcsz:(Tryz.prog.info? 74).map (·.size)=some cs.size:=by rw [hc72];exact szObj
 go_wp2_with (first
  | (refine wpList_store_row rfl 74 (.tmp 2) (.tmp 138) rfl w.heap.size cs rfl rfl _ _ hzF hcsz (by rw [hzl,hc72]) hcone ?_))
 exact bodyPost_ret (results_cell_row rfl _ _ w.heap.size _ _ _ _ rfl (setRow_heap _ _ _ _ _ _ hzF) Tryz.underlying74 rfl hcsz) rfl (by rw [←hX.out];exact hfin.out)
set_option maxRecDepth 100000 in
set_option maxHeartbeats 4000000 in
theorem guess_other (c:UInt8) (q:Txt) (hl:q.length≤5000) (hk:c.toNat≠1∧c.toNat≠2∧c.toNat≠3∧c.toNat≠4) (hn0 : ¬ (takeN q).2=0) (w:World):Calls Tryz.prog 55 #[.string (B (c::q))] w fun e w'=>GsR (nObj c.toNat) w e w':=by
 have HK:=Lib.hid hk
 clear hk
 have hzv:=zeroObj
 have hzl:zObj.size=72:=zAu
 have htl:(takeN q).1.length≤q.length:=(zA2 q).2
 have htk : ∀ W,Calls Tryz.prog 83 #[.string (B q)] W fun e w'=>e = .returned (.tuple #[.string (B (takeN q).1), .int .i64 (takeN q).2])∧W=w':=fun W=>(zAI q (by omega) W).mono fun _ _ h=>⟨h.1,h.2.symm⟩
 generalize (takeN q).1=t at *
 generalize (takeN q).2=kn at *
 have hki:((kn:Int)==0)=false:=by simp;omega
 have hex:(B (c::q)).extract 1 (q.length+1)=B q:=by
  rw [zAR]
  simp
 obtain ⟨W1,hW1⟩ : ∃ W1,w.alloc (.cells zObj 74)=W1:=⟨_,rfl⟩
 have hx1:Blk W1 w.heap.size 74 zObj:=by rw [←hW1];exact Blk.new _ _ _
 have b1:Below w.heap.size w W1:=by rw [←hW1];exact (Below.refl _ _).alloc (Nat.le_refl _) _
 have hs1:w.heap.size<W1.heap.size:=by rw [←hW1];simp
 have htk:=Lib.hid htk
 have hc0:0≤(c.toNat:Int):=by omega
 have hc1:(c.toNat:Int)<256:=by have:=c.toNat_lt;omega
 have hbd:=zBp (c.toNat:Int)
 have e72:(objC ⟨c.toNat,[],[],noId,[],0,[],noId,0,[]⟩ (.slice none 0 0) (.slice none 0 0)).toArray.size=72:=by rw [List.size_toArray];unfold objC;simp only [List.length_cons,List.length_append,u8s_len,zAc,List.length_nil]
 have eone:(objC ⟨c.toNat,[],[],noId,[],0,[],noId,0,[]⟩ (.slice none 0 0) (.slice none 0 0)).toArray.all (·.oneCell')=true:=by kernel_rfl
 obtain ⟨X,hX⟩ : ∃ X,Hid (nObj c.toNat=X):=⟨_,Lib.hid rfl⟩
 rw [hX.out]
 go_enter Tryz.func55,Tryz.ntmps55
 go_upto_if 26 with (first
  | ((with_reducible refine zA6 hbd ?_ ?_);rfl)
  | ((with_reducible refine lit_new 74 (.tmp 3) (.tmp 18) (objC ⟨c.toNat,[],[],noId,[],0,[],noId,0,[]⟩ (.slice none 0 0) (.slice none 0 0)).toArray 72 szObj e72 eone _ ?_ ?_ ?_ ?_)
     ·first | exact hzl | rfl
     ·rfl
     ·rfl
     intro W2 hb2 hbl2
     have hO2:ObjB W2 W1.heap.size ⟨c.toNat,[],[],noId,[],0,[],noId,0,[]⟩ (.slice none 0 0) (.slice none 0 0):=⟨hb2,zAc,zAc⟩
     have hI2:GsI w W2:=⟨hx1.below hbl2 hx1.lt,bthen b1 b1.size hbl2⟩
     have hgOB:W1.heap.size<W2.heap.size:=hb2.lt
     have tk2:=htk.out W2
     have tk2:=Lib.hid tk2
     clear hx1 b1 hb2 hbl2)
  | ((with_reducible refine tk2.out.mono ?_);rintro e w3 ⟨rfl,rfl⟩
     clear tk2))
 have ck:=hO2.kind
 simp only at ck
 have hsO:=hs1
 clear hW1 hbd e72 eone hs1
 generalize W1.heap.size=gO at *
 obtain ⟨BB,hBB⟩ : ∃ BB,BB=W2.heap.size:=⟨_,rfl⟩
 rw [←hBB] at hgOB
 have hnE:OwnEnts W2 BB (.slice none 0 0) []:=World.ownsRow_nil _ _ _ _
 have hnP:OwnIds W2 BB (.slice none 0 0) []:=World.ownsRow_nil _ _ _ _
 have hBs:BB≤W2.heap.size:=by omega
 have hwB:w.heap.size<BB:=by omega
 clear hBB
 have k1:((c.toNat:Int)==1)=false:=by have:=HK.out.1;simp;omega
 have k2:((c.toNat:Int)==2)=false:=by have:=HK.out.2.1;simp;omega
 have k3:((c.toNat:Int)==3)=false:=by have:=HK.out.2.2.1;simp;omega
 have k4:((c.toNat:Int)==4)=false:=by have:=HK.out.2.2.2;simp;omega
 have hok:ObjOk (⟨c.toNat,[],[],noId,[],0,[],noId,0,[]⟩:ObjL):=plainO_ok c.toNat hc0 hc1 [] (by simp)
 have hzF:=hI2.z
 have hfin:=Lib.hid (GsR.of hok hI2 hnE hnP hwB)
 have hq:=zAU hO2 hok
 have hc72:(objC (⟨c.toNat,[],[],noId,[],0,[],noId,0,[]⟩:ObjL) (.slice none 0 0) (.slice none 0 0)).toArray.size=72:=by rw [List.size_toArray,zAC hok]
 have hcone:=zBN (⟨c.toNat,[],[],noId,[],0,[],noId,0,[]⟩:ObjL) hnE hnP
 clear hI2 hO2 hnE hnP
 generalize hcs:(objC (⟨c.toNat,[],[],noId,[],0,[],noId,0,[]⟩:ObjL) (.slice none 0 0) (.slice none 0 0)).toArray=cs at *
 have HC:=Lib.hid hcs
 clear hcs
 have hcsz:(Tryz.prog.info? 74).map (·.size)=some cs.size:=by rw [hc72];exact szObj
 go_wp2_with (first
  | (refine wpList_store_row rfl 74 (.tmp 2) (.tmp 138) rfl w.heap.size cs rfl rfl _ _ hzF hcsz (by rw [hzl,hc72]) hcone ?_))
 exact bodyPost_ret (results_cell_row rfl _ _ w.heap.size _ _ _ _ rfl (setRow_heap _ _ _ _ _ _ hzF) Tryz.underlying74 rfl hcsz) rfl (by rw [←hX.out];exact hfin.out)
set_option maxRecDepth 100000 in
set_option maxHeartbeats 4000000 in
theorem guess_tag (c:UInt8) (q:Txt) (hl:q.length≤5000) (hk:c.toNat=4) (hn0 : ¬ (takeN q).2=0) (w:World):Calls Tryz.prog 55 #[.string (B (c::q))] w fun e w'=>GsR (gTag (takeN q).1) w e w':=by
 have HK:=Lib.hid hk
 clear hk
 have hzv:=zeroObj
 have hzl:zObj.size=72:=zAu
 have htl:(takeN q).1.length≤q.length:=(zA2 q).2
 have htk : ∀ W,Calls Tryz.prog 83 #[.string (B q)] W fun e w'=>e = .returned (.tuple #[.string (B (takeN q).1), .int .i64 (takeN q).2])∧W=w':=fun W=>(zAI q (by omega) W).mono fun _ _ h=>⟨h.1,h.2.symm⟩
 generalize (takeN q).1=t at *
 generalize (takeN q).2=kn at *
 have hki:((kn:Int)==0)=false:=by simp;omega
 have hex:(B (c::q)).extract 1 (q.length+1)=B q:=by
  rw [zAR]
  simp
 obtain ⟨W1,hW1⟩ : ∃ W1,w.alloc (.cells zObj 74)=W1:=⟨_,rfl⟩
 have hx1:Blk W1 w.heap.size 74 zObj:=by rw [←hW1];exact Blk.new _ _ _
 have b1:Below w.heap.size w W1:=by rw [←hW1];exact (Below.refl _ _).alloc (Nat.le_refl _) _
 have hs1:w.heap.size<W1.heap.size:=by rw [←hW1];simp
 have htk:=Lib.hid htk
 have hc0:0≤(c.toNat:Int):=by omega
 have hc1:(c.toNat:Int)<256:=by have:=c.toNat_lt;omega
 have hbd:=zBp (c.toNat:Int)
 have e72:(objC ⟨c.toNat,[],[],noId,[],0,[],noId,0,[]⟩ (.slice none 0 0) (.slice none 0 0)).toArray.size=72:=by rw [List.size_toArray];unfold objC;simp only [List.length_cons,List.length_append,u8s_len,zAc,List.length_nil]
 have eone:(objC ⟨c.toNat,[],[],noId,[],0,[],noId,0,[]⟩ (.slice none 0 0) (.slice none 0 0)).toArray.all (·.oneCell')=true:=by kernel_rfl
 obtain ⟨X,hX⟩ : ∃ X,Hid (gTag t=X):=⟨_,Lib.hid rfl⟩
 rw [hX.out]
 go_enter Tryz.func55,Tryz.ntmps55
 go_upto_if 26 with (first
  | ((with_reducible refine zA6 hbd ?_ ?_);rfl)
  | ((with_reducible refine lit_new 74 (.tmp 3) (.tmp 18) (objC ⟨c.toNat,[],[],noId,[],0,[],noId,0,[]⟩ (.slice none 0 0) (.slice none 0 0)).toArray 72 szObj e72 eone _ ?_ ?_ ?_ ?_)
     ·first | exact hzl | rfl
     ·rfl
     ·rfl
     intro W2 hb2 hbl2
     have hO2:ObjB W2 W1.heap.size ⟨c.toNat,[],[],noId,[],0,[],noId,0,[]⟩ (.slice none 0 0) (.slice none 0 0):=⟨hb2,zAc,zAc⟩
     have hI2:GsI w W2:=⟨hx1.below hbl2 hx1.lt,bthen b1 b1.size hbl2⟩
     have hgOB:W1.heap.size<W2.heap.size:=hb2.lt
     have tk2:=htk.out W2
     have tk2:=Lib.hid tk2
     clear hx1 b1 hb2 hbl2)
  | ((with_reducible refine tk2.out.mono ?_);rintro e w3 ⟨rfl,rfl⟩
     clear tk2))
 have ck:=hO2.kind
 simp only at ck
 have hsO:=hs1
 clear hW1 hbd e72 eone hs1
 generalize W1.heap.size=gO at *
 obtain ⟨BB,hBB⟩ : ∃ BB,BB=W2.heap.size:=⟨_,rfl⟩
 rw [←hBB] at hgOB
 have hnE:OwnEnts W2 BB (.slice none 0 0) []:=World.ownsRow_nil _ _ _ _
 have hnP:OwnIds W2 BB (.slice none 0 0) []:=World.ownsRow_nil _ _ _ _
 have hBs:BB≤W2.heap.size:=by omega
 have hwB:w.heap.size<BB:=by omega
 clear hBB
 rw [HK.out] at hO2 ck
 have hki2:(c.toNat:Int)=4:=by rw [HK.out];rfl
 clear hc0 hc1
 have hXX:Hid ((⟨4,[],[],noId,[],0,[],idG (t.drop 1),(t.headD 0).toNat,(takeN ((t.drop 1).drop 32)).1⟩:ObjL)=X):=hX.out
 clear hX
 have hX:=hXX
 clear hXX
 have hc8:(t.headD 0).toNat<256:=(t.headD 0).toNat_lt
 have hb1 : ∀ W,Calls Tryz.prog 86 #[.string (B t), .int .i64 1] W fun e w'=>e = .returned (.string (B (t.drop 1))) ∧ ∃ nq,w'=W.drewN nq:=fun W=>zAY t 1 (by omega) (by omega) W
 have hd1:(t.drop 1).length≤t.length:=by rw [List.length_drop];omega
 have hd2:((t.drop 1).drop 32).length≤t.length:=by rw [List.length_drop,List.length_drop];omega
 have hb2 : ∀ W,Calls Tryz.prog 86 #[.string (B (t.drop 1)), .int .i64 32] W fun e w'=>e = .returned (.string (B ((t.drop 1).drop 32))) ∧ ∃ nq,w'=W.drewN nq:=fun W=>zAY (t.drop 1) 32 (by omega) (by omega) W
 have hgi:=fun W=>Lib.hid (zDn (t.drop 1) (by omega) W)
 have hi32:=idG_len (t.drop 1)
 have htk2 : ∀ W,Calls Tryz.prog 83 #[.string (B ((t.drop 1).drop 32))] W fun e w'=>e = .returned (.tuple #[.string (B (takeN ((t.drop 1).drop 32)).1), .int .i64 (takeN ((t.drop 1).drop 32)).2])∧W=w':=fun W=>(zAI ((t.drop 1).drop 32) (by omega) W).mono fun _ _ h=>⟨h.1,h.2.symm⟩
 have hnl:=(zA2 ((t.drop 1).drop 32)).2
 have hb1:=Lib.hid hb1
 have hb2:=Lib.hid hb2
 have htk2:=Lib.hid htk2
 generalize takeN ((t.drop 1).drop 32)=NM at *
 generalize (t.drop 1).drop 32=R2 at *
 generalize idG (t.drop 1)=ID at *
 generalize t.drop 1=R1 at *
 cases t with
 | nil=>
   go_upto_region 35 with (first
    | ((with_reducible refine (hb1.out _).mono ?_);rintro e w3 ⟨rfl,nq,rfl⟩
       have hO3:=(hO2).drewN nq
       have hI3:=(hI2).drewN nq)
    | ((with_reducible refine (hgi _).out.mono ?_);rintro e w4 ⟨rfl,hb4⟩
       have hO4:=hO3.below hb4
       have hI4:=hI3.below hb4
       have ht4:=hO4.there 38 32 (by omega)
       clear hO3 hI3)
    | ((with_reducible refine zBo (.tmp 130) (.tmp 129) gO 38 ID hi32 ht4 ?_ ?_ ?_);rfl;rfl
       have hO5:=hO4.setTarget ID hi32
       have hI5:=hI4.cells_ (o:=38) hsO (u8s ID).toList
       clear hO4 hI4 ht4)
    | ((with_reducible refine (hb2.out _).mono ?_);rintro e w6 ⟨rfl,nq2,rfl⟩
       have hO6:=hO5.drewN nq2
       have hI6:=hI5.drewN nq2
       have f71:=hO6.fr 71
       have c71:=hO6.name
       clear hO5 hI5)
    | ((with_reducible refine (htk2.out _).mono ?_);rintro e w7 ⟨rfl,rfl⟩
       have hO7:=hO6.setName NM.1
       have hI7:=hI6.set_ (o:=71) hsO (.string (B NM.1))
       clear hO6 hI6))
   have hE7 : ∀ W,OwnEnts W BB (.slice none 0 0) []:=fun W=>World.ownsRow_nil _ _ _ _
   have hP7 : ∀ W,OwnIds W BB (.slice none 0 0) []:=fun W=>World.ownsRow_nil _ _ _ _
   have hok:ObjOk (⟨4,[],[],noId,[],0,[],ID,0,NM.1⟩:ObjL):=tagO_ok ID hi32 0 (by omega) (by omega) NM.1 (by omega)
   have hzF:=hI7.z
   have hfin:=Lib.hid (GsR.of hok hI7 (hE7 _) (hP7 _) hwB)
   have hq:=zAU hO7 hok
   have hc72:(objC (⟨4,[],[],noId,[],0,[],ID,0,NM.1⟩:ObjL) (.slice none 0 0) (.slice none 0 0)).toArray.size=72:=by rw [List.size_toArray,zAC hok]
   have hcone:=zBN (⟨4,[],[],noId,[],0,[],ID,0,NM.1⟩:ObjL) (hE7 W2) (hP7 W2)
   clear hI7 hO7 hE7 hP7
   generalize hcs:(objC (⟨4,[],[],noId,[],0,[],ID,0,NM.1⟩:ObjL) (.slice none 0 0) (.slice none 0 0)).toArray=cs at *
   have HC:=Lib.hid hcs
   clear hcs
   have hcsz:(Tryz.prog.info? 74).map (·.size)=some cs.size:=by rw [hc72];exact szObj
   go_wp2_with (first
    | (refine wpList_store_row rfl 74 (.tmp 2) (.tmp 138) rfl w.heap.size cs rfl rfl _ _ hzF hcsz (by rw [hzl,hc72]) hcone ?_))
   exact bodyPost_ret (results_cell_row rfl _ _ w.heap.size _ _ _ _ rfl (setRow_heap _ _ _ _ _ _ hzF) Tryz.underlying74 rfl hcsz) rfl (by rw [←hX.out];exact hfin.out)
 | cons d t1=>
   have f70:=hO2.fr 70
   have c70:=hO2.of_
   have hd0:0≤(d.toNat:Int):=by omega
   have hd1:(d.toNat:Int)<256:=by have:=d.toNat_lt;omega
   have hOa:=hO2.setOf d.toNat
   have hIa:=hI2.set_ (o:=70) hsO (.int .i64 d.toNat)
   go_upto_region 35 with (first
    | ((with_reducible refine (hb1.out _).mono ?_);rintro e w3 ⟨rfl,nq,rfl⟩
       have hO3:=(hOa).drewN nq
       have hI3:=(hIa).drewN nq)
    | ((with_reducible refine (hgi _).out.mono ?_);rintro e w4 ⟨rfl,hb4⟩
       have hO4:=hO3.below hb4
       have hI4:=hI3.below hb4
       have ht4:=hO4.there 38 32 (by omega)
       clear hO3 hI3)
    | ((with_reducible refine zBo (.tmp 130) (.tmp 129) gO 38 ID hi32 ht4 ?_ ?_ ?_);rfl;rfl
       have hO5:=hO4.setTarget ID hi32
       have hI5:=hI4.cells_ (o:=38) hsO (u8s ID).toList
       clear hO4 hI4 ht4)
    | ((with_reducible refine (hb2.out _).mono ?_);rintro e w6 ⟨rfl,nq2,rfl⟩
       have hO6:=hO5.drewN nq2
       have hI6:=hI5.drewN nq2
       have f71:=hO6.fr 71
       have c71:=hO6.name
       clear hO5 hI5)
    | ((with_reducible refine (htk2.out _).mono ?_);rintro e w7 ⟨rfl,rfl⟩
       have hO7:=hO6.setName NM.1
       have hI7:=hI6.set_ (o:=71) hsO (.string (B NM.1))
       clear hO6 hI6))
   have hE7 : ∀ W,OwnEnts W BB (.slice none 0 0) []:=fun W=>World.ownsRow_nil _ _ _ _
   have hP7 : ∀ W,OwnIds W BB (.slice none 0 0) []:=fun W=>World.ownsRow_nil _ _ _ _
   have hok:ObjOk (⟨4,[],[],noId,[],0,[],ID,d.toNat,NM.1⟩:ObjL):=tagO_ok ID hi32 d.toNat hd0 hd1 NM.1 (by omega)
   have hzF:=hI7.z
   have hfin:=Lib.hid (GsR.of hok hI7 (hE7 _) (hP7 _) hwB)
   have hq:=zAU hO7 hok
   have hc72:(objC (⟨4,[],[],noId,[],0,[],ID,d.toNat,NM.1⟩:ObjL) (.slice none 0 0) (.slice none 0 0)).toArray.size=72:=by rw [List.size_toArray,zAC hok]
   have hcone:=zBN (⟨4,[],[],noId,[],0,[],ID,d.toNat,NM.1⟩:ObjL) (hE7 W2) (hP7 W2)
   clear hI7 hO7 hE7 hP7
   generalize hcs:(objC (⟨4,[],[],noId,[],0,[],ID,d.toNat,NM.1⟩:ObjL) (.slice none 0 0) (.slice none 0 0)).toArray=cs at *
   have HC:=Lib.hid hcs
   clear hcs
   have hcsz:(Tryz.prog.info? 74).map (·.size)=some cs.size:=by rw [hc72];exact szObj
   go_wp2_with (first
    | (refine wpList_store_row rfl 74 (.tmp 2) (.tmp 138) rfl w.heap.size cs rfl rfl _ _ hzF hcsz (by rw [hzl,hc72]) hcone ?_))
   exact bodyPost_ret (results_cell_row rfl _ _ w.heap.size _ _ _ _ rfl (setRow_heap _ _ _ _ _ _ hzF) Tryz.underlying74 rfl hcsz) rfl (by rw [←hX.out];exact hfin.out)
end
section
attribute [local go_sem ↓] ldvO_eq
theorem gEnt_ok (d:UInt8) (t:Txt) (h:t.length≤1000000):EntOk (gEnt d t):=by
 have h1:=(zA2 t).2
 have h2:=d.toNat_lt
 exact ⟨idG_len _,by show (takeN t).1.length≤_;omega,by show _≤(d.toNat:Int);omega,by show (d.toNat:Int)≤_;omega⟩
theorem gTree_ok : ∀ (f:Nat) (t:Txt) (acc:List EntL),t.length≤1000000→(∀ e∈acc,EntOk e) → ∀ e∈gTree f t acc,EntOk e
 | 0,t,acc,_,h=>by rw [gTree];exact h;intro a b c hc;cases hc
 | f+1,[],acc,_,h=>by rw [gTree];exact h;intro a b c hc hd;cases hd
 | f+1,d::t,acc,hl,h=>by
   rw [gTree]
   simp only [List.length_cons] at hl
   refine gTree_ok f _ _ (by simp only [List.length_drop];omega) ?_
   intro e he
   rcases List.mem_append.1 he with he | he
   ·exact h e he
   ·obtain rfl:=List.mem_singleton.1 he
    exact gEnt_ok d t (by omega)
theorem zCs {f:Nat} {t:Txt} {acc:List EntL} (h:f=0∨t=[]):gTree f t acc=acc:=by
 rcases h with rfl | rfl
 ·rw [gTree];intro a b c hc;cases hc
 ·cases f with
  | zero=>rw [gTree];intro a b c hc;cases hc
  | succ f=>rw [gTree];intro a b c hc hd;cases hd
theorem zDJ {f:Nat} {d:UInt8} {t:Txt} {acc:List EntL}:gTree (f+1) (d::t) acc=gTree f ((t.drop (takeN t).2).drop 32) (acc++[⟨(takeN t).1,d.toNat,idG (t.drop (takeN t).2)⟩]):=by rw [gTree];rfl
theorem treeO_ok (n:Int) (hn:0≤n) (hn2:n<256) (l:List EntL) (h : ∀ e∈l,EntOk e):ObjOk ⟨n,[],l,noId,[],0,[],noId,0,[]⟩:=
 ⟨zAc,zAc,h,(fun _ h=>by cases h),by simp,by simp,by simp,by simp,by show _≤n;omega,by show n≤_;omega,by simp,by simp⟩
set_option maxRecDepth 100000 in
set_option maxHeartbeats 4000000 in
theorem guess_tree (c:UInt8) (q:Txt) (hl:q.length≤5000) (hk:c.toNat=2) (hn0 : ¬ (takeN q).2=0) (w:World):Calls Tryz.prog 55 #[.string (B (c::q))] w fun e w'=>GsR ⟨2,[],gTree 65 (takeN q).1 [],noId,[],0,[],noId,0,[]⟩ w e w':=by
 have hgok:=Lib.hid (gTree_ok 65 (takeN q).1 [] (by have:=(zA2 q).2;omega) (by simp))
 have HK:=Lib.hid hk
 clear hk
 have hzv:=zeroObj
 have hzl:zObj.size=72:=zAu
 have htl:(takeN q).1.length≤q.length:=(zA2 q).2
 have htk : ∀ W,Calls Tryz.prog 83 #[.string (B q)] W fun e w'=>e = .returned (.tuple #[.string (B (takeN q).1), .int .i64 (takeN q).2])∧W=w':=fun W=>(zAI q (by omega) W).mono fun _ _ h=>⟨h.1,h.2.symm⟩
 generalize (takeN q).1=t at *
 generalize (takeN q).2=kn at *
 have hki:((kn:Int)==0)=false:=by simp;omega
 have hex:(B (c::q)).extract 1 (q.length+1)=B q:=by
  rw [zAR]
  simp
 obtain ⟨W1,hW1⟩ : ∃ W1,w.alloc (.cells zObj 74)=W1:=⟨_,rfl⟩
 have hx1:Blk W1 w.heap.size 74 zObj:=by rw [←hW1];exact Blk.new _ _ _
 have b1:Below w.heap.size w W1:=by rw [←hW1];exact (Below.refl _ _).alloc (Nat.le_refl _) _
 have hs1:w.heap.size<W1.heap.size:=by rw [←hW1];simp
 have htk:=Lib.hid htk
 have hc0:0≤(c.toNat:Int):=by omega
 have hc1:(c.toNat:Int)<256:=by have:=c.toNat_lt;omega
 have hbd:=zBp (c.toNat:Int)
 have e72:(objC ⟨c.toNat,[],[],noId,[],0,[],noId,0,[]⟩ (.slice none 0 0) (.slice none 0 0)).toArray.size=72:=by rw [List.size_toArray];unfold objC;simp only [List.length_cons,List.length_append,u8s_len,zAc,List.length_nil]
 have eone:(objC ⟨c.toNat,[],[],noId,[],0,[],noId,0,[]⟩ (.slice none 0 0) (.slice none 0 0)).toArray.all (·.oneCell')=true:=by kernel_rfl
 obtain ⟨X,hX⟩ : ∃ X,Hid ((⟨2,[],gTree 65 t [],noId,[],0,[],noId,0,[]⟩:ObjL)=X):=⟨_,Lib.hid rfl⟩
 rw [hX.out]
 go_enter Tryz.func55,Tryz.ntmps55
 go_upto_if 26 with (first
  | ((with_reducible refine zA6 hbd ?_ ?_);rfl)
  | ((with_reducible refine lit_new 74 (.tmp 3) (.tmp 18) (objC ⟨c.toNat,[],[],noId,[],0,[],noId,0,[]⟩ (.slice none 0 0) (.slice none 0 0)).toArray 72 szObj e72 eone _ ?_ ?_ ?_ ?_)
     ·first | exact hzl | rfl
     ·rfl
     ·rfl
     intro W2 hb2 hbl2
     have hO2:ObjB W2 W1.heap.size ⟨c.toNat,[],[],noId,[],0,[],noId,0,[]⟩ (.slice none 0 0) (.slice none 0 0):=⟨hb2,zAc,zAc⟩
     have hI2:GsI w W2:=⟨hx1.below hbl2 hx1.lt,bthen b1 b1.size hbl2⟩
     have hgOB:W1.heap.size<W2.heap.size:=hb2.lt
     have tk2:=htk.out W2
     have tk2:=Lib.hid tk2
     clear hx1 b1 hb2 hbl2)
  | ((with_reducible refine tk2.out.mono ?_);rintro e w3 ⟨rfl,rfl⟩
     clear tk2))
 have ck:=hO2.kind
 simp only at ck
 have hsO:=hs1
 clear hW1 hbd e72 eone hs1
 generalize W1.heap.size=gO at *
 obtain ⟨BB,hBB⟩ : ∃ BB,BB=W2.heap.size:=⟨_,rfl⟩
 rw [←hBB] at hgOB
 have hnE:OwnEnts W2 BB (.slice none 0 0) []:=World.ownsRow_nil _ _ _ _
 have hnP:OwnIds W2 BB (.slice none 0 0) []:=World.ownsRow_nil _ _ _ _
 have hBs:BB≤W2.heap.size:=by omega
 have hwB:w.heap.size<BB:=by omega
 clear hBB
 rw [HK.out] at hO2 ck
 clear hnP
 have hki2:(c.toNat:Int)=2:=by rw [HK.out];rfl
 obtain ⟨Y,hY⟩ : ∃ Y,Hid (gTree 65 t []=Y):=⟨_,Lib.hid rfl⟩
 rw [hY.out] at hX hgok
 clear hc0 hc1
 go_wp2_with (fail)
 clear hki hki2 ck HK
 go_loopg [4,6] 65 (fun f s4 s6 wr => ∃ (n:Nat) (t':Txt) (acc:List EntL) (ve:Value),s6 = .int .i64 n∧s4 = .string (B t')∧n+f≤65∧65≤n+f∧acc.length≤n∧t'.length≤5000∧Hid (gTree f t' acc=Y)∧OwnEnts wr BB ve acc∧ObjB wr gO ⟨2,[],acc,noId,[],0,[],noId,0,[]⟩ ve (.slice none 0 0)∧GsI w wr∧BB≤wr.heap.size)
 case atStart=>exact ⟨0,t,[], .slice none 0 0,rfl,rfl,by omega,by omega,by simp,by omega,hY,hnE,hO2,hI2,hBs⟩
 case round=>
  obtain ⟨n,t',acc,ve,rfl,rfl,hn1,hn2,hacc,ht',hrel,hown,hOb,hI,hsz⟩:=hrel
  clear hnE hO2 hI2 hBs
  by_cases hend:gk=0∨t'=[]
  ·have hx:Hid (acc=Y):=by show _=_;rw [←hrel.out];exact (zCs hend).symm
   rw [hx.out] at hown hOb
   clear hrel hacc hx
   have hnP:OwnIds wr BB (.slice none 0 0) []:=World.ownsRow_nil _ _ _ _
   have hok:ObjOk (⟨2,[],Y,noId,[],0,[],noId,0,[]⟩:ObjL):=treeO_ok 2 (by omega) (by omega) Y hgok.out
   have hzF:=hI.z
   have hfin:=Lib.hid (GsR.of hok hI hown hnP hwB)
   have hq:=zAU hOb hok
   have hc72:(objC (⟨2,[],Y,noId,[],0,[],noId,0,[]⟩:ObjL) ve (.slice none 0 0)).toArray.size=72:=by rw [List.size_toArray,zAC hok]
   have hcone:=zBN (⟨2,[],Y,noId,[],0,[],noId,0,[]⟩:ObjL) hown hnP
   clear hI hown hOb hnP
   generalize hcs:(objC (⟨2,[],Y,noId,[],0,[],noId,0,[]⟩:ObjL) ve (.slice none 0 0)).toArray=cs at *
   have HC:=Lib.hid hcs
   clear hcs
   have hcsz:(Tryz.prog.info? 74).map (·.size)=some cs.size:=by rw [hc72];exact szObj
   by_cases hlt:n<65
   ·obtain rfl:t'=[]:=by
     rcases hend with h | h
     ·omega
     ·exact h
    have hlti:(n:Int)<65:=by omega
    clear hend
    go_wp2_with (first
     | (refine wpList_store_row rfl 74 (.tmp 2) (.tmp 138) rfl w.heap.size cs rfl rfl _ _ hzF hcsz (by rw [hzl,hc72]) hcone ?_))
    exact bodyPost_ret (results_cell_row rfl _ _ w.heap.size _ _ _ _ rfl (setRow_heap _ _ _ _ _ _ hzF) Tryz.underlying74 rfl hcsz) rfl (by rw [←hX.out];exact hfin.out)
   ·have hlti : ¬ (n:Int)<65:=by omega
    clear hend
    go_wp2_with (first
     | (refine wpList_store_row rfl 74 (.tmp 2) (.tmp 138) rfl w.heap.size cs rfl rfl _ _ hzF hcsz (by rw [hzl,hc72]) hcone ?_))
    exact bodyPost_ret (results_cell_row rfl _ _ w.heap.size _ _ _ _ rfl (setRow_heap _ _ _ _ _ _ hzF) Tryz.underlying74 rfl hcsz) rfl (by rw [←hX.out];exact hfin.out)
  ·cases gk with
   | zero=>exact absurd (.inl rfl) hend
   | succ f=>
   match t',hend with
   | [],hend=>exact absurd (.inr rfl) hend
   | d::t1,_=>
     clear hend
     have hlti:(n:Int)<65:=by omega
     simp only [List.length_cons] at ht'
     rw [zDJ] at hrel
     have hm:=(zA2 t1).1
     have hnm:=(zA2 t1).2
     have htk1 : ∀ W,Calls Tryz.prog 83 #[.string (B t1)] W fun e w'=>e = .returned (.tuple #[.string (B (takeN t1).1), .int .i64 (takeN t1).2])∧W=w':=fun W=>(zAI t1 (by omega) W).mono fun _ _ h=>⟨h.1,h.2.symm⟩
     have hbe1 : ∀ W,Calls Tryz.prog 86 #[.string (B (d::t1)), .int .i64 (1+((takeN t1).2:Int))] W fun e w'=>e = .returned (.string (B (t1.drop (takeN t1).2))) ∧ ∃ nq,w'=W.drewN nq:=fun W=>by
      have:=zAY (d::t1) (1+(takeN t1).2) (by simp only [List.length_cons];omega) (by omega) W
      rw [Int.natCast_add,Nat.add_comm 1,List.drop_succ_cons] at this
      exact this
     have hbe2 : ∀ W,Calls Tryz.prog 86 #[.string (B (t1.drop (takeN t1).2)), .int .i64 32] W fun e w'=>e = .returned (.string (B ((t1.drop (takeN t1).2).drop 32))) ∧ ∃ nq,w'=W.drewN nq:=fun W=>zAY (t1.drop (takeN t1).2) 32 (by rw [List.length_drop];omega) (by omega) W
     have hrl:(t1.drop (takeN t1).2).length≤t1.length:=by rw [List.length_drop];omega
     have hidc:=fun W=>Lib.hid (zDn (t1.drop (takeN t1).2) (by omega) W)
     have hex1:(B (d::t1)).extract 1 (t1.length+1)=B t1:=by
      rw [zAR]
      simp
     have hdl:((t1.drop (takeN t1).2).drop 32).length≤5000:=by rw [List.length_drop];omega
     generalize (t1.drop (takeN t1).2).drop 32=RR at *
     generalize t1.drop (takeN t1).2=RS at *
     generalize (takeN t1).1=NM at *
     generalize (takeN t1).2=m at *
     have htk1:=Lib.hid htk1
     have hbe1:=Lib.hid hbe1
     have hbe2:=Lib.hid hbe2
     have hd0:0≤(d.toNat:Int):=by omega
     have hd1:(d.toNat:Int)<256:=by have:=d.toNat_lt;omega
     have hm0:(m:Int)≤5000:=by omega
     clear hex tk2
     go_upto_region 14 with (first
      | ((with_reducible refine (htk1.out _).mono ?_);rintro e w3 ⟨rfl,rfl⟩)
      | ((with_reducible refine (hbe1.out _).mono ?_);rintro e w4 ⟨rfl,nq,rfl⟩))
     all_goals try (exfalso;omega)
     have hbd:=built_entry NM (d.toNat:Int) (idG RS) (idG_len RS)
     have hxok:EntOk ⟨NM,d.toNat,idG RS⟩:=⟨idG_len RS,by show NM.length≤_;omega,by show _≤(d.toNat:Int);omega,by show (d.toNat:Int)≤_;omega⟩
     have hotr:=hOb.tr
     have hota:=hOb.ta
     have hF1:F1 BB gO 74 (objC ⟨2,[],acc,noId,[],0,[],noId,0,[]⟩ ve (.slice none 0 0)).toArray 181 34 ve acc.length (rowsOf entC acc) (GsI w) (fun _=>True) (wr.drewN nq).drew:=⟨(hOb.blk.drewN nq).drew,hown,⟨(hI.z.drewN nq).drew,(bdrewN hI.bel nq).drew⟩,trivial,hsz⟩
     have hcO:(objC ⟨2,[],acc,noId,[],0,[],noId,0,[]⟩ ve (.slice none 0 0)).toArray.size=72:=by rw [List.size_toArray];unfold objC;simp only [List.length_cons,List.length_append,u8s_len,zAc,List.length_nil]
     have hve:(objC ⟨2,[],acc,noId,[],0,[],noId,0,[]⟩ ve (.slice none 0 0)).toArray[2]?=some ve:=rfl
     have hset:Hid (∀ v':Value,(objC ⟨2,[],acc,noId,[],0,[],noId,0,[]⟩ ve (.slice none 0 0)).toArray.setIfInBounds 2 v'=(objC ⟨2,[],acc++[⟨NM,d.toNat,idG RS⟩],noId,[],0,[],noId,0,[]⟩ v' (.slice none 0 0)).toArray):=fun v'=>by rw [List.setIfInBounds_toArray];rfl
     have hrow:Hid (rowsOf entC acc++entC ⟨NM,d.toNat,idG RS⟩=rowsOf entC (acc++[⟨NM,d.toNat,idG RS⟩])):=by show _=_;rw [zAo,zAx]
     have hm1:acc.length+1≤9223372036854775807:=by omega
     have hm2:(acc.length+1)*56≤140737488355328:=by omega
     have hIb:=fun w1 w2 (h:GsI w w1) (hb:Below w1.heap.size w1 w2)=>h.below hb
     have hIB:=fun w1 w2 (h:GsI w w1) (hb:Below BB w1 w2)=>h.low hwB hb
     have hIs:=fun v w1 (h:GsI w w1)=>h.set_ (o:=2) hsO v
     have hJb:=fun (w1 w2:World) (_:True) (_:Below w1.heap.size w1 w2)=>trivial
     clear hOb hown hI htk1 hbe1
     generalize (objC ⟨2,[],acc,noId,[],0,[],noId,0,[]⟩ ve (.slice none 0 0)).toArray=cO at *
     generalize hxx:(⟨NM,d.toNat,idG RS⟩:EntL)=x at *
     clear hxx
     obtain ⟨n',hn'⟩ : ∃ n',Hid (acc.length=n'):=⟨_,Lib.hid rfl⟩
     rw [hn'.out] at hF1 hm1 hm2
     obtain ⟨xs,hxs⟩ : ∃ xs,Hid (rowsOf entC acc=xs):=⟨_,Lib.hid rfl⟩
     rw [hxs.out] at hF1
     obtain ⟨II,hII⟩ : ∃ II,Hid (GsI w=II):=⟨_,Lib.hid rfl⟩
     rw [hII.out] at hF1
     have hIb : ∀ w1 w2,II w1→Below w1.heap.size w1 w2→II w2:=hII.out▸hIb
     have hIB : ∀ w1 w2,II w1→Below BB w1 w2→II w2:=hII.out▸hIB
     have hIs : ∀ v w1,II w1→II (w1.setCell ⟨gO,2,none⟩ v):=hII.out▸hIs
     obtain ⟨V,hV⟩ : ∃ V:Nat→Value,V=fun i=>[(.pointer (some ⟨gO,2,none⟩)),ve,(.string (B (d::t1))),(.int .u8 d.toNat),(.int .i64 d.toNat),(.string (B NM)),(.string (B RS)),(.agg (u8s (idG RS))),(.agg (entC x).toArray),undef,undef,(.pointer (some ⟨gO,2,none⟩)),undef].getD i undef:=⟨_,rfl⟩
     have v0:V 0=(.pointer (some ⟨gO,2,none⟩)):=by rw [hV];rfl
     have v1:V 1=ve:=by rw [hV];rfl
     have v2:V 2=(.string (B (d::t1))):=by rw [hV];rfl
     have v3:V 3=(.int .u8 d.toNat):=by rw [hV];rfl
     have v4:V 4=(.int .i64 d.toNat):=by rw [hV];rfl
     have v5:V 5=(.string (B NM)):=by rw [hV];rfl
     have v6:V 6=(.string (B RS)):=by rw [hV];rfl
     have v7:V 7=(.agg (u8s (idG RS))):=by rw [hV];rfl
     have v8:V 8=(.agg (entC x).toArray):=by rw [hV];rfl
     have v11:V 11=(.pointer (some ⟨gO,2,none⟩)):=by rw [hV];rfl
     have v12:V 12=undef:=by rw [hV];rfl
     clear hV
     refine zA3 (C:=Stage 10 12 (F1 BB gO 74 cO 181 34 ve n' xs II (fun _=>True)) (F2 BB gO 74 cO II) (F3 BB gO 2 74 cO 181 34 n' xs (entC x) II)) (R:=StR V 9 10 (LitR BB 181 ve (entC x)) (AppR BB 181 34 n' xs (entC x))) (by kernel_rfl) (by kernel_rfl) (by kernel_rfl) ?_ ?_ ?_ ?_
     ·exact zA7 (n:=139) (by kernel_rfl)
     ·exact Stage.start hF1
     ·intro i o listed a w1 ho hi hL
      have hin:=(zAq hi).1
      have hsz:listed.size=13:=hL.size
      match i,ho with
      | 0,ho=>
        obtain rfl:=(Option.some.inj ho).symm
        have e0:a.tmps[3]?.getD undef=(.pointer (some ⟨gO,0,none⟩)):=(zAd a 3).trans (hL.get_old hi (by kernel_rfl))
        have hc:=Stage.same (i:=0) hL.cls (by decide) (by decide)
        refine step_wp rfl rfl ?_
        clear hi ho hL hin
        refine wp_val (v:=(.pointer (some ⟨gO,2,none⟩))) ?_ ⟨_,rfl,StR.mk (by decide) (by decide) v0.symm,hc,fun _ _ _ h=>h⟩
        clear v0 v1 v2 v3 v4 v5 v6 v7 v8 v11 v12 hc
        unfold execOp
        go_simp
      | 1,ho=>
        obtain rfl:=(Option.some.inj ho).symm
        have hla:listed.getD 10 false=false:=hL.later (j:=10) hi (by kernel_rfl)
        have hls:listed.getD 12 false=false:=hL.later2 hla (by kernel_rfl)
        have hc1:=Stage.one hL.cls hla hls
        have e0:a.tmps[54]?.getD undef=(.pointer (some ⟨gO,2,none⟩)):=(zAd a 54).trans (((hL.get_new (j:=0) hi (by kernel_rfl)).at_ (by decide) (by decide)).trans v0)
        have hc:=Stage.same (i:=1) hL.cls (by decide) (by decide)
        refine step_wp rfl rfl ?_
        clear hi ho hL hin
        refine wp_val (v:=ve) ?_ ⟨_,rfl,StR.mk (by decide) (by decide) v1.symm,hc,fun _ _ _ h=>h⟩
        have f0:w1.cell? ⟨gO,2,none⟩=some ve:=by rw [hc1.blk.cell];exact hve
        clear hc1
        clear v0 v1 v2 v3 v4 v5 v6 v7 v8 v11 v12 hc
        unfold execOp
        go_simp
      | 2,ho=>
        obtain rfl:=(Option.some.inj ho).symm
        have e0:a.tmps[4]?.getD undef=(.string (B (d::t1))):=(zAd a 4).trans (hL.get_old hi (by kernel_rfl))
        have hc:=Stage.same (i:=2) hL.cls (by decide) (by decide)
        refine step_wp rfl rfl ?_
        clear hi ho hL hin
        refine wp_val (v:=(.string (B (d::t1)))) ?_ ⟨_,rfl,StR.mk (by decide) (by decide) v2.symm,hc,fun _ _ _ h=>h⟩
        clear v0 v1 v2 v3 v4 v5 v6 v7 v8 v11 v12 hc
        unfold execOp
        go_simp
      | 3,ho=>
        obtain rfl:=(Option.some.inj ho).symm
        have e0:a.tmps[56]?.getD undef=(.string (B (d::t1))):=(zAd a 56).trans (((hL.get_new (j:=2) hi (by kernel_rfl)).at_ (by decide) (by decide)).trans v2)
        have hc:=Stage.same (i:=3) hL.cls (by decide) (by decide)
        refine step_wp rfl rfl ?_
        clear hi ho hL hin
        refine wp_val (v:=(.int .u8 d.toNat)) ?_ ⟨_,rfl,StR.mk (by decide) (by decide) v3.symm,hc,fun _ _ _ h=>h⟩
        clear v0 v1 v2 v3 v4 v5 v6 v7 v8 v11 v12 hc
        unfold execOp
        go_simp
      | 4,ho=>
        obtain rfl:=(Option.some.inj ho).symm
        have e0:a.tmps[57]?.getD undef=(.int .u8 d.toNat):=(zAd a 57).trans (((hL.get_new (j:=3) hi (by kernel_rfl)).at_ (by decide) (by decide)).trans v3)
        have hc:=Stage.same (i:=4) hL.cls (by decide) (by decide)
        refine step_wp rfl rfl ?_
        clear hi ho hL hin
        refine wp_val (v:=(.int .i64 d.toNat)) ?_ ⟨_,rfl,StR.mk (by decide) (by decide) v4.symm,hc,fun _ _ _ h=>h⟩
        clear v0 v1 v2 v3 v4 v5 v6 v7 v8 v11 v12 hc
        unfold execOp
        go_simp
        exact IntWalk.i64_in _ (by omega)
      | 5,ho=>
        obtain rfl:=(Option.some.inj ho).symm
        have e0:a.tmps[7]?.getD undef=(.string (B NM)):=(zAd a 7).trans (hL.get_old hi (by kernel_rfl))
        have hc:=Stage.same (i:=5) hL.cls (by decide) (by decide)
        refine step_wp rfl rfl ?_
        clear hi ho hL hin
        refine wp_val (v:=(.string (B NM))) ?_ ⟨_,rfl,StR.mk (by decide) (by decide) v5.symm,hc,fun _ _ _ h=>h⟩
        clear v0 v1 v2 v3 v4 v5 v6 v7 v8 v11 v12 hc
        unfold execOp
        go_simp
      | 6,ho=>
        obtain rfl:=(Option.some.inj ho).symm
        have e0:a.tmps[9]?.getD undef=(.string (B RS)):=(zAd a 9).trans (hL.get_old hi (by kernel_rfl))
        have hc:=Stage.same (i:=6) hL.cls (by decide) (by decide)
        refine step_wp rfl rfl ?_
        clear hi ho hL hin
        refine wp_val (v:=(.string (B RS))) ?_ ⟨_,rfl,StR.mk (by decide) (by decide) v6.symm,hc,fun _ _ _ h=>h⟩
        clear v0 v1 v2 v3 v4 v5 v6 v7 v8 v11 v12 hc
        unfold execOp
        go_simp
      | 7,ho=>
        obtain rfl:=(Option.some.inj ho).symm
        have hla:listed.getD 10 false=false:=hL.later2 (hL.later2 (hL.later (j:=8) hi (by kernel_rfl)) (by kernel_rfl:waitsB _ 9 8=true)) (by kernel_rfl)
        have hls:listed.getD 12 false=false:=hL.later2 hla (by kernel_rfl)
        have hc1:=Stage.one hL.cls hla hls
        have e0:a.tmps[60]?.getD undef=(.string (B RS)):=(zAd a 60).trans (((hL.get_new (j:=6) hi (by kernel_rfl)).at_ (by decide) (by decide)).trans v6)
        refine step_wp rfl rfl ?_
        refine zCz rfl (vals := #[.string (B RS)]) (map1 (slot_is e0)) (by go_simp) (hidc w1).out ?_
        rintro e w2 ⟨rfl,hb2⟩
        exact ⟨_,rfl,_,rfl,StR.mk (by decide) (by decide) v7.symm,Stage.to1 (hc1.below hb2 (hIb _ _ hc1.inv hb2) trivial) hla hls (by decide) (by decide),fun j u _ h=>StR.keep (fun _ h=>h.below hb2) (fun _ h=>h.below hb2) j u h⟩
      | 8,ho=>
        obtain rfl:=(Option.some.inj ho).symm
        have hla:listed.getD 10 false=false:=hL.later2 (hL.later (j:=9) hi (by kernel_rfl)) (by kernel_rfl)
        have hls:listed.getD 12 false=false:=hL.later2 hla (by kernel_rfl)
        have hc1:=Stage.one hL.cls hla hls
        have e0:a.tmps[58]?.getD undef=(.int .i64 d.toNat):=(zAd a 58).trans (((hL.get_new (j:=4) hi (by kernel_rfl)).at_ (by decide) (by decide)).trans v4)
        have e1:a.tmps[59]?.getD undef=(.string (B NM)):=(zAd a 59).trans (((hL.get_new (j:=5) hi (by kernel_rfl)).at_ (by decide) (by decide)).trans v5)
        have e2:a.tmps[61]?.getD undef=(.agg (u8s (idG RS))):=(zAd a 61).trans (((hL.get_new (j:=7) hi (by kernel_rfl)).at_ (by decide) (by decide)).trans v7)
        refine step_wp rfl rfl ?_
        refine build_step rfl hbd (parts3 (slot_is e0) (slot_is e1) (slot_is e2)) ⟨_,rfl,StR.mk (by decide) (by decide) v8.symm,Stage.to1 hc1 hla hls (by decide) (by decide),fun _ _ _ h=>h⟩
      | 9,ho=>
        obtain rfl:=(Option.some.inj ho).symm
        have hla:listed.getD 10 false=false:=hL.later (j:=10) hi (by kernel_rfl)
        have hls:listed.getD 12 false=false:=hL.later2 hla (by kernel_rfl)
        have hc1:=Stage.one hL.cls hla hls
        have e0:a.tmps[62]?.getD undef=(.agg (entC x).toArray):=(zAd a 62).trans (((hL.get_new (j:=8) hi (by kernel_rfl)).at_ (by decide) (by decide)).trans v8)
        refine step_wp rfl rfl ?_
        have hbA:Below w1.heap.size w1 (w1.alloc (.cells (entC x).toArray 181)):=(Below.refl _ _).alloc (Nat.le_refl _) _
        refine zCg rfl Tryz.entTy (by decide) (zBt hxok) (.inl ( ((zAd a 62).symm.trans e0))) ⟨_,rfl,StR.mkLit ⟨w1.heap.size,rfl,Blk.new _ _ _,hc1.size,fun h=>by have:=(World.ownsRow.lt hc1.own _ h).2;omega⟩,Stage.to1 (hc1.below hbA (hIb _ _ hc1.inv hbA) (hJb _ _ hc1.pre hbA)) hla hls (by decide) (by decide),fun j u _ h=>StR.keep (fun _ h=>h.below hbA) (fun _ h=>h.below hbA) j u h⟩
      | 10,ho=>
        obtain rfl:=(Option.some.inj ho).symm
        have hla:listed.getD 10 false=false:=(zAr (by rw [hsz];exact hin)).trans (zAq hi).2.1
        have hls:listed.getD 12 false=false:=hL.later2 hla (by kernel_rfl)
        have hc1:=Stage.one hL.cls hla hls
        have hx:=(hL.get_new (j:=9) (t:=63) hi (by kernel_rfl)).lit
        have hs:a.eval (.tmp 55)=ve:=((hL.get_new (j:=1) hi (by kernel_rfl)).at_ (by decide) (by decide)).trans v1
        refine step_wp rfl rfl ?_
        refine zD7 rfl Tryz.entTy hc1 hgOB hx (zBt hxok) (zDj x) hm1 hm2 (fun w2 hb=>hIB _ _ hc1.inv hb) hs rfl ?_
        intro v2 w2 hf2 ha2 hk2 hb2
        exact ⟨_,rfl,StR.mkApp ha2 (by decide),Stage.to2 hf2 hls (by rw [hsz];decide) (by decide),fun j u hj h=>StR.keepL hk2 (fun e=>by rw [e,hla] at hj;cases hj) h⟩
      | 11,ho=>
        obtain rfl:=(Option.some.inj ho).symm
        have e0:a.tmps[3]?.getD undef=(.pointer (some ⟨gO,0,none⟩)):=(zAd a 3).trans (hL.get_old hi (by kernel_rfl))
        have hc:=Stage.same (i:=11) hL.cls (by decide) (by decide)
        refine step_wp rfl rfl ?_
        clear hi ho hL hin
        refine wp_val (v:=(.pointer (some ⟨gO,2,none⟩))) ?_ ⟨_,rfl,StR.mk (by decide) (by decide) v11.symm,hc,fun _ _ _ h=>h⟩
        clear v0 v1 v2 v3 v4 v5 v6 v7 v8 v11 v12 hc
        unfold execOp
        go_simp
      | 12,ho=>
        obtain rfl:=(Option.some.inj ho).symm
        have hla:listed.getD 10 false=true:=hL.before hi (by kernel_rfl)
        have hls:listed.getD 12 false=false:=(zAr (by rw [hsz];exact hin)).trans (zAq hi).2.1
        have hc2:=Stage.two hL.cls hla hls
        have e0:a.tmps[65]?.getD undef=(.pointer (some ⟨gO,2,none⟩)):=(zAd a 65).trans (((hL.get_new (j:=11) hi (by kernel_rfl)).at_ (by decide) (by decide)).trans v11)
        have hv:=(hL.get_new (j:=10) (t:=64) hi (by kernel_rfl)).app (by decide)
        obtain ⟨vA,vK,hvv⟩:=zAm hv
        rw [hvv] at hv
        have e1:a.tmps[64]?.getD undef=_:=(zAd a 64).trans hvv
        have c0:(w1.cell? ⟨gO,2,none⟩).isSome=true:=(hc2.blk.there (o:=2) (n:=1) (by rw [hcO];decide) 0 (by decide)).1
        obtain ⟨c0v,c0⟩:=Option.isSome_iff_exists.1 c0
        have f0:=hc2.blk.frozen 2
        have hR:=fun u=>AppR.set_ (p:=⟨gO,2,none⟩) (hv) hgOB u
        have h3:=Stage.to3 (ap:=10) (P1:=(F1 BB gO 74 cO 181 34 ve n' xs II (fun _=>True))) (P2:=(F2 BB gO 74 cO II)) (hc2.stored (off:=2) hv hgOB (hIs _ _ hc2.inv)) (listed:=listed) (st:=12) (by rw [hsz];decide)
        refine step_wp rfl rfl ?_
        clear hi ho hL hin hc2
        refine wp_skip (w':=w1.setCell ⟨gO,2,none⟩ _) ?_ ⟨_,rfl,StR.mk (by decide) (by decide) v12.symm,h3,fun j u _ h=>StR.keep (fun _ h=>h.set_ hgOB _) (fun _ h=>AppR.set_ h hgOB _) j u h⟩
        clear v0 v1 v2 v3 v4 v5 v6 v7 v8 v11 v12 h3
        unfold execOp
        go_simp
      | (n+13),ho=>exact absurd hin (by simp)
     ·intro a w1 listed hL hall
      obtain ⟨v3,hb3,ho3,hi3,hsz3⟩:=Stage.three hL.cls (hall 12 (by decide))
      rw [←hII.out] at hi3
      rw [hset.out] at hb3
      have hob3:ObjB w1 gO ⟨2,[],acc++[x],noId,[],0,[],noId,0,[]⟩ v3 (.slice none 0 0):=⟨hb3,hotr,hota⟩
      rw [←hxs.out,←hn'.out,hrow.out] at ho3
      have hown3:OwnEnts w1 BB v3 (acc++[x]):=by unfold OwnEnts;rw [List.length_append];exact ho3
      have hl3:(acc++[x]).length≤n+1:=by rw [List.length_append];simp only [List.length_cons,List.length_nil];omega
      have hd4:=hL.frame (by kernel_rfl) (zA7 (n:=139) (by kernel_rfl)) hall
      obtain ⟨vs,rfl,hR⟩:=hd4
      clear hL hall hR hF1 hIb hIB hIs hJb hII hset hrow hxs hn' hm1 hm2 hb3 ho3 hve hcO hidc hbd
      simp only [putAll,Act.put,List.setIfInBounds_toArray,List.set_cons_zero,List.set_cons_succ]
      go_wp2_with (first
       | ((with_reducible refine (hbe2.out _).mono ?_);rintro e w5 ⟨rfl,nq2,rfl⟩))
      go_roundg f
      case rel=>exact ⟨n+1,RR,acc++[x],v3,by go_num,rfl,by omega,by omega,hl3,hdl,hrel,hown3,⟨hob3.blk.drewN nq2,hob3.tr,hob3.ta⟩,⟨hi3.z.drewN nq2,bdrewN hi3.bel nq2⟩,hsz3⟩
      case measure=>exact Nat.lt_succ_self f
end
section
attribute [local go_sem ↓] ldvO_eq
theorem commitO_ok (i:Txt) (hi:i.length=32) (l:List Txt) (hl : ∀ p∈l,p.length=32) (n:Nat) (hn:n<4294967296) (t:Txt) (ht:t.length≤5000):ObjOk ⟨3,[],[],i,l,n,t,noId,0,[]⟩:=
 ⟨hi,zAc,(fun _ h=>by cases h),hl,by simp,by show t.length≤_;omega,by simp,hn,by simp,by simp,by simp,by simp⟩
theorem gPars_le : ∀ (n:Nat) (t:Txt) (acc:List Txt),(gPars n t acc).2.length≤t.length
 | 0,t,acc=>Nat.le_refl _
 | n+1,t,acc=>by
   rw [gPars]
   exact Nat.le_trans (gPars_le n _ _) (by rw [List.length_drop];omega)
theorem own_drewN {w:World} {B m k:Nat} {e:TypeId} {v:Value} {zs:List Value} (h:w.ownsRow B e k v m zs) (n:Nat):(w.drewN n).ownsRow B e k v m zs:=h
theorem getPair_is (s:Txt):getPair (get s) = .tuple #[.int .u64 (getN s).1, .int .i64 (getN s).2]:=by
 unfold getN
 cases get s<;>rfl
set_option maxRecDepth 100000 in
set_option maxHeartbeats 4000000 in
theorem guess_commit (c:UInt8) (q:Txt) (hl:q.length≤5000) (hk:c.toNat=3) (hn0 : ¬ (takeN q).2=0) (w:World):Calls Tryz.prog 55 #[.string (B (c::q))] w fun e w'=>GsR (gCommit (takeN q).1) w e w':=by
 have HK:=Lib.hid hk
 clear hk
 have hzv:=zeroObj
 have hzl:zObj.size=72:=zAu
 have htl:(takeN q).1.length≤q.length:=(zA2 q).2
 have htk : ∀ W,Calls Tryz.prog 83 #[.string (B q)] W fun e w'=>e = .returned (.tuple #[.string (B (takeN q).1), .int .i64 (takeN q).2])∧W=w':=fun W=>(zAI q (by omega) W).mono fun _ _ h=>⟨h.1,h.2.symm⟩
 generalize (takeN q).1=t at *
 generalize (takeN q).2=kn at *
 have hki:((kn:Int)==0)=false:=by simp;omega
 have hex:(B (c::q)).extract 1 (q.length+1)=B q:=by
  rw [zAR]
  simp
 obtain ⟨W1,hW1⟩ : ∃ W1,w.alloc (.cells zObj 74)=W1:=⟨_,rfl⟩
 have hx1:Blk W1 w.heap.size 74 zObj:=by rw [←hW1];exact Blk.new _ _ _
 have b1:Below w.heap.size w W1:=by rw [←hW1];exact (Below.refl _ _).alloc (Nat.le_refl _) _
 have hs1:w.heap.size<W1.heap.size:=by rw [←hW1];simp
 have htk:=Lib.hid htk
 have hc0:0≤(c.toNat:Int):=by omega
 have hc1:(c.toNat:Int)<256:=by have:=c.toNat_lt;omega
 have hbd:=zBp (c.toNat:Int)
 have e72:(objC ⟨c.toNat,[],[],noId,[],0,[],noId,0,[]⟩ (.slice none 0 0) (.slice none 0 0)).toArray.size=72:=by rw [List.size_toArray];unfold objC;simp only [List.length_cons,List.length_append,u8s_len,zAc,List.length_nil]
 have eone:(objC ⟨c.toNat,[],[],noId,[],0,[],noId,0,[]⟩ (.slice none 0 0) (.slice none 0 0)).toArray.all (·.oneCell')=true:=by kernel_rfl
 obtain ⟨X,hX⟩ : ∃ X,Hid (gCommit t=X):=⟨_,Lib.hid rfl⟩
 rw [hX.out]
 go_enter Tryz.func55,Tryz.ntmps55
 go_upto_if 26 with (first
  | ((with_reducible refine zA6 hbd ?_ ?_);rfl)
  | ((with_reducible refine lit_new 74 (.tmp 3) (.tmp 18) (objC ⟨c.toNat,[],[],noId,[],0,[],noId,0,[]⟩ (.slice none 0 0) (.slice none 0 0)).toArray 72 szObj e72 eone _ ?_ ?_ ?_ ?_)
     ·first | exact hzl | rfl
     ·rfl
     ·rfl
     intro W2 hb2 hbl2
     have hO2:ObjB W2 W1.heap.size ⟨c.toNat,[],[],noId,[],0,[],noId,0,[]⟩ (.slice none 0 0) (.slice none 0 0):=⟨hb2,zAc,zAc⟩
     have hI2:GsI w W2:=⟨hx1.below hbl2 hx1.lt,bthen b1 b1.size hbl2⟩
     have hgOB:W1.heap.size<W2.heap.size:=hb2.lt
     have tk2:=htk.out W2
     have tk2:=Lib.hid tk2
     clear hx1 b1 hb2 hbl2)
  | ((with_reducible refine tk2.out.mono ?_);rintro e w3 ⟨rfl,rfl⟩
     clear tk2))
 have ck:=hO2.kind
 simp only at ck
 have hsO:=hs1
 clear hW1 hbd e72 eone hs1
 generalize W1.heap.size=gO at *
 obtain ⟨BB,hBB⟩ : ∃ BB,BB=W2.heap.size:=⟨_,rfl⟩
 rw [←hBB] at hgOB
 have hnE:OwnEnts W2 BB (.slice none 0 0) []:=World.ownsRow_nil _ _ _ _
 have hnP:OwnIds W2 BB (.slice none 0 0) []:=World.ownsRow_nil _ _ _ _
 have hBs:BB≤W2.heap.size:=by omega
 have hwB:w.heap.size<BB:=by omega
 clear hBB
 rw [HK.out] at hO2 ck
 have hki2:(c.toNat:Int)=3:=by rw [HK.out];rfl
 clear hc0 hc1
 have hA:Hid ((⟨3,[],[],idG t,(gPars (min (getN (t.drop 32)).1 9) ((t.drop 32).drop (getN (t.drop 32)).2) []).1,(getN (gPars (min (getN (t.drop 32)).1 9) ((t.drop 32).drop (getN (t.drop 32)).2) []).2).1%4294967296,(takeN ((gPars (min (getN (t.drop 32)).1 9) ((t.drop 32).drop (getN (t.drop 32)).2) []).2.drop (getN (gPars (min (getN (t.drop 32)).1 9) ((t.drop 32).drop (getN (t.drop 32)).2) []).2).2)).1,noId,0,[]⟩:ObjL)=X):=hX.out
 clear hX hnP hnE
 have hi32:=idG_len t
 have hgi:=fun W=>Lib.hid (zDn t (by omega) W)
 have hb1 : ∀ W,Calls Tryz.prog 86 #[.string (B t), .int .i64 32] W fun e w'=>e = .returned (.string (B (t.drop 32))) ∧ ∃ nq,w'=W.drewN nq:=fun W=>zAY t 32 (by omega) (by omega) W
 have hal:(t.drop 32).length≤t.length:=by rw [List.length_drop];omega
 have hbl:((t.drop 32).drop (getN (t.drop 32)).2).length≤t.length:=by rw [List.length_drop];omega
 have hgl:=getN_le (t.drop 32)
 have hgn:=getN_num (t.drop 32)
 have hg1 : ∀ W,Calls Tryz.prog 51 #[.string (B (t.drop 32))] W fun e w'=>e = .returned (.tuple #[.int .u64 (getN (t.drop 32)).1, .int .i64 (getN (t.drop 32)).2])∧W=w':=fun W=>(zBC (t.drop 32) (by omega) W).mono fun _ _ h=>⟨by rw [←getPair_is];exact h.1,h.2.symm⟩
 have hb2 : ∀ W,Calls Tryz.prog 86 #[.string (B (t.drop 32)), .int .i64 (getN (t.drop 32)).2] W fun e w'=>e = .returned (.string (B ((t.drop 32).drop (getN (t.drop 32)).2))) ∧ ∃ nq,w'=W.drewN nq:=fun W=>zAY (t.drop 32) _ (by omega) (by omega) W
 have hPl:=gPars_le (min (getN (t.drop 32)).1 9) ((t.drop 32).drop (getN (t.drop 32)).2) []
 have hPs:=Lib.hid (zCY (min (getN (t.drop 32)).1 9) ((t.drop 32).drop (getN (t.drop 32)).2) [] (by simp))
 obtain ⟨P,hP⟩ : ∃ P,Hid (gPars (min (getN (t.drop 32)).1 9) ((t.drop 32).drop (getN (t.drop 32)).2) []=P):=⟨_,Lib.hid rfl⟩
 rw [hP.out] at hA hPl hPs
 have hg2l:=getN_le P.2
 have hg2n:=getN_num P.2
 have hg2 : ∀ W,Calls Tryz.prog 51 #[.string (B P.2)] W fun e w'=>e = .returned (.tuple #[.int .u64 (getN P.2).1, .int .i64 (getN P.2).2])∧W=w':=fun W=>(zBC P.2 (by omega) W).mono fun _ _ h=>⟨by rw [←getPair_is];exact h.1,h.2.symm⟩
 have hb3 : ∀ W,Calls Tryz.prog 86 #[.string (B P.2), .int .i64 (getN P.2).2] W fun e w'=>e = .returned (.string (B (P.2.drop (getN P.2).2))) ∧ ∃ nq,w'=W.drewN nq:=fun W=>zAY P.2 _ (by omega) (by omega) W
 have hdl:(P.2.drop (getN P.2).2).length≤P.2.length:=by rw [List.length_drop];omega
 have htk3 : ∀ W,Calls Tryz.prog 83 #[.string (B (P.2.drop (getN P.2).2))] W fun e w'=>e = .returned (.tuple #[.string (B (takeN (P.2.drop (getN P.2).2)).1), .int .i64 (takeN (P.2.drop (getN P.2).2)).2])∧W=w':=fun W=>(zAI (P.2.drop (getN P.2).2) (by omega) W).mono fun _ _ h=>⟨h.1,h.2.symm⟩
 have hnl:=(zA2 (P.2.drop (getN P.2).2)).2
 have hb1:=Lib.hid hb1
 have hb2:=Lib.hid hb2
 have hb3:=Lib.hid hb3
 have hg1:=Lib.hid hg1
 have hg2:=Lib.hid hg2
 have htk3:=Lib.hid htk3
 generalize takeN (P.2.drop (getN P.2).2)=TX at *
 generalize P.2.drop (getN P.2).2=R5 at *
 generalize getN P.2=G2 at *
 generalize idG t=ID at *
 generalize (t.drop 32).drop (getN (t.drop 32)).2=R2 at *
 generalize getN (t.drop 32)=G1 at *
 generalize t.drop 32=R1 at *
 go_upto_region 21 with (first
  | ((with_reducible refine (hgi _).out.mono ?_);rintro e w3 ⟨rfl,hbl3⟩
     have hO3:=hO2.below hbl3
     have hI3:=hI2.below hbl3
     have hs3:=Nat.le_trans hBs hbl3.size
     have ht3:=hO3.there 3 32 (by omega)
     clear hO2 hI2 hBs)
  | ((with_reducible refine zBo (.tmp 72) (.tmp 71) gO 3 ID hi32 ht3 ?_ ?_ ?_);rfl;rfl
     have hO4:=hO3.setTree ID hi32
     have hI4:=hI3.cells_ (o:=3) hsO (u8s ID).toList
     have hs4:BB≤(w3.setCells gO 3 (u8s ID).toList).heap.size:=by rw [zC4];exact hs3
     clear hO3 hI3 ht3 hs3)
  | ((with_reducible refine (hb1.out _).mono ?_);rintro e w5 ⟨rfl,nq,rfl⟩
     have hO5:=hO4.drewN nq
     have hI5:=hI4.drewN nq
     have hs5:BB≤((w3.setCells gO 3 (u8s ID).toList).drewN nq).heap.size:=hs4
     clear hO4 hI4 hs4)
  | ((with_reducible refine (hg1.out _).mono ?_);rintro e w6 ⟨rfl,rfl⟩)
  | ((with_reducible refine (hb2.out _).mono ?_);rintro e w7 ⟨rfl,nq2,rfl⟩
     have hO7:=hO5.drewN nq2
     have hI7:=hI5.drewN nq2
     have hs7:BB≤(((w3.setCells gO 3 (u8s ID).toList).drewN nq).drewN nq2).heap.size:=hs5
     clear hO5 hI5 hs5))
 clear hgi hb1 hg1 hb2 hex tk2
 rw [World.drewN_drewN] at hO7 hI7 hs7
 generalize (w3.setCells gO 3 (u8s ID).toList).drewN (nq+nq2)=W7 at *
 have hnP:OwnIds W7 BB (.slice none 0 0) []:=World.ownsRow_nil _ _ _ _
 have hOX:ObjB W7 gO ⟨3,[],[],ID,[],0,[],noId,0,[]⟩ (.slice none 0 0) (.slice none 0 0):=hO7
 have h9:min G1.1 9≤0+min G1.1 9:=by omega
 have h9':0+min G1.1 9≤min G1.1 9:=by omega
 have hRl:R2.length≤5000:=by omega
 clear hO7
 go_wp2_with (fail)
 go_loopg [4,12] (min G1.1 9) (fun f s4 s12 wr => ∃ (j:Nat) (t1:Txt) (acc:List Txt) (vp:Value),s12 = .int .u64 j∧s4 = .string (B t1)∧min G1.1 9≤j+f∧j+f≤min G1.1 9∧acc.length≤j∧t1.length≤5000∧Hid (gPars f t1 acc=P)∧OwnIds wr BB vp acc∧ObjB wr gO ⟨3,[],[],ID,acc,0,[],noId,0,[]⟩ (.slice none 0 0) vp∧GsI w wr∧BB≤wr.heap.size)
 case atStart=>exact ⟨0,R2,[], .slice none 0 0,rfl,rfl,h9,h9',by simp,hRl,hP,hnP,hOX,hI7,hs7⟩
 case round=>
  obtain ⟨j,t1,acc,vp,rfl,rfl,hj1,hj2,hacc,ht1,hrel,hown,hOb,hI,hsz⟩:=hrel
  clear hP hnP hOX hI7 hs7 hRl h9 h9'
  cases gk with
  | zero=>
    have hx:Hid ((acc,t1)=P):=hrel.out
    have e1:Hid (acc=P.1):=by show _=_;rw [←hx.out]
    have e2:Hid (t1=P.2):=by show _=_;rw [←hx.out]
    rw [e1.out] at hown hOb
    rw [e2.out]
    clear hrel hx e1 hacc e2 ht1
    have f36:=hOb.fr 36
    have c36:=hOb.time
    have hOt:=hOb.setTime (G2.1%4294967296)
    have hIt:=hI.set_ (o:=36) hsO (.int .u32 (G2.1%4294967296:Nat))
    have hwt:=own_set (p:=⟨gO,36,none⟩) hown hgOB (.int .u32 (G2.1%4294967296:Nat))
    have hcast:((G2.1%4294967296:Nat):Int)=(G2.1:Int)%4294967296:=by omega
    have e36:Value.int .u32 ((G2.1%4294967296:Nat):Int) = .int .u32 ((G2.1:Int)%4294967296):=by rw [hcast]
    rw [e36] at hOt hIt hwt
    have hem0:0≤(G2.1:Int)%4294967296:=by omega
    have hem1:(G2.1:Int)%4294967296<4294967296:=by omega
    have hok:ObjOk ⟨3,[],[],ID,P.1,G2.1%4294967296,TX.1,noId,0,[]⟩:=commitO_ok ID hi32 P.1 hPs.out _ (by omega) TX.1 (by omega)
    clear hcast e36 hOb hI
    by_cases hjn:j<G1.1
    ·have i1:(j:Int)<(G1.1:Int):=by omega
     have i2 : ¬ (j:Int)<9:=by omega
     go_upto_region 35 with (first
      | ((with_reducible refine (hg2.out _).mono ?_);rintro e w8 ⟨rfl,rfl⟩)
      | ((with_reducible refine (hb3.out _).mono ?_);rintro e w9 ⟨rfl,nq3,rfl⟩
         have hO9:=hOt.drewN nq3
         have hI9:=hIt.drewN nq3
         have f37:=hO9.fr 37
         have c37:=hO9.text
         clear hOt hIt f36 c36)
      | ((with_reducible refine (htk3.out _).mono ?_);rintro e w10 ⟨rfl,rfl⟩
         have hO10:=hO9.setText TX.1
         have hI10:=hI9.set_ (o:=37) hsO (.string (B TX.1))
         have hw10:=own_set (p:=⟨gO,37,none⟩) (own_drewN hwt nq3) hgOB (.string (B TX.1))
         clear hO9 hI9 hwt))
     all_goals try (exfalso;omega)
     have hzF:=hI10.z
     have hE10 : ∀ W,OwnEnts W BB (.slice none 0 0) []:=fun W=>World.ownsRow_nil _ _ _ _
     have hfin:=Lib.hid (GsR.of hok hI10 (hE10 _) hw10 hwB)
     have hq:=zAU hO10 hok
     have hc72:(objC (⟨3,[],[],ID,P.1,G2.1%4294967296,TX.1,noId,0,[]⟩:ObjL) (.slice none 0 0) vp).toArray.size=72:=by rw [List.size_toArray,zAC hok]
     have hcone:=zBN (⟨3,[],[],ID,P.1,G2.1%4294967296,TX.1,noId,0,[]⟩:ObjL) (hE10 _) hw10
     clear hI10 hO10 hE10 hw10 f37 c37
     have hX:Hid ((⟨3,[],[],ID,P.1,G2.1%4294967296,TX.1,noId,0,[]⟩:ObjL)=X):=hA
     generalize hcs:(objC (⟨3,[],[],ID,P.1,G2.1%4294967296,TX.1,noId,0,[]⟩:ObjL) (.slice none 0 0) vp).toArray=cs at *
     have HC:=Lib.hid hcs
     clear hcs
     have hcsz:(Tryz.prog.info? 74).map (·.size)=some cs.size:=by rw [hc72];exact szObj
     go_wp2_with (first
      | (refine wpList_store_row rfl 74 (.tmp 2) (.tmp 138) rfl w.heap.size cs rfl rfl _ _ hzF hcsz (by rw [hzl,hc72]) hcone ?_))
     exact bodyPost_ret (results_cell_row rfl _ _ w.heap.size _ _ _ _ rfl (setRow_heap _ _ _ _ _ _ hzF) Tryz.underlying74 rfl hcsz) rfl (by rw [←hX.out];exact hfin.out)
    ·have i1 : ¬ (j:Int)<(G1.1:Int):=by omega
     go_upto_region 35 with (first
      | ((with_reducible refine (hg2.out _).mono ?_);rintro e w8 ⟨rfl,rfl⟩)
      | ((with_reducible refine (hb3.out _).mono ?_);rintro e w9 ⟨rfl,nq3,rfl⟩
         have hO9:=hOt.drewN nq3
         have hI9:=hIt.drewN nq3
         have f37:=hO9.fr 37
         have c37:=hO9.text
         clear hOt hIt f36 c36)
      | ((with_reducible refine (htk3.out _).mono ?_);rintro e w10 ⟨rfl,rfl⟩
         have hO10:=hO9.setText TX.1
         have hI10:=hI9.set_ (o:=37) hsO (.string (B TX.1))
         have hw10:=own_set (p:=⟨gO,37,none⟩) (own_drewN hwt nq3) hgOB (.string (B TX.1))
         clear hO9 hI9 hwt))
     all_goals try (exfalso;omega)
     have hzF:=hI10.z
     have hE10 : ∀ W,OwnEnts W BB (.slice none 0 0) []:=fun W=>World.ownsRow_nil _ _ _ _
     have hfin:=Lib.hid (GsR.of hok hI10 (hE10 _) hw10 hwB)
     have hq:=zAU hO10 hok
     have hc72:(objC (⟨3,[],[],ID,P.1,G2.1%4294967296,TX.1,noId,0,[]⟩:ObjL) (.slice none 0 0) vp).toArray.size=72:=by rw [List.size_toArray,zAC hok]
     have hcone:=zBN (⟨3,[],[],ID,P.1,G2.1%4294967296,TX.1,noId,0,[]⟩:ObjL) (hE10 _) hw10
     clear hI10 hO10 hE10 hw10 f37 c37
     have hX:Hid ((⟨3,[],[],ID,P.1,G2.1%4294967296,TX.1,noId,0,[]⟩:ObjL)=X):=hA
     generalize hcs:(objC (⟨3,[],[],ID,P.1,G2.1%4294967296,TX.1,noId,0,[]⟩:ObjL) (.slice none 0 0) vp).toArray=cs at *
     have HC:=Lib.hid hcs
     clear hcs
     have hcsz:(Tryz.prog.info? 74).map (·.size)=some cs.size:=by rw [hc72];exact szObj
     go_wp2_with (first
      | (refine wpList_store_row rfl 74 (.tmp 2) (.tmp 138) rfl w.heap.size cs rfl rfl _ _ hzF hcsz (by rw [hzl,hc72]) hcone ?_))
     exact bodyPost_ret (results_cell_row rfl _ _ w.heap.size _ _ _ _ rfl (setRow_heap _ _ _ _ _ _ hzF) Tryz.underlying74 rfl hcsz) rfl (by rw [←hX.out];exact hfin.out)
  | succ f=>
    have i1:(j:Int)<(G1.1:Int):=by omega
    have i2:(j:Int)<9:=by omega
    have hrel:Hid (gPars f (t1.drop 32) (acc++[idG t1])=P):=hrel.out
    have hbe2 : ∀ W,Calls Tryz.prog 86 #[.string (B t1), .int .i64 32] W fun e w'=>e = .returned (.string (B (t1.drop 32))) ∧ ∃ nq,w'=W.drewN nq:=fun W=>zAY t1 32 (by omega) (by omega) W
    have hidc:=fun W=>Lib.hid (zDn t1 (by omega) W)
    have hdl1:(t1.drop 32).length≤5000:=by rw [List.length_drop];omega
    generalize t1.drop 32=RR at *
    have hbe2:=Lib.hid hbe2
    clear hg2 hb3 htk3
    go_upto_region 24 with (fail)
    all_goals try (exfalso;omega)
    have hota:=hOb.ta
    have hF1:F1 BB gO 74 (objC ⟨3,[],[],ID,acc,0,[],noId,0,[]⟩ (.slice none 0 0) vp).toArray 28 32 vp acc.length (rowsOf idC acc) (GsI w) (fun _=>True) wr.drew:=⟨hOb.blk.drew,hown,⟨hI.z.drew,hI.bel.drew⟩,trivial,hsz⟩
    have hcO:(objC ⟨3,[],[],ID,acc,0,[],noId,0,[]⟩ (.slice none 0 0) vp).toArray.size=72:=by rw [List.size_toArray];unfold objC;simp only [List.length_cons,List.length_append,u8s_len,zAc,hi32,List.length_nil]
    have hve:(objC ⟨3,[],[],ID,acc,0,[],noId,0,[]⟩ (.slice none 0 0) vp).toArray[35]?=some vp:=by rw [List.getElem?_toArray];exact obj_pars (o:=⟨3,[],[],ID,acc,0,[],noId,0,[]⟩) hi32
    have hset:Hid (∀ v':Value,(objC ⟨3,[],[],ID,acc,0,[],noId,0,[]⟩ (.slice none 0 0) vp).toArray.setIfInBounds 35 v'=(objC ⟨3,[],[],ID,acc++[idG t1],0,[],noId,0,[]⟩ (.slice none 0 0) v').toArray):=fun v'=>by
     rw [List.setIfInBounds_toArray]
     congr 1
     show _::_::_::((u8s ID).toList++_).set 32 _=_
     rw [set_app (by rw [u8s_len];exact hi32) (Nat.le_refl _)];rfl
    have hrow:Hid (rowsOf idC acc++idC (idG t1)=rowsOf idC (acc++[idG t1])):=by show _=_;rw [zAo,zAx]
    have hm1:acc.length+1≤9223372036854775807:=by omega
    have hm2:(acc.length+1)*32≤140737488355328:=by omega
    have hIb:=fun w1 w2 (h:GsI w w1) (hb:Below w1.heap.size w1 w2)=>h.below hb
    have hIB:=fun w1 w2 (h:GsI w w1) (hb:Below BB w1 w2)=>h.low hwB hb
    have hIs:=fun v w1 (h:GsI w w1)=>h.set_ (o:=35) hsO v
    have hJb:=fun (w1 w2:World) (_:True) (_:Below w1.heap.size w1 w2)=>trivial
    clear hOb hown hI
    generalize (objC ⟨3,[],[],ID,acc,0,[],noId,0,[]⟩ (.slice none 0 0) vp).toArray=cO at *
    obtain ⟨n',hn'⟩ : ∃ n',Hid (acc.length=n'):=⟨_,Lib.hid rfl⟩
    rw [hn'.out] at hF1 hm1 hm2
    obtain ⟨xs,hxs⟩ : ∃ xs,Hid (rowsOf idC acc=xs):=⟨_,Lib.hid rfl⟩
    rw [hxs.out] at hF1
    obtain ⟨II,hII⟩ : ∃ II,Hid (GsI w=II):=⟨_,Lib.hid rfl⟩
    rw [hII.out] at hF1
    have hIb : ∀ w1 w2,II w1→Below w1.heap.size w1 w2→II w2:=hII.out▸hIb
    have hIB : ∀ w1 w2,II w1→Below BB w1 w2→II w2:=hII.out▸hIB
    have hIs : ∀ v w1,II w1→II (w1.setCell ⟨gO,35,none⟩ v):=hII.out▸hIs
    obtain ⟨V,hV⟩ : ∃ V:Nat→Value,V=fun i=>[(.pointer (some ⟨gO,35,none⟩)),vp,(.string (B t1)),(.agg (u8s (idG t1))),undef,undef,(.pointer (some ⟨gO,35,none⟩)),undef].getD i undef:=⟨_,rfl⟩
    have v0:V 0=(.pointer (some ⟨gO,35,none⟩)):=by rw [hV];rfl
    have v1:V 1=vp:=by rw [hV];rfl
    have v2:V 2=(.string (B t1)):=by rw [hV];rfl
    have v3:V 3=(.agg (u8s (idG t1))):=by rw [hV];rfl
    have v6:V 6=(.pointer (some ⟨gO,35,none⟩)):=by rw [hV];rfl
    have v7:V 7=undef:=by rw [hV];rfl
    clear hV
    refine zA3 (C:=Stage 5 7 (F1 BB gO 74 cO 28 32 vp n' xs II (fun _=>True)) (F2 BB gO 74 cO II) (F3 BB gO 35 74 cO 28 32 n' xs (idC (idG t1)) II)) (R:=StR V 4 5 (LitR BB 28 vp (idC (idG t1))) (AppR BB 28 32 n' xs (idC (idG t1)))) (by kernel_rfl) (by kernel_rfl) (by kernel_rfl) ?_ ?_ ?_ ?_
    ·exact zA7 (n:=139) (by kernel_rfl)
    ·exact Stage.start hF1
    ·intro i o listed a w1 ho hi hL
     have hin:=(zAq hi).1
     have hsz:listed.size=8:=hL.size
     match i,ho with
     | 0,ho=>
       obtain rfl:=(Option.some.inj ho).symm
       have e0:a.tmps[3]?.getD undef=(.pointer (some ⟨gO,0,none⟩)):=(zAd a 3).trans (hL.get_old hi (by kernel_rfl))
       have hc:=Stage.same (i:=0) hL.cls (by decide) (by decide)
       refine step_wp rfl rfl ?_
       clear hi ho hL hin
       refine wp_val (v:=(.pointer (some ⟨gO,35,none⟩))) ?_ ⟨_,rfl,StR.mk (by decide) (by decide) v0.symm,hc,fun _ _ _ h=>h⟩
       clear v0 v1 v2 v3 v6 v7 hc
       unfold execOp
       go_simp
     | 1,ho=>
       obtain rfl:=(Option.some.inj ho).symm
       have hla:listed.getD 5 false=false:=hL.later (j:=5) hi (by kernel_rfl)
       have hls:listed.getD 7 false=false:=hL.later2 hla (by kernel_rfl)
       have hc1:=Stage.one hL.cls hla hls
       have e0:a.tmps[92]?.getD undef=(.pointer (some ⟨gO,35,none⟩)):=(zAd a 92).trans (((hL.get_new (j:=0) hi (by kernel_rfl)).at_ (by decide) (by decide)).trans v0)
       have hc:=Stage.same (i:=1) hL.cls (by decide) (by decide)
       refine step_wp rfl rfl ?_
       clear hi ho hL hin
       refine wp_val (v:=vp) ?_ ⟨_,rfl,StR.mk (by decide) (by decide) v1.symm,hc,fun _ _ _ h=>h⟩
       have f0:w1.cell? ⟨gO,35,none⟩=some vp:=by rw [hc1.blk.cell];exact hve
       clear hc1
       clear v0 v1 v2 v3 v6 v7 hc
       unfold execOp
       go_simp
     | 2,ho=>
       obtain rfl:=(Option.some.inj ho).symm
       have e0:a.tmps[4]?.getD undef=(.string (B t1)):=(zAd a 4).trans (hL.get_old hi (by kernel_rfl))
       have hc:=Stage.same (i:=2) hL.cls (by decide) (by decide)
       refine step_wp rfl rfl ?_
       clear hi ho hL hin
       refine wp_val (v:=(.string (B t1))) ?_ ⟨_,rfl,StR.mk (by decide) (by decide) v2.symm,hc,fun _ _ _ h=>h⟩
       clear v0 v1 v2 v3 v6 v7 hc
       unfold execOp
       go_simp
     | 3,ho=>
       obtain rfl:=(Option.some.inj ho).symm
       have hla:listed.getD 5 false=false:=hL.later2 (hL.later (j:=4) hi (by kernel_rfl)) (by kernel_rfl)
       have hls:listed.getD 7 false=false:=hL.later2 hla (by kernel_rfl)
       have hc1:=Stage.one hL.cls hla hls
       have e0:a.tmps[94]?.getD undef=(.string (B t1)):=(zAd a 94).trans (((hL.get_new (j:=2) hi (by kernel_rfl)).at_ (by decide) (by decide)).trans v2)
       refine step_wp rfl rfl ?_
       refine zCz rfl (vals := #[.string (B t1)]) (map1 (slot_is e0)) (by go_simp) (hidc w1).out ?_
       rintro e w2 ⟨rfl,hb2⟩
       exact ⟨_,rfl,_,rfl,StR.mk (by decide) (by decide) v3.symm,Stage.to1 (hc1.below hb2 (hIb _ _ hc1.inv hb2) trivial) hla hls (by decide) (by decide),fun j u _ h=>StR.keep (fun _ h=>h.below hb2) (fun _ h=>h.below hb2) j u h⟩
     | 4,ho=>
       obtain rfl:=(Option.some.inj ho).symm
       have hla:listed.getD 5 false=false:=hL.later (j:=5) hi (by kernel_rfl)
       have hls:listed.getD 7 false=false:=hL.later2 hla (by kernel_rfl)
       have hc1:=Stage.one hL.cls hla hls
       have e0:a.tmps[95]?.getD undef=(.agg (u8s (idG t1))):=(zAd a 95).trans (((hL.get_new (j:=3) hi (by kernel_rfl)).at_ (by decide) (by decide)).trans v3)
       refine step_wp rfl rfl ?_
       have hbA:Below w1.heap.size w1 (w1.alloc (.cells (idC (idG t1)).toArray 28)):=(Below.refl _ _).alloc (Nat.le_refl _) _
       refine zCg rfl Tryz.idsTy (by decide) (idC_len (idG_len t1)) (.inl (idC_agg ((zAd a 95).symm.trans e0))) ⟨_,rfl,StR.mkLit ⟨w1.heap.size,rfl,Blk.new _ _ _,hc1.size,fun h=>by have:=(World.ownsRow.lt hc1.own _ h).2;omega⟩,Stage.to1 (hc1.below hbA (hIb _ _ hc1.inv hbA) (hJb _ _ hc1.pre hbA)) hla hls (by decide) (by decide),fun j u _ h=>StR.keep (fun _ h=>h.below hbA) (fun _ h=>h.below hbA) j u h⟩
     | 5,ho=>
       obtain rfl:=(Option.some.inj ho).symm
       have hla:listed.getD 5 false=false:=(zAr (by rw [hsz];exact hin)).trans (zAq hi).2.1
       have hls:listed.getD 7 false=false:=hL.later2 hla (by kernel_rfl)
       have hc1:=Stage.one hL.cls hla hls
       have hx:=(hL.get_new (j:=4) (t:=96) hi (by kernel_rfl)).lit
       have hs:a.eval (.tmp 93)=vp:=((hL.get_new (j:=1) hi (by kernel_rfl)).at_ (by decide) (by decide)).trans v1
       refine step_wp rfl rfl ?_
       refine zD7 rfl Tryz.idsTy hc1 hgOB hx (idC_len (idG_len t1)) (idC_one (idG t1)) hm1 hm2 (fun w2 hb=>hIB _ _ hc1.inv hb) hs rfl ?_
       intro v2 w2 hf2 ha2 hk2 hb2
       exact ⟨_,rfl,StR.mkApp ha2 (by decide),Stage.to2 hf2 hls (by rw [hsz];decide) (by decide),fun j u hj h=>StR.keepL hk2 (fun e=>by rw [e,hla] at hj;cases hj) h⟩
     | 6,ho=>
       obtain rfl:=(Option.some.inj ho).symm
       have e0:a.tmps[3]?.getD undef=(.pointer (some ⟨gO,0,none⟩)):=(zAd a 3).trans (hL.get_old hi (by kernel_rfl))
       have hc:=Stage.same (i:=6) hL.cls (by decide) (by decide)
       refine step_wp rfl rfl ?_
       clear hi ho hL hin
       refine wp_val (v:=(.pointer (some ⟨gO,35,none⟩))) ?_ ⟨_,rfl,StR.mk (by decide) (by decide) v6.symm,hc,fun _ _ _ h=>h⟩
       clear v0 v1 v2 v3 v6 v7 hc
       unfold execOp
       go_simp
     | 7,ho=>
       obtain rfl:=(Option.some.inj ho).symm
       have hla:listed.getD 5 false=true:=hL.before hi (by kernel_rfl)
       have hls:listed.getD 7 false=false:=(zAr (by rw [hsz];exact hin)).trans (zAq hi).2.1
       have hc2:=Stage.two hL.cls hla hls
       have e0:a.tmps[98]?.getD undef=(.pointer (some ⟨gO,35,none⟩)):=(zAd a 98).trans (((hL.get_new (j:=6) hi (by kernel_rfl)).at_ (by decide) (by decide)).trans v6)
       have hv:=(hL.get_new (j:=5) (t:=97) hi (by kernel_rfl)).app (by decide)
       obtain ⟨vA,vK,hvv⟩:=zAm hv
       rw [hvv] at hv
       have e1:a.tmps[97]?.getD undef=_:=(zAd a 97).trans hvv
       have c0:(w1.cell? ⟨gO,35,none⟩).isSome=true:=(hc2.blk.there (o:=35) (n:=1) (by rw [hcO];decide) 0 (by decide)).1
       obtain ⟨c0v,c0⟩:=Option.isSome_iff_exists.1 c0
       have f0:=hc2.blk.frozen 35
       have hR:=fun u=>AppR.set_ (p:=⟨gO,35,none⟩) (hv) hgOB u
       have h3:=Stage.to3 (ap:=5) (P1:=(F1 BB gO 74 cO 28 32 vp n' xs II (fun _=>True))) (P2:=(F2 BB gO 74 cO II)) (hc2.stored (off:=35) hv hgOB (hIs _ _ hc2.inv)) (listed:=listed) (st:=7) (by rw [hsz];decide)
       refine step_wp rfl rfl ?_
       clear hi ho hL hin hc2
       refine wp_skip (w':=w1.setCell ⟨gO,35,none⟩ _) ?_ ⟨_,rfl,StR.mk (by decide) (by decide) v7.symm,h3,fun j u _ h=>StR.keep (fun _ h=>h.set_ hgOB _) (fun _ h=>AppR.set_ h hgOB _) j u h⟩
       clear v0 v1 v2 v3 v6 v7 h3
       unfold execOp
       go_simp
     | (n+8),ho=>exact absurd hin (by simp)
    ·intro a w1 listed hL hall
     obtain ⟨v3,hb3,ho3,hi3,hsz3⟩:=Stage.three hL.cls (hall 7 (by decide))
     rw [←hII.out] at hi3
     rw [hset.out] at hb3
     have hob3:ObjB w1 gO ⟨3,[],[],ID,acc++[idG t1],0,[],noId,0,[]⟩ (.slice none 0 0) v3:=⟨hb3,hi32,hota⟩
     rw [←hxs.out,←hn'.out,hrow.out] at ho3
     have hown3:OwnIds w1 BB v3 (acc++[idG t1]):=by unfold OwnIds;rw [List.length_append];exact ho3
     have hl3:(acc++[idG t1]).length≤j+1:=by rw [List.length_append];simp only [List.length_cons,List.length_nil];omega
     obtain ⟨vs,rfl,hR⟩:=hL.frame (by kernel_rfl) (zA7 (n:=139) (by kernel_rfl)) hall
     clear hL hall hR hF1 hIb hIB hIs hJb hII hset hrow hxs hn' hm1 hm2 hb3 ho3 hve hcO hidc
     simp only [putAll,Act.put,List.setIfInBounds_toArray,List.set_cons_zero,List.set_cons_succ]
     go_wp2_with (first
      | ((with_reducible refine (hbe2.out _).mono ?_);rintro e w5 ⟨rfl,nq2,rfl⟩))
     go_roundg f
     case rel=>exact ⟨j+1,RR,acc++[idG t1],v3,by go_num,rfl,by omega,by omega,hl3,hdl1,hrel,hown3,hob3.drewN nq2,hi3.drewN nq2,hsz3⟩
     case measure=>exact Nat.lt_succ_self f
end
end Go.Proofs.YtodebknbchaccaaGreatDoor
