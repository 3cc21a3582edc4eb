/- Texts of this claim, laid together: RdI, Splice, RdO, GraB, StitCl, StitBs, Sto, StitIn, StoW, Fold, StoB, RdB1, RdT. -/
import Derived.Test.YtlojebhcemfodaaGreatDoorMe
import Derived.Deep.MidRow
import Derived.Lib.SliceRun
import Derived.Shelf.RegionOpenPlain
import Derived.Lib.Overlaps
import Derived.Great.FillDense
namespace Go.Proofs.YtlojebhcemfodaaGreatDoor
open Go.RowKit
theorem bytes_or {n:Nat} (r:Rd):(rBytes n r).1=[]∨(rBytes n r).1.length=n:=by
 unfold rBytes
 split
 ·exact .inl rfl
 ·rename_i h
  refine .inr ?_
  have : ¬ r.1.length<n:=fun e=>h (.inr e)
  show (r.1.take n).length=n
  rw [List.length_take];omega
theorem byteCells_u8s (l:Txt):Lib.byteCells l=(u8s l).toList:=by simp [Lib.byteCells,u8s,u8v]
theorem idOr_some {b:Txt} (h:b.length=32):idOr b=b:=by unfold idOr;rw [if_neg];intro e;rw [e] at h;cases h
/-- copy(id[:], b): an id's bytes, or none. -/
theorem copy_id (w:World) {g:Nat} {b:Txt} (hg:Blk w g 42 (u8s noId)) (hb:b=[]∨b.length=32) (ty:TypeId) :
 ∃ v w1,(Builtin.copy_ #[23,9] ty #[.slice (some ⟨g,0,none⟩) 32 32, .string (B b)]).run Tryz.prog w = .ok v w1∧Blk w1 g 42 (u8s (idOr b))∧Far [some g] w w1:=by
 have hz:noId.length=32:=noId_len
 rcases hb with rfl | hb
 ·exact ⟨_,_,Lib.run_copy_empty_string (P:=Tryz.prog) w 23 9 ty 5 (some ⟨g,0,none⟩) 32 32 (B []) Tryz.underlying23 (by kernel_rfl) rfl,hg,Far.refl _ _⟩
 ·have h:=Lib.run_copy_row_string (P:=Tryz.prog) w 23 9 ty 5 g 0 32 32 (B b) (u8s noId) 42 Tryz.underlying23 (by kernel_rfl) hg (by rw [size_B,hb];exact Nat.le_refl _) (by rw [size_B,hb,u8s_size,hz];exact Nat.le_refl _)
  refine ⟨_,_,h,?_,?_⟩
  ·have e:((u8s noId).toList.take 0++Lib.byteCells (B b).data.toList++(u8s noId).toList.drop (0+(B b).size)).toArray=u8s (idOr b):=by
    have hd:(u8s noId).toList.drop (0+(B b).size)=[]:=List.drop_eq_nil_of_le (by rw [u8s_len,size_B,hz,hb];exact Nat.le_refl _)
    rw [idOr_some hb,hd,byteCells_u8s]
    simp [B]
   rw [e]
   exact setRow_heap _ _ _ _ _ _ hg
  ·exact ⟨rfl,rfl,rfl,by simp,fun k _ hn=>setRow_other _ _ _ _ (fun e=>hn (by rw [e];simp))⟩
set_option maxRecDepth 100000 in
set_option maxHeartbeats 2000000 in
theorem ri_calls (r:Rd) (hr:r.1.length≤100000) (g:Nat) (w:World) (hb:RdB w g r):Calls Tryz.prog 96 #[.pointer (some ⟨g,0,none⟩)] w fun e w'=>e = .returned (.agg (u8s (rId r).1))∧RdB w' g (rId r).2∧Far [some g] w w':=by
 have hlt:g<w.heap.size:=Blk.lt hb
 have z0:u8s noId=(#[.int .u8 0, .int .u8 0, .int .u8 0, .int .u8 0, .int .u8 0, .int .u8 0, .int .u8 0, .int .u8 0, .int .u8 0, .int .u8 0, .int .u8 0, .int .u8 0, .int .u8 0, .int .u8 0, .int .u8 0, .int .u8 0, .int .u8 0, .int .u8 0, .int .u8 0, .int .u8 0, .int .u8 0, .int .u8 0, .int .u8 0, .int .u8 0, .int .u8 0, .int .u8 0, .int .u8 0, .int .u8 0, .int .u8 0, .int .u8 0, .int .u8 0, .int .u8 0]:Array Value):=by kernel_rfl
 obtain ⟨Z,hZ⟩ : ∃ Z,u8s noId=Z:=⟨_,rfl⟩
 have hzv : ∀ W:World,(zeroValue 42).run Tryz.prog W = .ok (.agg Z) W:=fun W=>by
  have h:(Tryz.prog.info? 42).map (·.zero)=some (some (.agg (u8s noId))):=by rw [z0];kernel_rfl
  obtain ⟨i,h1,h2⟩:=Option.map_eq_some_iff.1 h
  rw [←hZ]
  simp [zeroValue,typeInfo,h1,h2]
 obtain ⟨W1,hW1⟩ : ∃ W1,w.alloc (.cells Z 42)=W1:=⟨_,rfl⟩
 have hs1:W1.heap.size=w.heap.size+1:=by rw [←hW1];simp
 obtain ⟨W2,hW2⟩ : ∃ W2,W1.alloc (.cells Z 42)=W2:=⟨_,rfl⟩
 have hx1:Blk W1 w.heap.size 42 Z:=by rw [←hW1];exact Blk.new _ _ _
 have hx2:Blk W2 w.heap.size 42 Z:=by rw [←hW2];exact hx1.alloc _
 have hy2:Blk W2 W1.heap.size 42 Z:=by rw [←hW2];exact Blk.new _ _ _
 have b2:Below w.heap.size w W2:=by rw [←hW2,←hW1];exact ((Below.refl _ _).alloc (Nat.le_refl _) _).alloc (by simp) _
 have hr2:RdB W2.drew g r:=(hb.below b2).drewN 1
 have hcall:Calls Tryz.prog 93 #[.pointer (some ⟨g,0,none⟩), .int .i64 32] W2.drew fun e w'=>e = .returned (.string (B (rBytes 32 r).1))∧RdB w' g (rBytes 32 r).2∧Far [some g] W2.drew w':=rb_calls 32 r hr (by omega) g W2.drew hr2
 have hcall:=Lib.hid hcall
 have hbo:=bytes_or (n:=32) r
 have hid1:(rId r).1=idOr (rBytes 32 r).1:=rfl
 have hid2:(rId r).2=(rBytes 32 r).2:=rfl
 rw [hid1,hid2]
 have hil:=rId_len r
 rw [hid1] at hil
 clear hid1 hid2 hr2 hb hx1
 obtain ⟨BS,hBS⟩ : ∃ BS,(rBytes 32 r).1=BS:=⟨_,rfl⟩
 obtain ⟨R2,hR2⟩ : ∃ R2,(rBytes 32 r).2=R2:=⟨_,rfl⟩
 rw [hBS] at hcall hbo hil ⊢
 rw [hR2] at hcall ⊢
 clear hBS hR2 z0
 have H1:=Lib.hid hs1
 clear hs1
 go_enter Tryz.func96,Tryz.ntmps96
 go_wp2
 have hyd:Blk W2.drew W1.heap.size 42 (u8s noId):=by rw [hZ];exact hy2
 have hxd:Blk W2.drew w.heap.size 42 Z:=hx2
 have hne:some W1.heap.size ∉ [some g]:=by have:=H1.out;simp;omega
 have hne2:some w.heap.size ∉ [some g]:=by simp;omega
 have hlA:w.heap.size≤W1.heap.size:=by have:=H1.out;omega
 have hAN:w.heap.size≠W1.heap.size:=by have:=H1.out;omega
 have b2d:Far [some g] w W2.drew:=Far.of_below b2.drew
 have hzs:Z.size=32:=by rw [←hZ,u8s_size,noId_len]
 have hsI:=sz32
 clear b2 hy2 hx2 H1 hW1 hW2 hZ hzv
 generalize hA:w.heap.size=A at *
 have HA:=Lib.hid hA
 clear hA
 generalize W1.heap.size=N at *
 go_region_with (first
  | ((with_reducible refine hcall.out.mono ?_);rintro e w3 ⟨rfl,hr3,hf3⟩
     obtain ⟨v4,w4,hc4,hy4,hf4⟩:=copy_id w3 (hf3.blk hyd hne) hbo 3
     clear hcall))
 have hx4:Blk w4 A 42 Z:=hf4.blk (hf3.blk hxd hne2) (by simpa using hAN)
 have hr4:RdB w4 g R2:=hf4.blk hr3 (by simp;omega)
 have hsz4:(u8s (idOr BS)).size=32:=by rw [u8s_size,hil]
 have hone:=u8s_one (idOr BS)
 have hff:Far [some g] w w4:=(b2d.then_ hf3 (fun k h => .inl h)).then_ hf4 (fun k h => .inr (by have:=HA.out;simp at h;omega))
 generalize hcs:u8s (idOr BS)=cs at *
 have HC:=Lib.hid hcs
 clear hcs
 clear hc4 hxd hyd hne hne2 hbo hil
 have hsc:(Tryz.prog.info? 42).map (·.size)=some cs.size:=by rw [hsz4];exact hsI
 go_wp2_with (first
  | (refine wpList_load_row rfl 42 (.tmp 3) rfl N rfl _ _ _ _ hy4 Tryz.underlying42 rfl hsc ?_)
  | (refine wpList_store_row rfl 42 (.tmp 2) (.tmp 8) rfl A cs rfl rfl _ _ hx4 hsc (by rw [hzs,hsz4]) hone ?_))
 exact bodyPost_ret (results_cell_row rfl _ _ A _ _ _ _ rfl (setRow_heap _ _ _ _ _ _ hx4) Tryz.underlying42 rfl hsc) rfl ⟨by rw [HC.out],(by unfold RdB Blk;rw [setRow_other _ _ _ _ (by omega)];exact hr4),hff.row (.inr (by have:=HA.out;omega)) cs⟩
end Go.Proofs.YtlojebhcemfodaaGreatDoor
namespace Go.Proofs.YtlojebhcemfodaaGreatDoor
open Go.RowKit
section
variable {w:World} {g:Nat} {t:TypeId}
theorem Blk.splice : ∀ (vs:List Value) (o:Nat) (w:World) (pre mid post:List Value),Blk w g t (pre++(mid++post)).toArray→pre.length=o→mid.length=vs.length→Blk (w.setCells g o vs) g t (pre++(vs++post)).toArray
 | [],o,w,pre,mid,post,h,_,hm=>by
   have:mid=[]:=List.length_eq_zero_iff.1 (by simpa using hm)
   subst this
   exact h
 | v::r,o,w,pre,[],post,_,_,hm=>by simp at hm
 | v::r,o,w,pre,m::mid,post,h,hp,hm=>by
   have h1:=h.set_ o v
   have e:(pre++(m::mid++post)).toArray.setIfInBounds o v=((pre++[v])++(mid++post)).toArray:=by
    rw [List.setIfInBounds_toArray]
    congr 1
    rw [List.set_append_right _ _ (by omega),hp,Nat.sub_self]
    simp
   rw [e] at h1
   have h2:=Blk.splice r (o+1) _ (pre++[v]) mid post h1 (by simp [hp]) (by simpa using hm)
   have e2:(pre++[v])++(r++post)=pre++(v::r++post):=by simp
   rwa [e2] at h2
theorem Blk.there {cs:Array Value} (h:Blk w g t cs) {o n:Nat} (hn:o+n≤cs.size):w.there g o n:=fun j hj=>by
 refine ⟨?_,h.frozen _⟩
 rw [h.cell,Array.getElem?_eq_getElem (by omega)]
 rfl
end
end Go.Proofs.YtlojebhcemfodaaGreatDoor
namespace Go.Proofs.YtlojebhcemfodaaGreatDoor
open Go.RowKit
section
variable {w:World} {g:Nat} {o:ObjL} {ve vp:Value}
theorem set_app {a b:List Value} {n i:Nat} {u:Value} (ha:a.length=n) (hi:n≤i):(a++b).set i u=a++b.set (i-n) u:=by rw [List.set_append_right _ _ (by omega),ha]
theorem ObjB.of_set (h:ObjB w g o ve vp) (i:Nat) (u:Value) {o':ObjL} {ve' vp':Value} (he:(objC o ve vp).set i u=objC o' ve' vp') (h1:o'.tree.length=32) (h2:o'.target.length=32):ObjB (w.setCell ⟨g,i,none⟩ u) g o' ve' vp':=by
 refine ⟨?_,h1,h2⟩
 have:=h.blk.set_ i u
 rwa [List.setIfInBounds_toArray,he] at this
theorem ObjB.setData (h:ObjB w g o ve vp) (s:Txt):ObjB (w.setCell ⟨g,1,none⟩ (.string (B s))) g { o with data:=s } ve vp:=h.of_set 1 _ rfl h.tr h.ta
theorem ObjB.setPars (h:ObjB w g o ve vp) (v:Value) (l:List Txt):ObjB (w.setCell ⟨g,35,none⟩ v) g { o with pars:=l } ve v:=h.of_set 35 _ (by
 show _::_::_::((u8s o.tree).toList++_).set 32 _=_
 rw [set_app (by rw [u8s_len,h.tr]) (Nat.le_refl _)];rfl) h.tr h.ta
theorem ObjB.setTime (h:ObjB w g o ve vp) (t:Nat):ObjB (w.setCell ⟨g,36,none⟩ (.int .u32 t)) g { o with time:=t } ve vp:=h.of_set 36 _ (by
 show _::_::_::((u8s o.tree).toList++_).set 33 _=_
 rw [set_app (by rw [u8s_len,h.tr]) (by omega)];rfl) h.tr h.ta
theorem ObjB.setText (h:ObjB w g o ve vp) (s:Txt):ObjB (w.setCell ⟨g,37,none⟩ (.string (B s))) g { o with text:=s } ve vp:=h.of_set 37 _ (by
 show _::_::_::((u8s o.tree).toList++_).set 34 _=_
 rw [set_app (by rw [u8s_len,h.tr]) (by omega)];rfl) h.tr h.ta
theorem ObjB.setOf (h:ObjB w g o ve vp) (n:Int):ObjB (w.setCell ⟨g,70,none⟩ (.int .i64 n)) g { o with of_:=n } ve vp:=h.of_set 70 _ (by
 show _::_::_::((u8s o.tree).toList++_).set 67 _=_
 rw [set_app (by rw [u8s_len,h.tr]) (by omega)]
 show _::_::_::(_++_::_::_::((u8s o.target).toList++_).set 32 _)=_
 rw [set_app (by rw [u8s_len,h.ta]) (by omega)];rfl) h.tr h.ta
theorem ObjB.setName (h:ObjB w g o ve vp) (s:Txt):ObjB (w.setCell ⟨g,71,none⟩ (.string (B s))) g { o with name:=s } ve vp:=h.of_set 71 _ (by
 show _::_::_::((u8s o.tree).toList++_).set 68 _=_
 rw [set_app (by rw [u8s_len,h.tr]) (by omega)]
 show _::_::_::(_++_::_::_::((u8s o.target).toList++_).set 33 _)=_
 rw [set_app (by rw [u8s_len,h.ta]) (by omega)];rfl) h.tr h.ta
theorem ObjB.setTree (h:ObjB w g o ve vp) (t:Txt) (ht:t.length=32):ObjB (w.setCells g 3 (u8s t).toList) g { o with tree:=t } ve vp:=by
 refine ⟨?_,ht,h.ta⟩
 have hb:Blk w g 54 ([.int .i64 o.kind, .string (B o.data),ve]++((u8s o.tree).toList++(vp :: .int .u32 o.time :: .string (B o.text)::((u8s o.target).toList++[.int .i64 o.of_, .string (B o.name)])))).toArray:=h.blk
 exact Blk.splice (u8s t).toList 3 w _ _ _ hb rfl (by rw [u8s_len,u8s_len,h.tr,ht])
theorem objC_split (o:ObjL) (ve vp:Value):objC o ve vp=(.int .i64 o.kind :: .string (B o.data)::ve::((u8s o.tree).toList++[vp, .int .u32 o.time, .string (B o.text)]))++((u8s o.target).toList++[.int .i64 o.of_, .string (B o.name)]):=by
 unfold objC
 simp
theorem ObjB.setTarget (h:ObjB w g o ve vp) (t:Txt) (ht:t.length=32):ObjB (w.setCells g 38 (u8s t).toList) g { o with target:=t } ve vp:=by
 refine ⟨?_,h.tr,ht⟩
 have hb:=h.blk
 rw [objC_split] at hb
 have:=Blk.splice (u8s t).toList 38 w _ _ _ hb (by simp [u8s_size,h.tr]) (by rw [u8s_len,u8s_len,h.ta,ht])
 rw [objC_split]
 exact this
theorem ObjB.there (h:ObjB w g o ve vp) (i n:Nat) (hn:i+n≤72):w.there g i n:=h.blk.there (by
 rw [List.size_toArray]
 unfold objC
 simp only [List.length_cons,List.length_append,u8s_len,h.tr,h.ta,List.length_nil]
 exact hn)
theorem ObjB.fr (h:ObjB w g o ve vp) (i:Nat):w.frozen? ⟨g,i,none⟩=false:=h.blk.frozen i
theorem ObjB.far {S:List (Option Nat)} {w':World} (h:ObjB w g o ve vp) (hf:Far S w w') (hg:some g ∉ S):ObjB w' g o ve vp:=⟨hf.blk h.blk hg,h.tr,h.ta⟩
end
theorem RdB.far {S:List (Option Nat)} {w w':World} {g:Nat} {r:Rd} (h:RdB w g r) (hf:Far S w w') (hg:some g ∉ S):RdB w' g r:=hf.blk h hg
theorem RdB.set_ {w:World} {g:Nat} {r:Rd} {p:Addr} (h:RdB w g r) (hp:g≠p.block) (u:Value):RdB (w.setCell p u) g r:=Blk.far h hp u
theorem RdB.cells_ {w:World} {g gO:Nat} {r:Rd} (h:RdB w g r) (hp:gO≠g) (vs:List Value) (o:Nat):RdB (w.setCells gO o vs) g r:=h.far (S:=[some gO]) (Far.cells (g:=gO) (.inl (by simp)) vs o _ (Far.refl _ _)) (by simp;omega)
/-- An id is stored into a field. -/
theorem lit_store_id {ops:Array Oper} {rest:List Oper} {a:Act} {w:World} {Q:Exit→Act→World→Prop} {d:Option Tmp} {rt:TypeId} {pos:String} {af:Array Edge} (x y:Operand) (g o:Nat) (u:Txt) (lu:u.length=32) (ht:w.there g o 32)
 (hx:a.eval x = .pointer (some ⟨g,o,none⟩)) (hy:a.eval y = .agg (u8s u)) (h:wpList Tryz.prog ops Q rest (a.put d undef) (w.setCells g o (u8s u).toList)):wpList Tryz.prog ops Q ({ dst:=d,op := .store 42 x y,type:=rt,pos:=pos,after:=af,guard:=none }::rest) a w:=
 wpList_store_mid rfl _ x y rfl g o (u8s u) hx hy (by rw [u8s_size,lu];exact ht) (by rw [u8s_size,lu];exact sz32) (u8s_one u) h
/-- The entries of an object that is read. -/
abbrev OwnEnts (w:World) (base:Nat) (v:Value) (l:List EntL):Prop:=w.ownsRow base 134 34 v l.length (rowsOf entC l)
/-- What a reader leaves: the object's block, its slices, the reader. -/
structure Been (w:World) (gO gR base:Nat) (o:ObjL) (r:Rd) (ve vp:Value) (w':World):Prop where
 obj:ObjB w' gO o ve vp
 ents:OwnEnts w' base ve o.ents
 pars:OwnIds w' base vp o.pars
 rd:RdB w' gR r
 far:Far [some gO,some gR] w w'
def Did (w:World) (gO gR base:Nat) (x:ObjL×Rd) (w':World):Prop := ∃ ve vp,Been w gO gR base x.1 x.2 ve vp w'
end Go.Proofs.YtlojebhcemfodaaGreatDoor
namespace Go.Proofs.YtlojebhcemfodaaGreatDoor
open Go.RowKit
attribute [local go_sem ↓] ldvI_eq ldvO_eq
set_option maxRecDepth 100000 in
set_option maxHeartbeats 2000000 in
theorem graOf_calls (l:List Txt) (hok : ∀ x∈l,x.length=32) (hbig:l.length≤900000) (v:Value) (w:World) (hv:Ids w v l) :
 Calls Tryz.prog 30 #[v] w fun e w' => ∃ v',e = .returned v'∧OwnIds w' w.heap.size v' (sortU l)∧Below w.heap.size w w':=by
 obtain ⟨W1,hW1⟩ : ∃ W1,w.alloc (.cells #[.slice none 0 0] 72)=W1:=⟨_,rfl⟩
 have n1:Blk W1 w.heap.size 72 #[.slice none 0 0]:=by rw [←hW1];exact Blk.new _ _ _
 have b1:Below w.heap.size w W1:=by rw [←hW1];exact (Below.refl _ _).alloc (Nat.le_refl _) _
 have s1:SetAt W1 w.heap.size w.heap.size (.slice none 0 0) []:=⟨n1,World.ownsRow_nil _ _ _ _,fun x hx=>by simp at hx,List.Pairwise.nil⟩
 have hzi:=zeroIdS
 have hZ32:(u8s noId).size=32:=by rw [u8s_size];rfl
 have hN:Hid (sortU l=sortU (l.take l.length)):=Lib.hid (by rw [List.take_length])
 generalize u8s noId=Z at *
 have hv0:=hv
 obtain ⟨A,cap,rfl,hcap1,hcap2,hat⟩:=hv
 clear n1
 generalize sortU l=R at *
 go_enter Tryz.func30,Tryz.ntmps30
 go_wp2
 go_loopg [8] l.length (fun f vi wr => ∃ (k:Nat) (vO:Value),vi = .int .i64 k∧k+f=l.length∧SetAt wr w.heap.size w.heap.size vO (sortU (l.take k))∧Below w.heap.size w wr)
 case atStart=>exact ⟨0, .slice none 0 0,rfl,by omega,s1,b1⟩
 case round=>
  clear s1 hW1
  obtain ⟨k,vO,rfl,hkf,hS,hbel⟩:=hrel
  have hbs:=hbel.size
  cases gk with
  | zero=>
    have hki : ¬ (k:Int)<(l.length:Int):=by omega
    obtain rfl:k=l.length:=by omega
    have c0:=hS.c0
    have ho:=hS.own
    rw [←hN.out] at ho
    obtain ⟨A3,c3,rfl⟩:=own_form' ho
    clear hat hS
    go_wp2
    go_ret
    exact ⟨_,rfl,ho,hbel⟩
  | succ f=>
    have hki:(k:Int)<(l.length:Int):=by omega
    obtain ⟨ga,oa,rfl,hga,hca⟩:=hat (by omega)
    obtain ⟨x,hx⟩ : ∃ x,l[k]?=some x:=⟨_,List.getElem?_eq_getElem (by omega)⟩
    have hxi:=hok x (List.mem_of_getElem? hx)
    have hl1:(ldvI ⟨ga,oa+k*32,none⟩).run Tryz.prog wr = .ok (.agg (u8s x)) wr:=by
     have hr:=rangeAt_below (hca k x hx) hga hbel
     exact run_ldvI_at (show World.rangeAt wr ga (oa+k*32) (u8s x).toList from hr) hxi
    have hx32:(u8s x).size=32:=by rw [u8s_size,hxi]
    have hx1:=u8s_one x
    have hle:(sortU (l.take k)).length≤900000:=by have:=sortU_len (l.take k);rw [List.length_take] at this;omega
    have hnext:Hid (sortU (l.take (k+1))=insU (sortU (l.take k)) x):=Lib.hid (sortU_more hx)
    have hadd:=fun W (hW:Below wr.heap.size wr W)=>Lib.hid (setAdd_calls (hS.below hW) (Nat.le_trans hbs hW.size) hle x hxi)
    have hvO : ∀ q,vO.ownBlock=some q→w.heap.size≤q:=fun q hq=>(World.ownsRow.lt hS.own q hq).1
    have hld2 : ∀ W g,Blk W g 42 (u8s x)→(ldvI ⟨g,0,none⟩).run Tryz.prog W = .ok (.agg (u8s x)) W:=fun W g h=>run_ldvI_at (range_blk h) hxi
    clear hat hca hx hS hle
    go_wp2_with (first
     | ((with_reducible refine lit_new 42 (.tmp 5) (.tmp 11) (u8s x) 32 sz32 hx32 hx1 _ ?_ ?_ ?_ ?_)
        ·first | exact hZ32 | rfl
        ·rfl
        ·rfl
        intro W2 hb2 hbl2
        have hl2:=hld2 W2 _ hb2
        have ha2:=hadd W2 hbl2)
     | ((with_reducible refine ha2.out.mono ?_);rintro e w3 ⟨rfl,v3,hS3,hf3,_⟩))
    have hb3:Below w.heap.size w w3:=(hbel.trans (hbl2.mono hbs)).trans (hf3.below (Nat.le_trans hbs hbl2.size) fun q hq=>by
     simp only [List.mem_cons,List.not_mem_nil,or_false] at hq
     rcases hq with h | h
     ·injection h with h;omega
     ·exact hvO q h.symm)
    rw [←hnext.out] at hS3
    clear hl1 hl2 hld2 hadd ha2 hb2
    go_roundg f
    case rel=>exact ⟨k+1,v3,by go_num,by omega,hS3,hb3⟩
    case measure=>omega
theorem small_cut {o:ObjL} (h:Small o):Small { o with pars:=[] }:=⟨h.ents,h.names,by simp,h.data,h.text,h.name⟩
theorem ok_cut {o:ObjL} (h:ObjOk o):ObjOk { o with pars:=[] }:=⟨h.tree,h.target,h.ents,fun p hp=>by simp at hp,h.data,h.text,h.name,h.time,h.k1,h.k2,h.f1,h.f2⟩
set_option maxRecDepth 100000 in
set_option maxHeartbeats 4000000 in
theorem graLinks_calls (o:ObjL) (hs:Small o) (n:Txt) (hn:n.length=32) (cut:List Txt) (hcok : ∀ x∈cut,x.length=32) (hcr:RiseL cut) (hcl:cut.length≤900000) (vc:Value) (A1 A2:Option Addr) (k1 k2:Nat) (w:World) (hvc:Ids w vc cut) (hv:ObjV w (.slice A1 o.ents.length k1) (.slice A2 o.pars.length k2) o) :
 Calls Tryz.prog 34 #[.agg (u8s n), .agg (objC o (.slice A1 o.ents.length k1) (.slice A2 o.pars.length k2)).toArray,vc] w fun e w' => ∃ v',e = .returned v'∧OwnLinks w' w.heap.size v' (linksL (cutO cut n o))∧Below w.heap.size w w':=by
 obtain ⟨W1,hW1,b1,n1,ld⟩:=boxIdS w n hn
 obtain ⟨W2,hW2⟩ : ∃ W2,W1.alloc (.cells (objC o (.slice A1 o.ents.length k1) (.slice A2 o.pars.length k2)).toArray 54)=W2:=⟨_,rfl⟩
 have bb2:Below W1.heap.size W1 W2:=by rw [←hW2];exact (Below.refl _ _).alloc (Nat.le_refl _) _
 have b2:=bthen b1 b1.size bb2
 have hO:ObjB W2 W1.heap.size o (.slice A1 o.ents.length k1) (.slice A2 o.pars.length k2):=⟨by rw [←hW2];exact Blk.new _ _ _,hv.ok.tree,hv.ok.target⟩
 have q1:=ld W2 bb2
 have hv2:=hv.below b2
 have hsz1:=b1.size
 have hsz2:=b2.size
 have hck:=hO.kind
 have hhas:=fun W (hW:Below W2.heap.size W2 W)=>Lib.hid (setHas_calls cut hcok hcr (by omega) vc n hn W (hvc.below (bthen b2 b2.size hW)))
 have hlk:=fun W (hW:Below W2.heap.size W2 W)=>Lib.hid (links_calls o hs A1 A2 k1 k2 W (hv2.below hW))
 have hld:=fun W (hW:Below W2.heap.size W2 W)=>run_ldvO (hO.below hW) hv.ok
 obtain ⟨Ac,cc,rfl,_⟩:=hvc
 obtain ⟨NC,hNC⟩ : ∃ NC,u8s n=NC:=⟨_,rfl⟩
 rw [hNC] at hW1 hhas q1 ⊢
 obtain ⟨OC,hOC⟩ : ∃ OC,(objC o (.slice A1 o.ents.length k1) (.slice A2 o.pars.length k2)).toArray=OC:=⟨_,rfl⟩
 rw [hOC] at hW2 hlk hld ⊢
 clear ld n1 hNC
 by_cases hk3:o.kind=3
 ·obtain ⟨b,hb⟩ : ∃ b,inL cut n=b:=⟨_,rfl⟩
  rw [hb] at hhas
  cases b with
  | false=>
    have hcu:Hid (cutO cut n o=o):=Lib.hid (by unfold cutO;rw [hb,if_neg (by simp)])
    have hkk:(o.kind==3)=true:=by rw [hk3];rfl
    have hh2:=hhas W2 (Below.refl _ _)
    have hsr:=hlk
    clear hb hOC hk3 hlk hhas
    go_enter Tryz.func34,Tryz.ntmps34
    go_wp2_with (first
     | ((with_reducible refine hh2.out.mono ?_);rintro e w3 ⟨rfl,hb3⟩
        have hl3:=hld w3 hb3
        have hk4:=hsr w3 hb3)
     | ((with_reducible refine hk4.out.mono ?_);rintro e w4 ⟨v4,rfl,ho4,hb4⟩))
    go_ret
    have b3:=bthen b2 hsz2 hb3
    rw [hcu.out]
    exact ⟨_,rfl,own_low ho4 b3.size,bthen b3 b3.size hb4⟩
  | true=>
    have hcu:Hid (cutO cut n o={ o with pars:=[] }):=Lib.hid (by unfold cutO;rw [hb,if_pos ⟨hk3,rfl⟩])
    have hkk:(o.kind==3)=true:=by rw [hk3];rfl
    have hh2:=hhas W2 (Below.refl _ _)
    have hc35:=fun W (hW:Below W2.heap.size W2 W)=>(hO.below hW).at_ (obj_pars hv.ok.tree)
    have hf35:=fun W (hW:Below W2.heap.size W2 W)=>(hO.below hW).fr 35
    have hO3:=fun W (hW:Below W2.heap.size W2 W)=>(hO.below hW).setPars (.slice none 0 0) []
    clear hb hOC hk3 hlk hhas hld
    go_enter Tryz.func34,Tryz.ntmps34
    go_wp2_with (first
     | ((with_reducible refine hh2.out.mono ?_);rintro e w3 ⟨rfl,hb3⟩
        have b3:=bthen b2 hsz2 hb3
        have q35:=hc35 w3 hb3
        have f35:=hf35 w3 hb3
        have hO4:=hO3 w3 hb3
        have hb35:Below w.heap.size w (w3.setCell ⟨W1.heap.size,35,none⟩ (.slice none 0 0)):=below_setCells [.slice none 0 0] 35 w w3 b3 hsz1
        have hv3:ObjV (w3.setCell ⟨W1.heap.size,35,none⟩ (.slice none 0 0)) (.slice A1 o.ents.length k1) (.slice none ([]:List Txt).length 0) { o with pars:=[] }:=⟨ok_cut hv.ok,hv.ents.below hb35,SliceAt.nil⟩
        have hk4:=links_calls { o with pars:=[] } (small_cut hs) A1 none k1 0 _ hv3
        have hl4:=run_ldvO hO4 (ok_cut hv.ok)
        rw [show (Value.slice none ({ o with pars:=[] }:ObjL).pars.length 0) = .slice none 0 0 from rfl,show ({ o with pars:=[] }:ObjL).ents=o.ents from rfl] at hk4
        obtain ⟨o2,ho2⟩ : ∃ o2:ObjL,{ o with pars:=[] }=o2:=⟨_,rfl⟩
        rw [ho2] at hk4 hl4 hcu
        replace hk4:=Lib.hid hk4
        clear ho2 hv3 hO4)
     | ((with_reducible refine hk4.out.mono ?_);rintro e w4 ⟨v4,rfl,ho4,hb4⟩))
    go_ret
    rw [hcu.out]
    exact ⟨_,rfl,own_low ho4 hb35.size,bthen hb35 hb35.size hb4⟩
 ·have hcu:Hid (cutO cut n o=o):=Lib.hid (by unfold cutO;rw [if_neg (fun h=>hk3 h.1)])
  have hkk:(o.kind==3)=false:=by simpa using hk3
  have hl3:=hld W2 (Below.refl _ _)
  have hk4:=hlk W2 (Below.refl _ _)
  clear hOC hk3 hlk hhas hld
  go_enter Tryz.func34,Tryz.ntmps34
  go_wp2_with (first
   | ((with_reducible refine hk4.out.mono ?_);rintro e w4 ⟨v4,rfl,ho4,hb4⟩))
  go_ret
  rw [hcu.out]
  exact ⟨_,rfl,own_low ho4 hsz2,bthen b2 hsz2 hb4⟩
end Go.Proofs.YtlojebhcemfodaaGreatDoor
namespace Go.Proofs.YtlojebhcemfodaaGreatDoor
open Go.RowKit
def StitsOk (l:List StL):Prop := ∀ r∈l,StitOk r
theorem stitK {l:List StL} (h:StitsOk l) : ∀ x∈l,(stitC x).length=33:=fun x hx=>stitC_len (h x hx)
theorem stitOne (l:List StL) : ∀ u∈rowsOf stitC l,u.oneCell'=true:=rowsOf_one' fun x _=>stitC_one x
theorem szStit : (Tryz.prog.info? 121).map (·.size)=some 33:=by kernel_rfl
theorem sizedStit {r:StL} (h:StitOk r):(Tryz.prog.info? 121).map (·.size)=some (stitC r).length:=by rw [stitC_len h];exact szStit
abbrev Stits (w:World) (v:Value) (l:List StL):Prop:=SliceAt w 33 stitC v l
abbrev OwnStits (w:World) (base:Nat) (v:Value) (l:List StL):Prop:=w.ownsRow base 121 33 v l.length (rowsOf stitC l)
theorem OwnStits.refs {w:World} {base:Nat} {v:Value} {l:List StL} (hok:StitsOk l) (h:OwnStits w base v l):Stits w v l:=SliceAt.of_own (stitK hok) h
theorem range_blkStit {w:World} {g:Nat} {r:StL} (h:Blk w g 121 (stitC r).toArray):w.rangeAt g 0 (stitC r):=by
 have:=range_blk h
 rwa [List.toList_toArray] at this
/-- A whole element is loaded: a word of its own, so that the walk does not open it. -/
def ldvStit (p:Addr):Sem Value:=loadVar 121 p
theorem ldvStit_eq (p:Addr):loadVar 121 p=ldvStit p:=rfl
theorem run_ldvStit {w:World} {g o:Nat} {x:StL} (h:w.rangeAt g o (stitC x)) (hx:StitOk x):(ldvStit ⟨g,o,none⟩).run Tryz.prog w = .ok (.agg (stitC x).toArray) w:=
 run_loadVar_mid (P:=Tryz.prog) w g o 121 (stitC x) _ h Tryz.underlying121 rfl (sizedStit hx)
theorem OwnStits.of_row {w:World} {base g cap:Nat} {l:List StL} (hok:StitsOk l) (h:Row w g 121 33 stitC cap l) (hg:base≤g) {n:Nat} (hn:n=l.length):OwnStits w base (.slice (some ⟨g,0,none⟩) n cap) l:=by
 subst hn
 exact h.own (stitK hok) hg
theorem zStit_cells : zStit.cells.size=33:=rfl
end Go.Proofs.YtlojebhcemfodaaGreatDoor
namespace Go.Proofs.YtlojebhcemfodaaGreatDoor
open Go.RowKit
attribute [local go_sem ↓] ldvStit_eq ldvI_eq
theorem bel_keep {w0 w:World} {f:FuncId} {args:Array Value} {v:Value} (hW:Below w0.heap.size w0 w) (h:Calls Tryz.prog f args w fun e w'=>e = .returned v∧Below w.heap.size w w') :
 Calls Tryz.prog f args w fun e w'=>e = .returned v∧Below w0.heap.size w0 w':=h.mono fun _ _ ⟨he,hb⟩=>⟨he,bthen hW hW.size hb⟩
set_option maxRecDepth 100000 in
set_option maxHeartbeats 4000000 in
theorem bsfStits_calls (l:List StL) (hok:StitsOk l) (hbig:l.length≤1000000) (v:Value) (w:World) (hv:Stits w v l) (f:FuncId) (hf : ∀ (a:Array Value) (W:World),(callFunc f a).run Tryz.prog W = .ok (.enter f a) W) (n:List UInt8) (hn:n.length=32) (cmp:StL→Int)
 (hcl : ∀ (W:World) (x:StL),x∈l→Below w.heap.size w W→Calls Tryz.prog f #[.agg (stitC x).toArray, .agg (u8s n)] W fun e w'=>e = .returned (.int .i64 (cmp x))∧Below W.heap.size W w')
 (p:Nat) (hp:p≤l.length) (hcmp : ∀ i x,l[i]?=some x→(cmp x<0↔i<p)) :
 Calls Tryz.prog 81 #[v, .agg (u8s n), .func (.func f) #[] #[]] w fun e w'=>
  e = .returned (.tuple #[.int .i64 p, .bool (hitAt cmp l p)])∧Below w.heap.size w w':=by
 obtain ⟨A,cap,rfl,hcap1,hcap2,hat⟩:=hv
 have hcmp:=Lib.hid hcmp
 obtain ⟨b,hb⟩ : ∃ b,Hid (b=hitAt cmp l p):=⟨_,Lib.hid rfl⟩
 rw [←hb.out]
 obtain ⟨W1,hW1⟩ : ∃ W1,w.alloc (.cells (u8s n) 42)=W1:=⟨_,rfl⟩
 have hn1:Blk W1 w.heap.size 42 (u8s n):=by rw [←hW1];exact Blk.new _ _ _
 have bW1:Below w.heap.size w W1:=by rw [←hW1];exact (Below.refl _ _).alloc (Nat.le_refl _) _
 have hsI:(Tryz.prog.info? 42).map (·.size)=some (u8s n).toList.length:=by rw [u8s_lenS,hn];exact sz32
 obtain ⟨NC,hNC⟩ : ∃ NC,u8s n=NC:=⟨_,rfl⟩
 rw [hNC] at hW1 hn1 hsI hcl ⊢
 clear hNC
 go_enter Tryz.func81,Tryz.ntmps81
 go_wp2
 go_loopw [9,10] (fun vi vj wr => ∃ lo hi:Nat,vi = .int .i64 lo∧vj = .int .i64 hi∧lo≤p∧p≤hi∧hi≤l.length∧Below W1.heap.size W1 wr) (fun vi vj _=>(intOf vj).toNat-(intOf vi).toNat)
 case atStart=>exact ⟨0,l.length,rfl,rfl,by omega,hp,by omega,Below.refl _ _⟩
 case round=>
  obtain ⟨lo,hi,rfl,rfl,hlo,hhi,hle,hbel⟩:=hrel
  clear hW1
  by_cases hlt:lo<hi
  ·have hli:(lo:Int)<(hi:Int):=by omega
   obtain ⟨m,hm⟩ : ∃ m:Nat,Hid (m=(lo+hi) / 2):=⟨_,Lib.hid rfl⟩
   have hm2:((lo:Int)+(hi:Int)) / 2=(m:Int):=by rw [hm.out];omega
   have hml:m<l.length:=by rw [hm.out];omega
   have hmi:(m:Int)<(l.length:Int):=by omega
   have hmlo:lo≤m:=by rw [hm.out];omega
   have hmhi:m<hi:=by rw [hm.out];omega
   obtain ⟨g,o,rfl,hg,hcell⟩:=hat (by omega)
   obtain ⟨x,hx⟩ : ∃ x,l[m]?=some x:=⟨_,List.getElem?_eq_getElem hml⟩
   have hxm:=List.mem_of_getElem? hx
   have hxok:=hok x hxm
   have hxr:=hcell m x hx
   have hc2:=fun W hb=>hcl W x hxm hb
   have hd:=hcmp.out m x hx
   clear hx hcell hat hcl
   go_wp2
   refine wp_region_class (C:=fun W=>Below W1.heap.size W1 W) (by kernel_rfl) (by kernel_rfl) hbel.drew ?_
   repeat
    first
     | ((with_reducible refine wpQuiet_ex ?_ ?_)
        ·(go_simp;done)
        apply Exists.intro
        refine ⟨fun W hW=>?_,?_⟩
        ·have hb0:=bthen bW1 bW1.size hW
         have q0:=run_ldvStit (rangeAt_below hxr hg hb0) hxok
         have q1:(ldvI ⟨w.heap.size,0,none⟩).run Tryz.prog W = .ok (.agg NC) W:=by
          have:=run_loadVar_mid (P:=Tryz.prog) W w.heap.size 0 42 NC.toList _ (range_blk (hn1.below hW hn1.lt)) Tryz.underlying42 rfl hsI
          rwa [Array.toArray_toList] at this
         have hkeep:=bel_keep hW (hc2 W hb0)
         go_simp
         first
          | rfl
          | (with_reducible exact hkeep)
        simp only [Act.put,List.setIfInBounds_toArray,List.set_cons_zero,List.set_cons_succ])
     | ((with_reducible refine wpQuiet_pass ?_ ?_)
        ·(first | rfl | (go_simp;done))
        simp only [Act.put,List.setIfInBounds_toArray,List.set_cons_zero,List.set_cons_succ])
   with_reducible refine wpQuiet_nil ?_
   intro w5 hW5
   by_cases hneg:cmp x<0
   ·have hmp:m<p:=hd.1 hneg
    clear hd
    go_wp2
    go_roundw
    case rel=>exact ⟨m+1,hi,by go_num,rfl,by omega,hhi,hle,hW5⟩
    case measure=>simp [intOf];omega
   ·have hmp : ¬ m<p:=fun h=>hneg (hd.2 h)
    clear hd
    go_wp2
    go_roundw
    case rel=>exact ⟨lo,m,rfl,by go_num,hlo,by omega,by omega,hW5⟩
    case measure=>simp [intOf];omega
  ·obtain rfl:lo=p:=by omega
   obtain rfl:hi=lo:=by omega
   by_cases hlp:hi<l.length
   ·have hli:(hi:Int)<(l.length:Int):=by omega
    obtain ⟨g,o,rfl,hg,hcell⟩:=hat (by omega)
    obtain ⟨x,hx⟩ : ∃ x,l[hi]?=some x:=⟨_,List.getElem?_eq_getElem hlp⟩
    have hxm:=List.mem_of_getElem? hx
    have hxok:=hok x hxm
    have hxr:=hcell hi x hx
    have hc2:=fun W hb=>hcl W x hxm hb
    have hb':Hid (b=decide (cmp x=0)):=by show _=_;rw [hb.out,hitAt_some hx]
    clear hx hcell hat hb hcl
    go_wp2
    refine wp_region_class (C:=fun W=>Below W1.heap.size W1 W) (by kernel_rfl) (by kernel_rfl) hbel.drew ?_
    repeat
     first
      | ((with_reducible refine wpQuiet_ex ?_ ?_)
         ·(go_simp;done)
         apply Exists.intro
         refine ⟨fun W hW=>?_,?_⟩
         ·have hb0:=bthen bW1 bW1.size hW
          have q0:=run_ldvStit (rangeAt_below hxr hg hb0) hxok
          have q1:(ldvI ⟨w.heap.size,0,none⟩).run Tryz.prog W = .ok (.agg NC) W:=by
           have:=run_loadVar_mid (P:=Tryz.prog) W w.heap.size 0 42 NC.toList _ (range_blk (hn1.below hW hn1.lt)) Tryz.underlying42 rfl hsI
           rwa [Array.toArray_toList] at this
          have hkeep:=bel_keep hW (hc2 W hb0)
          go_simp
          first
           | rfl
           | (with_reducible exact hkeep)
         simp only [Act.put,List.setIfInBounds_toArray,List.set_cons_zero,List.set_cons_succ])
      | ((with_reducible refine wpQuiet_pass ?_ ?_)
         ·(first | rfl | (go_simp;done))
         simp only [Act.put,List.setIfInBounds_toArray,List.set_cons_zero,List.set_cons_succ])
    with_reducible refine wpQuiet_nil ?_
    intro w5 hW5
    go_wp2
    go_ret2
    exact ⟨by rw [hb'.out];rfl,bthen bW1 bW1.size hW5⟩
   ·have hli : ¬ (hi:Int)<(l.length:Int):=by omega
    have hb':Hid (b=false):=by show _=_;rw [hb.out,hitAt_none (by omega)]
    clear hb hat
    go_wp2
    refine wp_region_class (C:=fun W=>Below W1.heap.size W1 W) (by kernel_rfl) (by kernel_rfl) hbel.drew ?_
    repeat
     first
      | ((with_reducible refine wpQuiet_ex ?_ ?_)
         ·(go_simp;done)
         apply Exists.intro
         refine ⟨fun W hW=>?_,?_⟩
         ·go_simp
          first
           | rfl
         simp only [Act.put,List.setIfInBounds_toArray,List.set_cons_zero,List.set_cons_succ])
      | ((with_reducible refine wpQuiet_pass ?_ ?_)
         ·(first | rfl | (go_simp;done))
         simp only [Act.put,List.setIfInBounds_toArray,List.set_cons_zero,List.set_cons_succ])
    with_reducible refine wpQuiet_nil ?_
    intro w5 hW5
    go_wp2
    go_ret2
    exact ⟨by rw [hb'.out];rfl,bthen bW1 bW1.size hW5⟩
end Go.Proofs.YtlojebhcemfodaaGreatDoor
namespace Go.Proofs.YtlojebhcemfodaaGreatDoor
open Go.RowKit
attribute [local go_sem ↓] ldvI_eq
set_option maxRecDepth 100000 in
set_option maxHeartbeats 1000000 in
theorem stoPlace1_calls (x:StL) (hx:StitOk x) (n:List UInt8) (hn:n.length=32) (w:World):Calls Tryz.prog 82 #[.agg (stitC x).toArray, .agg (u8s n)] w fun e w'=>e = .returned (.int .i64 (Lib.compareBytes x.id n))∧Below w.heap.size w w':=by
 obtain ⟨W1,hW1⟩ : ∃ W1,w.alloc (.cells (stitC x).toArray 121)=W1:=⟨_,rfl⟩
 have x1:Blk W1 w.heap.size 121 (stitC x).toArray:=by rw [←hW1];exact Blk.new _ _ _
 have b1:Below w.heap.size w W1:=by rw [←hW1];exact (Below.refl _ _).alloc (Nat.le_refl _) _
 obtain ⟨W2,hW2⟩ : ∃ W2,W1.alloc (.cells (u8s n) 42)=W2:=⟨_,rfl⟩
 have bb2:Below W1.heap.size W1 W2:=by rw [←hW2];exact (Below.refl _ _).alloc (Nat.le_refl _) _
 have x2:=x1.below bb2 x1.lt
 have n2:Blk W2 W1.heap.size 42 (u8s n):=by rw [←hW2];exact Blk.new _ _ _
 have b2:=bthen b1 b1.size bb2
 have r1:W2.rangeAt w.heap.size 0 (u8s x.id).toList:=by
  have:=range_blk x2
  rw [List.toList_toArray] at this
  exact stitC_id this
 have hc:=fun (W:World) (hW:Below W2.heap.size W2 W)=>cmpIds_calls x.id n hx.1 hn w.heap.size 0 W1.heap.size 0 W (rangeAt_below r1 x2.lt hW) (rangeAt_below (range_blk n2) n2.lt hW)
 obtain ⟨NC,hNC⟩ : ∃ NC,u8s n=NC:=⟨_,rfl⟩
 obtain ⟨XC,hXC⟩ : ∃ XC,(stitC x).toArray=XC:=⟨_,rfl⟩
 rw [hXC] at hW1 ⊢
 rw [hNC] at hW2 ⊢
 clear hNC hXC x1 x2 n2 r1 bb2
 go_enter Tryz.func82,Tryz.ntmps82
 go_wp2
 refine wp_region_class (C:=fun W=>Below W2.heap.size W2 W) (by kernel_rfl) (by kernel_rfl) (Below.refl _ _).drew ?_
 repeat
  first
   | ((with_reducible refine wpQuiet_ex ?_ ?_)
      ·(go_simp;done)
      apply Exists.intro
      refine ⟨fun W hW=>?_,?_⟩
      ·have hkeep:=(hc W hW).mono fun e w' (h:e = .returned (.int .i64 (Lib.compareBytes x.id n))∧w'=W)=>(⟨h.1,h.2.symm▸hW⟩:e = .returned (.int .i64 (Lib.compareBytes x.id n))∧Below W2.heap.size W2 w')
       go_simp
       first
        | rfl
        | (with_reducible exact hkeep)
      simp only [Act.put,List.setIfInBounds_toArray,List.set_cons_zero,List.set_cons_succ])
   | ((with_reducible refine wpQuiet_pass ?_ ?_)
      ·(first | rfl | (go_simp;done))
      simp only [Act.put,List.setIfInBounds_toArray,List.set_cons_zero,List.set_cons_succ])
 with_reducible refine wpQuiet_nil ?_
 intro w5 hW5
 go_wp2
 go_ret
 exact ⟨rfl,bthen b2 b2.size hW5⟩
theorem stoPlace1_func (a:Array Value) (W:World):(callFunc 82 a).run Tryz.prog W = .ok (.enter 82 a) W:=by kernel_rfl
end Go.Proofs.YtlojebhcemfodaaGreatDoor
namespace Go.Proofs.YtlojebhcemfodaaGreatDoor
open Go.RowKit
theorem run_overlaps_stits (w:World) (g vb o:Nat) (cur cv:Array Value) (e ev:TypeId) (hb:Blk w g e cur) (hv:Blk w vb ev cv) (hc:0<cur.size) (hne:vb≠g) (m vc lb cb:Nat) :
 (callFunc 84 #[.slice (some ⟨vb,0,none⟩) m vc, .slice (some ⟨g,o,none⟩) lb cb]).run Tryz.prog w = .ok (.value (.bool false)) w:=by
 have hsz : ∀ w,(Go.sizeOf 121).run Tryz.prog w = .ok 33 w:=fun w=>by
  obtain ⟨i,h1,_,h3,_⟩:=Tryz.stitTy.hi
  simp [sizeOf,typeInfo,h1,h3]
 rw [run_callFunc_extern Tryz.func84 (by kernel_rfl) (by kernel_rfl) (by kernel_rfl) (e:=Extern.SlicesOverlaps.overlaps #[112,112] #[4]) (by kernel_rfl),
  Lib.run_overlaps_apart w 112 4 121 Tryz.underlying112 33 hsz ⟨vb,0,none⟩ ⟨g,o,none⟩ m vc lb cb hne ev e cv.size cur.size (by unfold World.shape?;rw [show w.heap[vb]?=_ from hv]) (by unfold World.shape?;rw [show w.heap[g]?=_ from hb]) (by omega) (hv.frozen _) (hv.frozen _)]
 rfl
set_option maxRecDepth 100000 in
set_option maxHeartbeats 2000000 in
theorem insertStits_room (l:List StL) (hok:StitsOk l) (w:World) (g cap i vb:Nat) (x:StL) (hx:StitOk x) (hrow:Row w g 121 33 stitC cap l) (hi:i<l.length) (hcap:l.length+1≤cap)
 (hv:Blk w vb 121 (stitC x).toArray) (hne:vb≠g) :
 Calls Tryz.prog 58 #[.slice (some ⟨g,0,none⟩) l.length cap, .int .i64 i, .slice (some ⟨vb,0,none⟩) 1 1] w fun e w'=>
  e = .returned (.slice (some ⟨g,0,none⟩) (l.length+1) cap)∧Row w' g 121 33 stitC cap (l.take i++[x]++l.drop i)∧w.grownBy w' (some g):=by
 have h63:=hrow.top63
 have hdl:(l.drop i).length=l.length-i:=List.length_drop
 have hdk : ∀ y∈l.drop i,(stitC y).length=33:=fun y hy=>stitK hok y (List.mem_of_mem_drop hy)
 have hbi:(0:Int)≤(i:Int)+1:=by omega
 have htn:((i:Int)+1).toNat=i+1:=by omega
 have hz2 : ¬ ((i:Int)=(l.length:Int)):=by omega
 have hil:(i:Int)≤(l.length:Int):=by omega
 have hil1:(i:Int)+1≤(l.length:Int)+1:=by omega
 have hil2:(i:Int)≤(l.length:Int)+1:=by omega
 have mixed:Tryz.prog.follows Departure.mixedOrders=true:=by kernel_rfl
 have hci : ¬ (cap=i):=by omega
 have hci1 : ¬ (cap=i+1):=by omega
 have hnc : ¬ ((cap:Int)<(l.length:Int)+1):=by omega
 have hcn:(l.length:Int)+1≤(cap:Int):=by omega
 have hw1:IntKind.i64.wrap ((i:Int)+1)=(i:Int)+1:=by rw [IntKind.wrap_i64];omega
 have hw2:IntKind.i64.wrap ((l.length:Int)+1)=(l.length:Int)+1:=by rw [IntKind.wrap_i64];omega
 have htl:((l.length:Int)+1).toNat=l.length+1:=by omega
 have hov : ∀ lb cb o,(callFunc 84 #[.slice (some ⟨vb,0,none⟩) 1 1, .slice (some ⟨g,o,none⟩) lb cb]).run Tryz.prog w = .ok (.value (.bool false)) w:=fun lb cb o=>by
  obtain ⟨cur,hb,hs⟩:=hrow.blk
  exact run_overlaps_stits w g vb o cur _ _ _ hb hv (by rw [hs];omega) hne 1 1 lb cb
 have hput:=hrow.drew.put (stitK hok) hdk (i:=i+1) (by omega) (by omega)
 have hcp1 : ∀ ty dc sc,(Builtin.copy_ #[112,112] ty #[.slice (some ⟨g,(i+1)*33,none⟩) (l.length-i) dc, .slice (some ⟨g,i*33,none⟩) (l.length+1-i) sc]).run Tryz.prog w.drew = .ok (goInt ((l.drop i).length:Nat)) (w.drew.setCells g ((i+1)*33) (rowsOf stitC (l.drop i))):=fun ty dc sc=>
  run_copy_rows w.drew _ _ ty 121 g ((i+1)*33) _ dc ⟨g,i*33,none⟩ _ sc _ _ Tryz.underlying112 szStit (by rw [hdl];simp only [Nat.min_def];split<;>omega) (rowsOf_length hdk)
   (range_news ((hrow.drew).range_from (stitK hok) i)) ((hrow.drew).there (by rw [rowsOf_length hdk,←Nat.add_mul];exact Nat.mul_le_mul_right _ (by omega))) (stitOne _)
 obtain ⟨W1,hW1⟩ : ∃ W1,W1=w.drew.setCells g ((i+1)*33) (rowsOf stitC (l.drop i)):=⟨_,rfl⟩
 have hbel1:w.grownBy W1 (some g):=by rw [hW1];exact grown_cells (grown_drew (grown_refl' w _)) _ _
 rw [←hW1] at hcp1 hput
 have hv1:Blk W1 vb 121 (stitC x).toArray:=by
  rw [hW1]
  exact hv.drew.setCells_far hne _ _ _
 have hs2:StitsOk (l.take (i+1)++l.drop i++l.drop (i+1+(l.drop i).length)):=by
  intro y hy
  simp only [List.mem_append] at hy
  rcases hy with (hy | hy) | hy
  ·exact hok y (List.mem_of_mem_take hy)
  ·exact hok y (List.mem_of_mem_drop hy)
  ·exact hok y (List.mem_of_mem_drop hy)
 have hset:=hput.set (stitK hs2) (i:=i) (by simp;omega) (stitC_len hx)
 rw [ins_place hi] at hset
 have hcp2 : ∀ ty dc,(Builtin.copy_ #[112,112] ty #[.slice (some ⟨g,i*33,none⟩) (l.length+1-i) dc, .slice (some ⟨vb,0,none⟩) 1 1]).run Tryz.prog W1 = .ok (goInt (1:Nat)) (W1.setCells g (i*33) (stitC x)):=fun ty dc=>
  run_copy_rows W1 _ _ ty 121 g (i*33) _ dc ⟨vb,0,none⟩ _ 1 _ _ Tryz.underlying112 szStit (by simp only [Nat.min_def];split<;>omega) (by rw [stitC_len hx])
   (range_news (range_blkStit hv1)) (hput.there (by rw [stitC_len hx];omega)) (stitC_one x)
 have hbel2:=grown_cells hbel1 (i*33) (stitC x)
 clear hput hv hv1 hrow hs2 hdk hW1
 go_enter Tryz.func58,Tryz.ntmps58
 go_wp2_with (simp only [hov])
 go_region_law_o (refine step_copy_run rfl _ _ 112 112 rfl (.slice (some ⟨g,(i+1)*33,none⟩) (l.length-i) (cap-(i+1))) (.slice (some ⟨g,i*33,none⟩) (l.length+1-i) (cap-i)) (by simp [Act.eval,Act.put]) (by simp [Act.eval,Act.put]) (hcp1 _ _ _) ?_)
 go_wp2_with (at_builtin;refine wpList_copy_run _ rfl _ _ 112 112 rfl _ _ rfl rfl (hcp2 _ _) ?_)
 go_ret
 exact ⟨rfl,hset,hbel2⟩
set_option maxRecDepth 100000 in
set_option maxHeartbeats 500000 in
theorem insertStits_grow (l:List StL) (hok:StitsOk l) (hbig:l.length≤1000000) (w:World) (base g cap i vb:Nat) (x:StL) (hx:StitOk x) (hbase:base≤w.heap.size) (hrow:Row w g 121 33 stitC cap l) (hi:i<l.length) (hcap:cap<l.length+1)
 (hv:Blk w vb 121 (stitC x).toArray) :
 Calls Tryz.prog 58 #[.slice (some ⟨g,0,none⟩) l.length cap, .int .i64 i, .slice (some ⟨vb,0,none⟩) 1 1] w fun e w'=>
  ∃ G,e = .returned (.slice (some ⟨w.heap.size,0,none⟩) (l.length+1) G)∧Row w' w.heap.size 121 33 stitC G (l.take i++[x]++l.drop i)∧Below base w w':=by
 have h63:=hrow.top63
 have hle:=hrow.le
 have hgw:=hrow.lt
 have hdl:(l.drop i).length=l.length-i:=List.length_drop
 have htkl:(l.take i).length=i:=by simp;omega
 have hdk : ∀ y∈l.drop i,(stitC y).length=33:=fun y hy=>stitK hok y (List.mem_of_mem_drop hy)
 have htk : ∀ y∈l.take i,(stitC y).length=33:=fun y hy=>stitK hok y (List.mem_of_mem_take hy)
 have hbi:(0:Int)≤(i:Int)+1:=by omega
 have htn:((i:Int)+1).toNat=i+1:=by omega
 have hz2 : ¬ ((i:Int)=(l.length:Int)):=by omega
 have hil:(i:Int)≤(l.length:Int):=by omega
 have hil0:(i:Int)≤(cap:Int):=by omega
 have hil1:(i:Int)+1≤(l.length:Int)+1:=by omega
 have hil2:(i:Int)≤(l.length:Int)+1:=by omega
 have mixed:Tryz.prog.follows Departure.mixedOrders=true:=by kernel_rfl
 have hci : ¬ (cap=i):=by omega
 have hnc:(cap:Int)<(l.length:Int)+1:=by omega
 have hw1:IntKind.i64.wrap ((i:Int)+1)=(i:Int)+1:=by rw [IntKind.wrap_i64];omega
 have hw2:IntKind.i64.wrap ((l.length:Int)+1)=(l.length:Int)+1:=by rw [IntKind.wrap_i64];omega
 have hw3:IntKind.i64.wrap ((l.length:Int)+1-(i:Int))=(l.length:Int)+1-(i:Int):=by rw [IntKind.wrap_i64];omega
 have hkk:(l.length:Int)+1-(i:Int)=((l.length+1-i:Nat):Int):=by omega
 have hik:i+(l.length+1-i)=l.length+1:=by omega
 obtain ⟨i0,hi0,hz0,hzs,hzb⟩:=Tryz.stitTy.hi
 have hold:(Builtin.firstCells i0.size i (.slice (some ⟨g,0,none⟩) i cap)).run Tryz.prog w.drew = .ok (rowsOf stitC (l.take i)).toArray w.drew:=by
  rw [hzs]
  refine run_firstCells_some w.drew 33 i ⟨g,0,none⟩ i cap _ (by rw [rowsOf_length htk,htkl]) (range_news ?_)
  have:=(hrow.cut i).drew.range_from htk 0
  rw [Nat.zero_mul,List.drop_zero] at this
  exact this
 have hrz : ∀ ty,(Builtin.append_ #[112,3] ty #[.slice (some ⟨g,0,none⟩) i cap, .int .i64 ((l.length:Int)+1-(i:Int))]).run Tryz.prog w =
  .ok (.slice (some ⟨w.heap.size,0,none⟩) (l.length+1) (grownCap w (l.length+1) cap 121)) (w.drew.alloc (.cells ((rowsOf stitC (l.take i)).toArray++Builtin.zeroCells zStit.cells (l.length+1-i)++Builtin.zeroCells zStit.cells (grownCap w (l.length+1) cap 121-(l.length+1))) 121)):=fun ty=>by
  have h:=Lib.run_append_grow_zeros w 112 3 ty 121 i0 _ .i64 .i64 Tryz.underlying112 Tryz.underlying3 hi0 hz0 (some ⟨g,0,none⟩) i cap (rowsOf stitC (l.take i)) hold (l.length+1-i) (by omega) (by omega) (by omega) (by omega) (by rw [hzb];omega) (by rw [hzb,hik];exact growslice_fits hcap (by omega))
  rw [hik] at h
  rw [hkk]
  exact h
 obtain ⟨G,hG⟩ : ∃ G,G=grownCap w (l.length+1) cap 121:=⟨_,rfl⟩
 have hGn:l.length+1≤G:=by rw [hG];exact grownCap_ge w _ _ _
 have hGt:G≤maxLen:=by rw [hG];exact grownCap_le_maxLen w _ cap _ (by unfold maxLen;omega)
 have hG63:G≤9223372036854775807:=by simpa [maxLen] using hGt
 rw [←hG] at hrz
 have hnew:=Row.of_new (s:=l.take i) (enc:=stitC) (e:=121) (cap:=G) htk w.drew (Builtin.zeroCells zStit.cells (l.length+1-i)++Builtin.zeroCells zStit.cells (G-(l.length+1))) (by
  rw [htkl,Array.size_append,size_zeroCells,size_zeroCells,zStit_cells];omega) (by rw [htkl];omega) hGt
 rw [←Array.append_assoc] at hnew
 have hbel0:Below base w (w.drew.alloc (.cells ((rowsOf stitC (l.take i)).toArray++Builtin.zeroCells zStit.cells (l.length+1-i)++Builtin.zeroCells zStit.cells (G-(l.length+1))) 121)):=(Below.refl _ _).drew.alloc hbase _
 have hoff:Below w.heap.size w (w.drew.alloc (.cells ((rowsOf stitC (l.take i)).toArray++Builtin.zeroCells zStit.cells (l.length+1-i)++Builtin.zeroCells zStit.cells (G-(l.length+1))) 121)):=(Below.refl _ _).drew.alloc (Nat.le_refl _) _
 obtain ⟨W1,hW1⟩ : ∃ W1,W1=w.drew.alloc (.cells ((rowsOf stitC (l.take i)).toArray++Builtin.zeroCells zStit.cells (l.length+1-i)++Builtin.zeroCells zStit.cells (G-(l.length+1))) 121):=⟨_,rfl⟩
 rw [←hW1] at hrz hnew hbel0 hoff
 clear hW1 hG
 have hold1:=hrow.below hoff
 have hv1:=hv.below hoff hv.lt
 obtain ⟨N,hN⟩ : ∃ N,N=w.heap.size:=⟨_,rfl⟩
 have hgN:g≠N:=by omega
 have hbN:base≤N:=by omega
 have hnew':Row W1 N 121 33 stitC G (l.take i):=by rw [hN];exact hnew
 rw [←hN] at hrz ⊢
 clear hnew hoff hold hN
 have hput:=hnew'.put htk (t:=[x]) (fun y hy=>by simp at hy;subst hy;exact stitC_len hx) (i:=i) (by omega) (by simp;omega)
 have e1:(l.take i).take i=l.take i:=List.take_of_length_le (by omega)
 have e2:(l.take i).drop (i+[x].length)=[]:=List.drop_of_length_le (by simp;omega)
 rw [rowsOf_one,e1,e2,List.append_nil] at hput
 have hcp1 : ∀ ty dc,(Builtin.copy_ #[112,112] ty #[.slice (some ⟨N,i*33,none⟩) (l.length+1-i) dc, .slice (some ⟨vb,0,none⟩) 1 1]).run Tryz.prog W1 = .ok (goInt (1:Nat)) (W1.setCells N (i*33) (stitC x)):=fun ty dc=>
  run_copy_rows W1 _ _ ty 121 N (i*33) _ dc ⟨vb,0,none⟩ _ 1 _ _ Tryz.underlying112 szStit (by simp only [Nat.min_def];split<;>omega) (by rw [stitC_len hx])
   (range_news (range_blkStit hv1)) (hnew'.there (by rw [stitC_len hx];omega)) (stitC_one x)
 have hbel1:=below_setCells (stitC x) (i*33) w W1 hbel0 hbN
 have hold2:Row (W1.setCells N (i*33) (stitC x)) g 121 33 stitC cap l:=by
  obtain ⟨cur,hb,hs⟩:=hold1.blk
  exact ⟨⟨cur,hb.setCells_far hgN _ _ _,hs⟩,fun j y hy=>World.rangeAt_setCells_apart (hold1.at_ j y hy) _ _ _ (.inl hgN),hold1.le,hold1.top⟩
 obtain ⟨W2,hW2⟩ : ∃ W2,W2=W1.setCells N (i*33) (stitC x):=⟨_,rfl⟩
 rw [←hW2] at hcp1 hput hbel1 hold2
 clear hW2 hold1 hv1 hnew' hbel0 hrow hv
 have hk2 : ∀ y∈l.take i++[x],(stitC y).length=33:=by
  intro y hy
  rcases List.mem_append.1 hy with hy | hy
  ·exact htk y hy
  ·simp at hy;subst hy;exact stitC_len hx
 have hput2:=hput.drew.put hk2 hdk (i:=i+1) (by simp;omega) (by omega)
 have e3:(l.take i++[x]).take (i+1)=l.take i++[x]:=List.take_of_length_le (by simp;omega)
 have e4:(l.take i++[x]).drop (i+1+(l.drop i).length)=[]:=List.drop_of_length_le (by simp;omega)
 rw [e3,e4,List.append_nil] at hput2
 have hcp2 : ∀ ty dc sc,(Builtin.copy_ #[112,112] ty #[.slice (some ⟨N,(i+1)*33,none⟩) (l.length-i) dc, .slice (some ⟨g,i*33,none⟩) (l.length-i) sc]).run Tryz.prog W2.drew = .ok (goInt ((l.drop i).length:Nat)) (W2.drew.setCells N ((i+1)*33) (rowsOf stitC (l.drop i))):=fun ty dc sc=>
  run_copy_rows W2.drew _ _ ty 121 N ((i+1)*33) _ dc ⟨g,i*33,none⟩ _ sc _ _ Tryz.underlying112 szStit (by rw [hdl];simp only [Nat.min_def];split<;>omega) (rowsOf_length hdk)
   (range_news (hold2.drew.range_from (stitK hok) i)) (hput.drew.there (by rw [rowsOf_length hdk,←Nat.add_mul];exact Nat.mul_le_mul_right _ (by omega))) (stitOne _)
 have hbel2:=below_setCells (rowsOf stitC (l.drop i)) ((i+1)*33) w W2.drew hbel1.drew hbN
 obtain ⟨W3,hW3⟩ : ∃ W3,W3=W2.drew.setCells N ((i+1)*33) (rowsOf stitC (l.drop i)):=⟨_,rfl⟩
 rw [←hW3] at hcp2 hput2 hbel2
 clear hW3 hput hold2 hk2 hdk htk hbel1 e1 e2 e3 e4 hi0 hz0 hzs hzb hbig hGt hkk hik hdl htkl hgw
 have hGi : ¬ (G=i):=by omega
 have hGim : ¬ (G=i+1):=by omega
 go_enter Tryz.func58,Tryz.ntmps58
 go_wp2_with (first
  | (at_builtin;refine Lib.wpList_append_run _ rfl _ _ _ _ rfl _ _ rfl rfl _ _ (hrz _) ?_)
  | (at_builtin;refine wpList_copy_run _ rfl _ _ 112 112 rfl _ _ rfl rfl (hcp1 _ _) ?_))
 go_region_law_o (refine step_copy_run rfl _ _ 112 112 rfl (.slice (some ⟨N,(i+1)*33,none⟩) (l.length-i) (G-(i+1))) (.slice (some ⟨g,i*33,none⟩) (l.length-i) (cap-i)) (by simp [Act.eval,Act.put]) (by simp [Act.eval,Act.put]) (hcp2 _ _ _) ?_)
 go_wp2
 go_ret
 exact ⟨G,rfl,hput2,hbel2⟩
theorem stitsOk_ins {l:List StL} (hok:StitsOk l) (i:Nat) {x:StL} (hx:StitOk x):StitsOk (l.take i++[x]++l.drop i):=by
 intro y hy
 simp only [List.mem_append,List.mem_singleton] at hy
 rcases hy with (hy | rfl) | hy
 ·exact hok y (List.mem_of_mem_take hy)
 ·exact hx
 ·exact hok y (List.mem_of_mem_drop hy)
set_option maxRecDepth 100000 in
set_option maxHeartbeats 500000 in
theorem insertStits_end (l:List StL) (hok:StitsOk l) (hbig:l.length≤1000000) (v:Value) (w:World) (base vb:Nat) (x:StL) (hx:StitOk x) (hbase:base≤w.heap.size) (hown:OwnStits w base v l)
 (hv:Blk w vb 121 (stitC x).toArray) :
 Calls Tryz.prog 58 #[v, .int .i64 (l.length:Nat), .slice (some ⟨vb,0,none⟩) 1 1] w fun e w'=>
  ∃ v',e = .returned v'∧OwnStits w' base v' (l++[x])∧w.grownBy w' v.ownBlock∧Newer w v v':=by
 have hcap : ∃ A cap,v = .slice A l.length cap∧l.length≤cap∧cap≤9223372036854775807∧(A=none→l.length=0∧cap=0):=by
  rcases Row.of_own (stitK hok) hown with ⟨rfl,rfl⟩ | ⟨g,cap,rfl,hg,hrow⟩
  ·exact ⟨none,0,rfl,by simp,by omega,fun _=>⟨rfl,rfl⟩⟩
  ·exact ⟨_,cap,rfl,hrow.le,hrow.top63,fun h=>by cases h⟩
 obtain ⟨A,cap,rfl,hc1,hc2,hnil⟩:=hcap
 have hlk:=stitC_len hx
 have hone : ∀ u∈(stitC x).toArray.toList,u.oneCell'=true:=fun u hu=>stitC_one x u (by simpa using hu)
 have h1:l.length+1≤9223372036854775807:=by omega
 have h2:(l.length+1)*48≤140737488355328:=by omega
 have hlen:l.length≤9223372036854775807:=by omega
 clear hbig
 go_enter Tryz.func58,Tryz.ntmps58
 go_wp2_with (first
  | (at_builtin
     (with_reducible refine lit_append_at (.tmp 23) (.tmp 24) 1 _ Tryz.stitTy hown hv (by rw [List.size_toArray,hlk]) hone h1 h2 hbase ?_ ?_ ?_);rfl;rfl
     intro v' w' hown3 hg3 hnw3))
 all_goals
  go_ret
  have hown4:OwnStits w' base v' (l++[x]):=by
   unfold OwnStits
   rw [List.length_append,List.length_singleton,rowsOf_append,rowsOf_one]
   exact hown3
  first
   | exact ⟨_,rfl,hown4,hg3,hnw3⟩
   | exact ⟨_,rfl,hown4,by cases A<;>exact hg3,by cases A<;>exact hnw3⟩
/-- slices.Insert of one ref. -/
theorem insertStits_calls (l:List StL) (hok:StitsOk l) (hbig:l.length≤1000000) (v:Value) (w:World) (base i vb:Nat) (x:StL) (hx:StitOk x) (hbase:base≤w.heap.size) (hown:OwnStits w base v l) (hi:i≤l.length)
 (hv:Blk w vb 121 (stitC x).toArray) (hne:v.ownBlock≠some vb) :
 Calls Tryz.prog 58 #[v, .int .i64 i, .slice (some ⟨vb,0,none⟩) 1 1] w fun e w'=>
  ∃ v',e = .returned v'∧OwnStits w' base v' (l.take i++[x]++l.drop i)∧w.grownBy w' v.ownBlock∧Newer w v v':=by
 rcases Nat.lt_or_ge i l.length with hlt | hge
 ·rcases Row.of_own (stitK hok) hown with ⟨rfl,rfl⟩ | ⟨g,cap,rfl,hg,hrow⟩
  ·simp at hlt
  have hlen:l.length+1=(l.take i++[x]++l.drop i).length:=by simp;omega
  by_cases hcap:l.length+1≤cap
  ·refine (insertStits_room l hok w g cap i vb x hx hrow hlt hcap hv (fun e=>hne (by rw [e];rfl))).mono ?_
   rintro e w' ⟨rfl,h1,h2⟩
   exact ⟨_,rfl,OwnStits.of_row (stitsOk_ins hok i hx) h1 hg hlen,h2, .inl rfl⟩
  ·refine (insertStits_grow l hok hbig w w.heap.size g cap i vb x hx (Nat.le_refl _) hrow hlt (by omega) hv).mono ?_
   rintro e w' ⟨G,rfl,h1,h2⟩
   exact ⟨_,rfl,OwnStits.of_row (stitsOk_ins hok i hx) h1 hbase hlen,grown_of_below h2 _, .inr fun k hk=>by simp only [Value.ownBlock,Option.some.injEq] at hk;omega⟩
 ·obtain rfl:i=l.length:=by omega
  rw [List.take_length,List.drop_length,List.append_nil]
  exact insertStits_end l hok hbig v w base vb x hx hbase hown hv
end Go.Proofs.YtlojebhcemfodaaGreatDoor
namespace Go.Proofs.YtlojebhcemfodaaGreatDoor
open Go.RowKit
attribute [local go_sem ↓] ldvI_eq
/-- Block p holds a store; vl is its slice of items. -/
structure StoAt (w:World) (base p:Nat) (vl:Value) (s:List StL):Prop where
 blk:Blk w p 114 #[vl]
 own:OwnStits w base vl s
 ok:StoOk s
section
variable {w w':World} {base p:Nat} {vl:Value} {s:List StL}
theorem StoAt.c0 (h:StoAt w base p vl s):w.cell? ⟨p,0,none⟩=some vl:=by rw [h.blk.cell];rfl
theorem StoAt.fr (h:StoAt w base p vl s):w.frozen? ⟨p,0,none⟩=false:=h.blk.frozen 0
theorem StoAt.lt (h:StoAt w base p vl s):p<w.heap.size:=h.blk.lt
theorem StoAt.ne (h:StoAt w base p vl s):vl.ownBlock≠some p:=fun e=>own_blk_ne h.own h.blk (by decide) e.symm
theorem StoAt.below (h:StoAt w base p vl s) (hb:Below w.heap.size w w'):StoAt w' base p vl s:=⟨h.blk.below hb h.blk.lt,own_below h.own hb,h.ok⟩
theorem StoAt.far {S:List (Option Nat)} (h:StoAt w base p vl s) (hf:Far S w w') (h1:some p ∉ S) (h2 : ∀ k,vl.ownBlock=some k→some k ∉ S):StoAt w' base p vl s:=⟨hf.blk h.blk h1,hf.own h.own h2,h.ok⟩
theorem StoAt.drew (h:StoAt w base p vl s):StoAt w.drew base p vl s:=⟨h.blk,h.own,h.ok⟩
theorem StoAt.items (h:StoAt w base p vl s):Stits w vl s:=h.own.refs h.ok.ok
theorem StoAt.form (h:StoAt w base p vl s) : ∃ A cap,vl = .slice A s.length cap:=by
 obtain ⟨A,cap,e⟩:=own_form' h.own
 exact ⟨A,cap,e⟩
end
set_option maxRecDepth 100000 in
set_option maxHeartbeats 1000000 in
theorem stoNew_calls (w:World) :
 Calls Tryz.prog 28 #[] w fun e w'=>e = .returned (.pointer (some ⟨w.heap.size,0,none⟩))∧StoAt w' w.heap.size w.heap.size (.slice none 0 0) []∧Below w.heap.size w w':=by
 go_enter Tryz.func28,Tryz.ntmps28
 go_wp2
 go_ret
 exact ⟨rfl,⟨Blk.new _ _ _,World.ownsRow_nil _ _ _ _,StoOk.nil⟩,(Below.refl _ _).alloc (Nat.le_refl _) _⟩
set_option maxRecDepth 100000 in
set_option maxHeartbeats 2000000 in
theorem stoPlace_calls {w:World} {base p:Nat} {vl:Value} {s:List StL} (h:StoAt w base p vl s) (n:Txt) (hn:n.length=32) :
 Calls Tryz.prog 57 #[.pointer (some ⟨p,0,none⟩), .agg (u8s n)] w fun e w'=>e = .returned (.tuple #[.int .i64 (posK StL.id s n), .bool (hasK StL.id s n)])∧Below w.heap.size w w':=by
 obtain ⟨W1,hW1⟩ : ∃ W1,w.alloc (.cells (u8s n) 42)=W1:=⟨_,rfl⟩
 have n1:Blk W1 w.heap.size 42 (u8s n):=by rw [←hW1];exact Blk.new _ _ _
 have b1:Below w.heap.size w W1:=by rw [←hW1];exact (Below.refl _ _).alloc (Nat.le_refl _) _
 have hbs:=fun (W:World) (hW:Below W1.heap.size W1 W)=>bsfStits_calls s h.ok.ok (by have:=h.ok.few;omega) vl W (h.items.below (bthen b1 b1.size hW)) 82 stoPlace1_func n hn (fun x=>Lib.compareBytes x.id n)
  (fun W2 x hx _=>stoPlace1_calls x (h.ok.ok x hx) n hn W2) (posK StL.id s n) posK_le (fun i x hx=>by
    rw [←decide_eq_true_iff (p:=Lib.compareBytes x.id n<0),cmp_neg,sorted_at h.ok.sorted hx,decide_eq_true_iff])
 rw [←hasK_hit h.ok.sorted] at hbs
 have hsI:(Tryz.prog.info? 42).map (·.size)=some (u8s n).toList.length:=by rw [u8s_lenS,hn];exact sz32
 have c0:=fun (W:World) (hW:Below W1.heap.size W1 W)=>(h.below (bthen b1 b1.size hW)).c0
 obtain ⟨NC,hNC⟩ : ∃ NC,u8s n=NC:=⟨_,rfl⟩
 rw [hNC] at hW1 n1 hsI hbs ⊢
 clear hNC h
 generalize posK StL.id s n=P at *
 generalize hasK StL.id s n=HB at *
 go_enter Tryz.func57,Tryz.ntmps57
 go_wp2
 refine wp_region_class (C:=fun W=>Below W1.heap.size W1 W) (by kernel_rfl) (by kernel_rfl) (Below.refl _ _).drew ?_
 repeat
  first
   | ((with_reducible refine wpQuiet_ex ?_ ?_)
      ·(go_simp;done)
      apply Exists.intro
      refine ⟨fun W hW=>?_,?_⟩
      ·have q0:=c0 W hW
       have q1:(ldvI ⟨w.heap.size,0,none⟩).run Tryz.prog W = .ok (.agg NC) W:=by
        have:=run_loadVar_mid (P:=Tryz.prog) W w.heap.size 0 42 NC.toList _ (range_blk (n1.below hW n1.lt)) Tryz.underlying42 rfl hsI
        rwa [Array.toArray_toList] at this
       have hkeep:=bel_keep hW (hbs W hW)
       go_simp
       first
        | rfl
        | (with_reducible exact hkeep)
      simp only [Act.put,List.setIfInBounds_toArray,List.set_cons_zero,List.set_cons_succ])
   | ((with_reducible refine wpQuiet_pass ?_ ?_)
      ·(first | rfl | (go_simp;done))
      simp only [Act.put,List.setIfInBounds_toArray,List.set_cons_zero,List.set_cons_succ])
 with_reducible refine wpQuiet_nil ?_
 intro w5 hW5
 go_wp2
 go_ret2
 exact ⟨rfl,bthen b1 b1.size hW5⟩
set_option maxRecDepth 100000 in
theorem stoLen_calls {w:World} {base p:Nat} {vl:Value} {s:List StL} (h:StoAt w base p vl s) :
 Calls Tryz.prog 38 #[.pointer (some ⟨p,0,none⟩)] w fun e w'=>e = .returned (.int .i64 s.length)∧w'=w:=by
 have c0:=h.c0
 obtain ⟨A,cap,rfl⟩:=h.form
 go_enter Tryz.func38,Tryz.ntmps38
 go_wp2
 go_ret
 exact ⟨rfl,rfl⟩
/-- What Get tells. -/
def getV (s:List StL) (n:Txt):Value:=match getS s n with
 | some x => .tuple #[.string (B x.text), .bool true]
 | none => .tuple #[.string (B []), .bool false]
set_option maxRecDepth 100000 in
set_option maxHeartbeats 2000000 in
theorem stoGet_calls {w:World} {base p:Nat} {vl:Value} {s:List StL} (h:StoAt w base p vl s) (n:Txt) (hn:n.length=32) :
 Calls Tryz.prog 59 #[.pointer (some ⟨p,0,none⟩), .agg (u8s n)] w fun e w'=>e = .returned (getV s n)∧Below w.heap.size w w':=by
 obtain ⟨W1,hW1⟩ : ∃ W1,w.alloc (.cells (u8s n) 42)=W1:=⟨_,rfl⟩
 have n1:Blk W1 w.heap.size 42 (u8s n):=by rw [←hW1];exact Blk.new _ _ _
 have b1:Below w.heap.size w W1:=by rw [←hW1];exact (Below.refl _ _).alloc (Nat.le_refl _) _
 have hpl:=Lib.hid (stoPlace_calls (h.below b1) n hn)
 have hsI:(Tryz.prog.info? 42).map (·.size)=some (u8s n).toList.length:=by rw [u8s_lenS,hn];exact sz32
 have q1:(ldvI ⟨w.heap.size,0,none⟩).run Tryz.prog W1 = .ok (.agg (u8s n)) W1:=by
  have:=run_loadVar_mid (P:=Tryz.prog) W1 w.heap.size 0 42 (u8s n).toList _ (range_blk n1) Tryz.underlying42 rfl hsI
  rwa [Array.toArray_toList] at this
 have hG:=getS_at h.ok n
 have c0:=fun (W:World) (hW:Below w.heap.size w W)=>(h.below hW).c0
 have hit:=h.items
 have hok:=h.ok.ok
 obtain ⟨r,hr⟩ : ∃ r,Hid (getV s n=r):=⟨_,Lib.hid rfl⟩
 rw [hr.out]
 have hrv:=hr.out
 unfold getV at hrv
 clear hr
 obtain ⟨NC,hNC⟩ : ∃ NC,u8s n=NC:=⟨_,rfl⟩
 rw [hNC] at hW1 n1 hpl q1 ⊢
 clear hNC h hsI
 have hple:posK StL.id s n≤s.length:=posK_le
 generalize posK StL.id s n=P at *
 cases hh:hasK StL.id s n with
 | false=>
   rw [hh] at hG hpl
   rw [hG] at hrv
   have hrv:Hid (_=r):=hrv
   clear hG hh
   go_enter Tryz.func59,Tryz.ntmps59
   go_wp2_with (first
    | ((with_reducible refine hpl.out.mono ?_);rintro e w2 ⟨rfl,hb2⟩))
   go_ret2
   exact ⟨by rw [←hrv.out];rfl,bthen b1 b1.size hb2⟩
 | true=>
   rw [hh] at hG hpl
   rw [if_pos rfl] at hG
   have hlt:P<s.length:=by
    rcases Nat.lt_or_ge P s.length with h | h
    ·exact h
    ·exfalso
     have:=hasK_atS hh hG
     rw [List.getElem?_eq_none h] at this
     cases this
   obtain ⟨x,hx⟩ : ∃ x,s[P]?=some x:=⟨_,List.getElem?_eq_getElem hlt⟩
   rw [hx] at hG
   rw [hG] at hrv
   have hrv:Hid (_=r):=hrv
   obtain ⟨A,cap,rfl,hcap1,hcap2,hat⟩:=hit
   obtain ⟨ga,oa,rfl,hga,hca⟩:=hat (by omega)
   have hxr:=hca P x hx
   have hx32:=(hok x (List.mem_of_getElem? hx)).1
   have hPi:(P:Int)<(s.length:Int):=by omega
   clear hG hh hat hca hx hok
   go_enter Tryz.func59,Tryz.ntmps59
   go_wp2_with (first
    | ((with_reducible refine hpl.out.mono ?_);rintro e w2 ⟨rfl,hb2⟩
       have b2:=bthen b1 b1.size hb2
       have c2:=c0 _ b2
       have t2:=stitC_text hx32 (rangeAt_below hxr hga b2)))
   all_goals try (exfalso;omega)
   go_ret2
   exact ⟨by rw [←hrv.out];rfl,b2⟩
end Go.Proofs.YtlojebhcemfodaaGreatDoor
namespace Go.Proofs.YtlojebhcemfodaaGreatDoor
open Go.RowKit
theorem fold_mid (q:Nat) (c0:Array Value) (pre l post:List Value) (hq:pre.length=q) (hsz:c0.size=q+l.length+post.length) (hp : ∀ i,i<q→c0[i]?=pre[i]?) (ht : ∀ i,c0[q+l.length+i]?=post[i]?) :
 (l.zipIdx 0).foldl (fun cs (x:Value×Nat)=>cs.setIfInBounds (q+x.2) x.1) c0=(pre++(l++post)).toArray:=by
 obtain ⟨h1,h2⟩:=Great.foldl_set q l 0 c0
 apply Array.ext_getElem?
 intro k
 rw [h2 k]
 by_cases hk:k<q
 ·rw [if_neg (by omega),hp k hk]
  simp [List.getElem?_append_left (show k<pre.length by omega)]
 ·by_cases hk2:k<q+l.length
  ·rw [if_pos ⟨by omega,by omega,by omega⟩]
   simp [List.getElem?_append_right (show pre.length≤k by omega),hq,List.getElem?_append_left (show k-q<l.length by omega)]
  ·rw [if_neg (by omega)]
   have:=ht (k-(q+l.length))
   rw [show q+l.length+(k-(q+l.length))=k from by omega] at this
   rw [this]
   simp [List.getElem?_append_right (show pre.length≤k by omega),hq,List.getElem?_append_right (show l.length≤k-q by omega),show k-q-l.length=k-(q+l.length) from by omega]
end Go.Proofs.YtlojebhcemfodaaGreatDoor
namespace Go.Proofs.YtlojebhcemfodaaGreatDoor
open Go.RowKit
set_option maxRecDepth 100000 in
theorem built_stit (x:StL) (hid:x.id.length=32):Tryz.prog.built 121 [(0, .agg (u8s x.id)),(1, .string (B x.text))]=some (stitC x).toArray:=by
 obtain ⟨it,hi,hz,hs,hb⟩:=Tryz.stitTy.hi
 have hpl:(match Tryz.prog.underlying 121 with | some (.struct fields)=>fields.toList.mapM (fun f=>(Tryz.prog.info? f.type).map fun i=>(f.offset,i.size)) | _=>none)=some [(0,32),(32,1)]:=by kernel_rfl
 have hu:=Tryz.underlying121
 rw [hu] at hpl
 unfold Program.built
 rw [hi,hu]
 simp only [hz]
 simp only at hpl
 rw [hpl]
 have e0:(Value.agg (u8s x.id)).cells=u8s x.id:=rfl
 have e1:(Value.string (B x.text)).cells = #[.string (B x.text)]:=rfl
 have f1 : ∀ c:Array Value,Array.foldl (fun cs (x:Value×Nat)=>cs.setIfInBounds (32+x.snd) x.fst) c (#[.string (B x.text)]:Array Value).zipIdx=c.setIfInBounds 32 (.string (B x.text)):=fun c=>rfl
 have f0 : ∀ c:Array Value,Array.foldl (fun cs (x:Value×Nat)=>cs.setIfInBounds (0+x.snd) x.fst) c (u8s x.id).zipIdx=(x.id.map u8v).zipIdx.foldl (fun cs (x:Value×Nat)=>cs.setIfInBounds (0+x.snd) x.fst) c:=fun c=>by
  rw [←Array.foldl_toList,Array.toList_zipIdx]
  rfl
 have g0:(#[(0,32),(32,1)]:Array (Nat×Nat))[0]?=some (0,32):=rfl
 have g1:(#[(0,32),(32,1)]:Array (Nat×Nat))[1]?=some (32,1):=rfl
 obtain ⟨Z,hZ⟩ : ∃ Z,Z=zStit.cells:=⟨_,rfl⟩
 have hZl:Z.size=33:=by rw [hZ];rfl
 have hZ32:Z[32]?=some (.string (B [])):=by rw [hZ];rfl
 have hfin:(x.id.map u8v).zipIdx.foldl (fun cs (x:Value×Nat)=>cs.setIfInBounds (0+x.snd) x.fst) Z=([]++(x.id.map u8v++[Value.string (B [])])).toArray:=by
  refine fold_mid 0 _ [] (x.id.map u8v) [Value.string (B [])] rfl (by rw [hZl,List.length_map,hid];rfl) (fun i hi=>absurd hi (by omega)) (fun i=>?_)
  rw [List.length_map,hid]
  match i with
  | 0=>exact hZ32
  | n+1=>rw [Array.getElem?_eq_none (by omega)];rfl
 simp only [Instr.fill,g0,g1,e0,e1]
 rw [←hZ,f0,if_neg (by simp [u8s_size,hid,hZl]),hfin,f1,if_neg (by simp [hid])]
 congr 1
 unfold stitC
 rw [show (u8s x.id).toList=x.id.map u8v from by simp [u8s]]
 simp only [List.setIfInBounds_toArray,List.nil_append]
 rw [List.set_append_right _ _ (by rw [List.length_map,hid];omega),List.length_map,hid]
 rfl
/-- What the operations of 's.l = slices.Insert(s.l, at, item)' leave. -/
def StPutR (V:Nat→Value) (w0:World) (base:Nat) (vl:Value) (x:StL) (s':List StL) (i:Nat) (v:Value) (W:World):Prop:=
 if i=9 then (∃ b,v = .slice (some ⟨b,0,none⟩) 1 1∧Blk W b 121 (stitC x).toArray∧w0.heap.size≤b)
 else if i=10 then OwnStits W base v s'∧Newer w0 vl v
 else v=V i
/-- What lies there: all as it was; the slice grew; the field holds it. -/
structure StPutC (w0:World) (base p:Nat) (vl:Value) (s':List StL) (listed:Array Bool) (W:World):Prop where
 a_:listed.getD 10 false=false→Below w0.heap.size w0 W
 b_:listed.getD 10 false=true→listed.getD 13 false=false→Far [vl.ownBlock] w0 W
 c_:listed.getD 13 false=true → ∃ v',Blk W p 114 #[v']∧OwnStits W base v' s'∧Newer w0 vl v'∧Far [some p,vl.ownBlock] w0 W
 sz:w0.heap.size≤W.heap.size
section
variable {V:Nat→Value} {w0 w w':World} {base p:Nat} {vl:Value} {x:StL} {s':List StL} {i:Nat} {v:Value} {listed:Array Bool}
theorem StPutR.at_ (h:StPutR V w0 base vl x s' i v w) (hi:i≠9∧i≠10):v=V i:=by unfold StPutR at h;rwa [if_neg hi.1,if_neg hi.2] at h
theorem StPutR.mk (hi:i≠9∧i≠10) (h:v=V i):StPutR V w0 base vl x s' i v w:=by unfold StPutR;rwa [if_neg hi.1,if_neg hi.2]
theorem StPutR.lit {b:Nat} (h:Blk w b 121 (stitC x).toArray) (hb:w0.heap.size≤b):StPutR V w0 base vl x s' 9 (.slice (some ⟨b,0,none⟩) 1 1) w:=by unfold StPutR;rw [if_pos rfl];exact ⟨b,rfl,h,hb⟩
theorem StPutR.litAt (h:StPutR V w0 base vl x s' 9 v w) : ∃ b,v = .slice (some ⟨b,0,none⟩) 1 1∧Blk w b 121 (stitC x).toArray∧w0.heap.size≤b:=by unfold StPutR at h;rwa [if_pos rfl] at h
theorem StPutR.ins (h:OwnStits w base v s') (hn:Newer w0 vl v):StPutR V w0 base vl x s' 10 v w:=by unfold StPutR;rw [if_neg (by omega),if_pos rfl];exact ⟨h,hn⟩
theorem StPutR.insAt (h:StPutR V w0 base vl x s' 10 v w):OwnStits w base v s'∧Newer w0 vl v:=by unfold StPutR at h;rwa [if_neg (by omega),if_pos rfl] at h
/-- All that an operation left stays, where it is neither in a block of S nor .. -/
theorem StPutR.far {S:List (Option Nat)} (h:StPutR V w0 base vl x s' i v w) (hf:Far S w w') (h9 : ∀ b,w0.heap.size≤b→b<w.heap.size→some b ∉ S) (h10:i=10 → ∀ k,v.ownBlock=some k→some k ∉ S):StPutR V w0 base vl x s' i v w':=by
 by_cases e:i=9
 ·subst e
  obtain ⟨b,rfl,h1,h2⟩:=h.litAt
  exact .lit (hf.blk h1 (h9 b h2 h1.lt)) h2
 ·by_cases e2:i=10
  ·subst e2
   obtain ⟨h1,h2⟩:=h.insAt
   exact .ins (hf.own h1 (h10 rfl)) h2
  ·exact .mk ⟨e,e2⟩ (h.at_ ⟨e,e2⟩)
theorem StPutC.same (h:StPutC w0 base p vl s' listed w) (hi:i<listed.size) (hne:i≠10∧i≠13):StPutC w0 base p vl s' (listed.setIfInBounds i true) w:=by
 have e1:(listed.setIfInBounds i true).getD 10 false=listed.getD 10 false:=by rw [getD_set hi,if_neg (fun e=>hne.1 e.symm)]
 have e2:(listed.setIfInBounds i true).getD 13 false=listed.getD 13 false:=by rw [getD_set hi,if_neg (fun e=>hne.2 e.symm)]
 exact ⟨by rw [e1];exact h.a_,by rw [e1,e2];exact h.b_,by rw [e2];exact h.c_,h.sz⟩
theorem StPutC.drew (h:StPutC w0 base p vl s' listed w):StPutC w0 base p vl s' listed w.drew:=⟨fun e=>(h.a_ e).drew,fun e1 e2=>(h.b_ e1 e2).drew,fun e=>by
 obtain ⟨v',h1,h2,h3,h4⟩:=h.c_ e
 exact ⟨v',h1,h2,h3,h4.drew⟩,h.sz⟩
theorem StPutC.start (w:World):StPutC w base p vl s' (Array.replicate 14 false) w:=⟨fun _=>Below.refl _ _,fun h=>by simp at h,fun h=>by simp at h,Nat.le_refl _⟩
end
end Go.Proofs.YtlojebhcemfodaaGreatDoor
namespace Go.Proofs.YtlojebhcemfodaaGreatDoor
open Go.RowKit
set_option maxRecDepth 100000 in
set_option maxHeartbeats 2000000 in
theorem blob_calls (k:Nat) (r:Rd) (hr:r.1.length≤100000) (gO gR:Nat) (hne:gO≠gR) (w:World) (hO:ObjB w gO (nObj k) (.slice none 0 0) (.slice none 0 0)) (hR:RdB w gR r) :
 Calls Tryz.prog 75 #[.pointer (some ⟨gR,0,none⟩), .pointer (some ⟨gO,0,none⟩)] w fun e w'=>e = .returned (.tuple #[])∧Did w gO gR w.heap.size (rBlob k r) w':=by
 have hcall:=Lib.hid (rb_calls r.1.length r hr hr gR w hR)
 have c0:=hR.c0
 obtain ⟨x,hx⟩ : ∃ x,Hid (rBlob k r=x):=⟨_,Lib.hid rfl⟩
 have hgO:some gO ∉ [some gR]:=by simp;omega
 rw [hx.out]
 go_enter Tryz.func75,Tryz.ntmps75
 go_wp2_with (first
  | ((with_reducible refine hcall.out.mono ?_);rintro e w1 ⟨rfl,hr1,hf1⟩
     have hO1:=hO.far hf1 hgO
     have f1:=hO1.fr 1
     have c1:=hO1.data))
 go_end0
 refine ⟨rfl,?_⟩
 rw [←hx.out]
 exact ⟨_,_,⟨hO1.setData _,World.ownsRow_nil _ _ _ _,World.ownsRow_nil _ _ _ _,hr1.set_ (fun e=>hne e.symm) _,(hf1.mono (by simp)).set_ (.inl (by simp)) _⟩⟩
set_option maxRecDepth 100000 in
set_option maxHeartbeats 2000000 in
theorem tag_calls (k:Nat) (r:Rd) (hr:r.1.length≤100000) (gO gR:Nat) (hne:gO≠gR) (w:World) (hO:ObjB w gO (nObj k) (.slice none 0 0) (.slice none 0 0)) (hR:RdB w gR r) :
 Calls Tryz.prog 78 #[.pointer (some ⟨gR,0,none⟩), .pointer (some ⟨gO,0,none⟩)] w fun e w'=>e = .returned (.tuple #[])∧Did w gO gR w.heap.size (rTag k r) w':=by
 have hl1:=rKind_le r
 have hl2:=rId_le (rKind r).2
 have hkc:=Lib.hid (rk_calls r hr gR w hR)
 have hic:=fun W hW=>Lib.hid (ri_calls (rKind r).2 (by omega) gR W hW)
 have htc:=fun W hW=>Lib.hid (rt_calls (rId (rKind r).2).2 (by omega) gR W hW)
 obtain ⟨x,hx⟩ : ∃ x,Hid (rTag k r=x):=⟨_,Lib.hid rfl⟩
 have hgO:some gO ∉ [some gR]:=by simp;omega
 have hid32:=rId_len (rKind r).2
 have hsz:(Tryz.prog.info? 42).map (·.size)=some (u8s (rId (rKind r).2).1).size:=by rw [u8s_size,hid32];exact sz32
 have h32:(u8s (rId (rKind r).2).1).size=32:=by rw [u8s_size,hid32]
 have hone:=u8s_one (rId (rKind r).2).1
 have hxx:Hid (x=((⟨k,[],[],noId,[],0,[],(rId (rKind r).2).1,(rKind r).1,(rText (rId (rKind r).2).2).1⟩:ObjL),(rText (rId (rKind r).2).2).2)):=hx.out.symm
 rw [hx.out]
 clear hx
 generalize rKind r=K at *
 generalize rId K.2=I at *
 generalize rText I.2=T at *
 go_enter Tryz.func78,Tryz.ntmps78
 go_wp2_with (first
  | ((with_reducible refine hkc.out.mono ?_);rintro e w1 ⟨rfl,hr1,hf1⟩
     have hO1:=hO.far hf1 hgO
     have f1:=hO1.fr 70
     have c1:=hO1.of_
     have hO1:=hO1.setOf K.1
     have hr1:=hr1.set_ (p:=⟨gO,70,none⟩) (fun e=>hne e.symm) (.int .i64 K.1)
     have hf1:=(hf1.mono (T:=[some gO,some gR]) (by simp)).set_ (p:=⟨gO,70,none⟩) (.inl (by simp)) (.int .i64 K.1)
     clear hkc)
  | ((with_reducible refine (hic _ hr1).out.mono ?_);rintro e w2 ⟨rfl,hr2,hf2⟩
     have hO2:=hO1.far hf2 hgO
     have ht2:=hO2.there 38 32 (by omega)
     have hf2:=hf1.trans (hf2.mono (by simp))
     clear hf1 hr1 hO1 f1 c1 hic)
  | ((with_reducible refine lit_store_id (.tmp 13) (.tmp 11) gO 38 I.1 hid32 ht2 ?_ ?_ ?_);rfl;rfl
     have hO2:=hO2.setTarget I.1 hid32
     have hr2:=hr2.cells_ hne (u8s I.1).toList 38
     have hf2:=Far.cells (S:=[some gO,some gR]) (g:=gO) (.inl (List.mem_cons_self ..)) (u8s I.1).toList 38 _ hf2)
  | ((with_reducible refine (htc _ hr2).out.mono ?_);rintro e w3 ⟨rfl,hr3,hf3⟩
     have hO3:=hO2.far hf3 hgO
     have f3:=hO3.fr 71
     have c3:=hO3.name
     have hO3:=hO3.setName T.1
     have hr3:=hr3.set_ (p:=⟨gO,71,none⟩) (fun e=>hne e.symm) (.string (B T.1))
     have hf3:=(hf2.trans (hf3.mono (T:=[some gO,some gR]) (by simp))).set_ (p:=⟨gO,71,none⟩) (.inl (by simp)) (.string (B T.1))
     clear hf2 hr2 hO2 htc))
 go_end0
 refine ⟨rfl,?_⟩
 rw [hxx.out]
 exact ⟨_,_,⟨hO3,World.ownsRow_nil _ _ _ _,World.ownsRow_nil _ _ _ _,hr3,hf3⟩⟩
end Go.Proofs.YtlojebhcemfodaaGreatDoor
namespace Go.Proofs.YtlojebhcemfodaaGreatDoor
open Go.RowKit
attribute [local go_sem ↓] ldvE_eq
def zEnt : Value := .agg (entC ⟨[],0,noId⟩).toArray
theorem Tryz.entTy : SliceTy Tryz.prog 51 134 zEnt 34 56:=⟨Tryz.underlying51,info_parts (by kernel_rfl),rfl,by omega⟩
theorem built_ent (k:Int):Tryz.prog.built 134 [(1, .int .i64 k)]=some (entC ⟨[],k,noId⟩).toArray:=by kernel_rfl
theorem entC_size {e:EntL} (h:e.id.length=32):(entC e).toArray.size=34:=by rw [List.size_toArray];unfold entC;simp only [List.length_cons,u8s_len,h]
theorem entC_all (e:EntL):(entC e).toArray.all (·.oneCell')=true:=all_oneCell_toArray (entC_one e)
/-- A block holds an entry. -/
def EntB (w:World) (g:Nat) (e:EntL):Prop:=Blk w g 134 (entC e).toArray
theorem EntB.setName {w:World} {g:Nat} {e:EntL} (h:EntB w g e) (s:Txt):EntB (w.setCell ⟨g,0,none⟩ (.string (B s))) g { e with name:=s }:=by
 have:=Blk.set_ h 0 (.string (B s))
 rwa [List.setIfInBounds_toArray] at this
theorem EntB.setId {w:World} {g:Nat} {e:EntL} (h:EntB w g e) (he:e.id.length=32) (i:Txt) (hi:i.length=32):EntB (w.setCells g 2 (u8s i).toList) g { e with id:=i }:=by
 have hb:Blk w g 134 ([Value.string (B e.name),Value.int .i64 e.kind]++((u8s e.id).toList++[])).toArray:=by rw [List.append_nil];exact h
 have:=Blk.splice (u8s i).toList 2 w _ _ _ hb rfl (by rw [u8s_len,u8s_len,he,hi])
 rw [List.append_nil] at this
 exact this
theorem EntB.far {S:List (Option Nat)} {w w':World} {g:Nat} {e:EntL} (h:EntB w g e) (hf:Far S w w') (hg:some g ∉ S):EntB w' g e:=hf.blk h hg
theorem EntB.name {w:World} {g:Nat} {e:EntL} (h:EntB w g e):w.cell? ⟨g,0,none⟩=some (.string (B e.name)):=by rw [Blk.cell h];rfl
theorem EntB.fr {w:World} {g:Nat} {e:EntL} (h:EntB w g e) (i:Nat):w.frozen? ⟨g,i,none⟩=false:=Blk.frozen h i
theorem EntB.there_ {w:World} {g:Nat} {e:EntL} (h:EntB w g e) (he:e.id.length=32):w.there g 2 32:=Blk.there h (by rw [entC_size he];decide)
theorem rEnt_less {c:UInt8} {q:Txt}:(rEnt (c::q,false)).2.1.length≤q.length:=by
 have h1:=rId_le (rText (rKind (c::q,false)).2).2
 have h2:=rText_le (rKind (c::q,false)).2
 rw [rKind_app] at h1 h2
 show (rId (rText (rKind (c::q,false)).2).2).2.1.length≤_
 rw [rKind_app]
 exact Nat.le_trans h1 h2
theorem rTree_end {f:Nat} {r:Rd} {acc:List EntL} (h:r.2=true∨r.1=[]):rTree f r acc=(acc,r):=by
 cases f with
 | zero=>rfl
 | succ f=>rw [rTree,if_pos h]
theorem rTree_step {f:Nat} {c:UInt8} {q:Txt} {acc:List EntL}:rTree (f+1) (c::q,false) acc=rTree f (rEnt (c::q,false)).2 (acc++[(rEnt (c::q,false)).1]):=by
 rw [rTree,if_neg (by simp)]
theorem rText_len (r:Rd):(rText r).1.length≤r.1.length:=by
 unfold rText
 split
 ·simp
 ·split
  ·simp
  ·rename_i t q h
   have:=takeP_back h
   rw [this]
   unfold textE
   simp
   omega
theorem rEnt_eq (c:UInt8) (q:Txt):rEnt (c::q,false)=(⟨(rText (q,false)).1,c.toNat,(rId (rText (q,false)).2).1⟩,(rId (rText (q,false)).2).2):=by
 unfold rEnt
 rw [rKind_app]
structure TreeI (w:World) (gO gR:Nat) (r:Rd) (w':World):Prop where
 rd:RdB w' gR r
 far:Far [some gO,some gR] w w'
theorem TreeI.below {w w1 w2:World} {gO gR:Nat} {r:Rd} (h:TreeI w gO gR r w1) (hb:Below w1.heap.size w1 w2):TreeI w gO gR r w2:=⟨h.rd.below hb,h.far.more hb⟩
theorem TreeI.low {w w1 w2:World} {gO gR:Nat} {r:Rd} (hR:gR<w.heap.size) (h:TreeI w gO gR r w1) (hb:Below w.heap.size w1 w2):TreeI w gO gR r w2:=⟨(hb.block gR hR).trans h.rd,h.far.low hb⟩
theorem TreeI.set_ {w w1:World} {gO gR o:Nat} {r:Rd} (hne:gO≠gR) (h:TreeI w gO gR r w1) (v:Value):TreeI w gO gR r (w1.setCell ⟨gO,o,none⟩ v):=⟨RdB.set_ h.rd (fun e=>hne e.symm) v,h.far.set_ (.inl (by simp)) v⟩
set_option maxRecDepth 100000 in
set_option maxHeartbeats 4000000 in
theorem tree_calls (k:Nat) (r:Rd) (hr:r.1.length≤100000) (gO gR:Nat) (hne:gO≠gR) (w:World) (hO:ObjB w gO (nObj k) (.slice none 0 0) (.slice none 0 0)) (hR:RdB w gR r) :
 Calls Tryz.prog 76 #[.pointer (some ⟨gR,0,none⟩), .pointer (some ⟨gO,0,none⟩)] w fun e w'=>e = .returned (.tuple #[])∧Did w gO gR w.heap.size (rTr k r) w':=by
 obtain ⟨X,hX⟩ : ∃ X,Hid (rTree r.1.length r []=X):=⟨_,Lib.hid rfl⟩
 have hfin:Hid (∀ w',(∃ ve,ObjB w' gO { nObj k with ents:=X.1 } ve (.slice none 0 0)∧OwnEnts w' w.heap.size ve X.1∧RdB w' gR X.2∧Far [some gO,some gR] w w')→Did w gO gR w.heap.size (rTr k r) w'):=fun w' ⟨ve,h1,h2,h3,h4⟩=>by
  have e:rTr k r=({ nObj k with ents:=X.1 },X.2):=by unfold rTr;rw [hX.out];rfl
  rw [e]
  exact ⟨ve,_,⟨h1,h2,World.ownsRow_nil _ _ _ _,h3,h4⟩⟩
 have hgO:some gO ∉ [some gR]:=by simp;omega
 have hgR:some gR ∉ [some gO]:=by simp;omega
 have hltO:gO<w.heap.size:=hO.blk.lt
 have hltR:gR<w.heap.size:=Blk.lt hR
 have hS : ∀ k,some k∈[some gR]→some k∈[some gO,some gR]:=by simp
 have hstart:OwnEnts w w.heap.size (.slice none 0 0) []:=World.ownsRow_nil _ _ _ _
 have hf0:Far [some gO,some gR] w w:=Far.refl _ _
 have hX0:=hX
 obtain ⟨n0,hn0⟩ : ∃ n0,n0=r.1.length:=⟨_,rfl⟩
 rw [←hn0] at hX hr
 have hle0:r.1.length≤n0:=by omega
 have hO0:ObjB w gO { nObj k with ents:=[] } (.slice none 0 0) (.slice none 0 0):=hO
 clear hX0 hO
 go_enter Tryz.func76,Tryz.ntmps76
 go_wp2
 go_loopg [] n0 (fun f wr=>f≤100000 ∧ ∃ (r':Rd) (acc:List EntL) (ve:Value),r'.1.length≤f∧acc.length+f≤n0∧Hid (rTree f r' acc=X)∧OwnEnts wr w.heap.size ve acc∧ObjB wr gO { nObj k with ents:=acc } ve (.slice none 0 0)∧RdB wr gR r'∧Far [some gO,some gR] w wr)
 case atStart=>exact ⟨hr,r,[], .slice none 0 0,hle0,by simp,hX,hstart,hO0,hR,hf0⟩
 case round=>
  obtain ⟨hf1,r',acc,ve,hlen,hacc,hrel,hown,hOb,hRb,hfar⟩:=hrel
  clear hR hO0 hX hstart hf0 hn0 hle0
  obtain ⟨s,b⟩:=r'
  have c0:=hRb.c0
  have c1:=hRb.c1
  simp only at c0 c1 hlen
  by_cases hend:b=true∨s=[]
  ·have hx:Hid ((acc,(s,b))=X):=by show _=_;rw [←hrel.out];exact (rTree_end hend).symm
   clear hrel
   have hd:=hfin.out wr ⟨ve,by rw [←hx.out];exact hOb,by rw [←hx.out];exact hown,by rw [←hx.out];exact hRb,hfar⟩
   clear hOb hRb hfar hown hx hfin
   cases b with
   | true=>
     clear hend
     go_wp2
     go_end0
     exact ⟨rfl,hd⟩
   | false=>
     obtain rfl:s=[]:=by simpa using hend
     go_wp2
     go_end0
     exact ⟨rfl,hd⟩
  ·obtain rfl:b=false:=by cases b<;>simp_all
   match s,hend with
   | [],hend=>exact absurd (.inr rfl) hend
   | c::q,_=>
     cases gk with
     | zero=>simp at hlen
     | succ f=>
     have hnx:Hid (rTree f (rEnt (c::q,false)).2 (acc++[(rEnt (c::q,false)).1])=X):=by show _=_;rw [←rTree_step];exact hrel.out
     rw [rEnt_eq] at hnx
     have hless:=rEnt_less (c:=c) (q:=q)
     rw [rEnt_eq] at hless
     simp only [List.length_cons] at hlen
     clear hrel
     have hnl:=rText_len (q,false)
     have hnl2:=rText_le (q,false)
     have hi32:=rId_len (rText (q,false)).2
     simp only at hnl hnl2 hless
     have hkc:=Lib.hid (rk_calls (c::q,false) (by simp;omega) gR wr hRb)
     rw [rKind_app] at hkc
     have htc:=fun W hW=>Lib.hid (rt_calls (q,false) (by simp;omega) gR W hW)
     have hic:=fun W hW=>Lib.hid (ri_calls (rText (q,false)).2 (by omega) gR W hW)
     generalize rText (q,false)=N at *
     generalize rId N.2=I at *
     have hbd:=built_ent (c.toNat:Int)
     have z34:zEnt.cells.size=34:=rfl
     have e34:(entC ⟨[],c.toNat,noId⟩).toArray.size=34:=entC_size noId_len
     have eone:=entC_all ⟨[],c.toNat,noId⟩
     have hlO:=hOb.blk.lt
     have hsz0:=hfar.size
     have hxok:EntOk ⟨N.1,c.toNat,I.1⟩:=⟨hi32,by show N.1.length≤_;omega,by show _≤(c.toNat:Int);omega,by have:=c.toNat_lt;show (c.toNat:Int)≤_;omega⟩
     go_upto_region 4 with (first
      | ((with_reducible refine hkc.out.mono ?_);rintro e w1 ⟨rfl,hr1,hf1⟩
         have hO1:=hOb.far hf1 hgO
         have hown1:=hf1.own hown (fun k hk=>by have:=(World.ownsRow.lt hown k hk).1;simp;omega)
         have hfar1:=hfar.trans (hf1.mono hS)
         have hsz1:=hfar1.size
         clear hkc hRb hOb hfar hown c0 c1 hf1)
      | ((with_reducible refine lit_build1 hbd ?_ ?_);rfl)
      | ((with_reducible refine lit_new 134 (.tmp 4) (.tmp 19) (entC ⟨[],c.toNat,noId⟩).toArray 34 szEnt e34 eone _ ?_ ?_ ?_ ?_);rfl;rfl;rfl;intro W2 hb2 hbl2
         have hO2:=hO1.below hbl2
         have hown2:=own_below hown1 hbl2
         have hr2:=hr1.below hbl2
         have hfar2:=hfar1.more hbl2
         have hsz2:=hbl2.size
         have hE2:EntB W2 w1.heap.size ⟨[],c.toNat,noId⟩:=hb2
         have hgEB:w.heap.size≤w1.heap.size:=hsz1
         have hgER:some w1.heap.size ∉ [some gR]:=by simp;omega
         have hgEO:gO≠w1.heap.size:=by omega
         have hgER':gR≠w1.heap.size:=by omega
         have hveE:ve.ownBlock≠some w1.heap.size:=fun h=>by have:=(World.ownsRow.lt hown1 _ h).2;omega
         generalize w1.heap.size=gE at *
         clear hO1 hown1 hr1 hfar1 hbl2 hb2 hsz1)
      | ((with_reducible refine (htc _ hr2).out.mono ?_);rintro e w3 ⟨rfl,hr3,hf3⟩
         have hO3:=hO2.far hf3 hgO
         have hown3:=hf3.own hown2 (fun k hk=>by have:=(World.ownsRow.lt hown2 k hk).1;simp;omega)
         have hE3:=hE2.far hf3 hgER
         have hfar3:=hfar2.trans (hf3.mono hS)
         have f3:=hE3.fr 0
         have c3:=hE3.name
         have hE3:=hE3.setName N.1
         have hr3:=hr3.set_ (p:=⟨gE,0,none⟩) hgER' (.string (B N.1))
         have hO3:=hO3.far (S:=[some gE]) ((Far.refl _ _).set_ (p:=⟨gE,0,none⟩) (.inl (by simp)) (.string (B N.1))) (by simp;omega)
         have hown3:=Far.own (S:=[some gE]) ((Far.refl _ _).set_ (p:=⟨gE,0,none⟩) (.inl (by simp)) (.string (B N.1))) hown3 (fun k hk h=>hveE (by simp at h;rw [←h];exact hk))
         have hfar3:=hfar3.set_ (p:=⟨gE,0,none⟩) (.inr hgEB) (.string (B N.1))
         clear hO2 hown2 hE2 hfar2 hr2 htc hf3)
      | ((with_reducible refine (hic _ hr3).out.mono ?_);rintro e w4 ⟨rfl,hr4,hf4⟩
         have hO4:=hO3.far hf4 hgO
         have hown4:=hf4.own hown3 (fun k hk=>by have:=(World.ownsRow.lt hown3 k hk).1;simp;omega)
         have hE4:=hE3.far hf4 hgER
         have hfar4:=hfar3.trans (hf4.mono hS)
         have ht4:=hE4.there_ noId_len
         clear hO3 hown3 hE3 hfar3 hr3 hic hf4 c3 f3)
      | ((with_reducible refine lit_store_id (.tmp 25) (.tmp 24) gE 2 I.1 hi32 ht4 ?_ ?_ ?_);rfl;rfl
         have hE5:=hE4.setId noId_len I.1 hi32
         have hr5:=hr4.cells_ hgER'.symm (u8s I.1).toList 2
         have hfE:=Far.cells (S:=[some gE]) (g:=gE) (.inl (List.mem_cons_self ..)) (u8s I.1).toList 2 _ (Far.refl _ w4)
         have hO5:=hO4.far hfE (by simp;omega)
         have hown5:=hfE.own hown4 (fun k hk h=>hveE (by simp at h;rw [←h];exact hk))
         have hfar5:=hfar4.cells (.inr hgEB) (u8s I.1).toList 2 _
         clear hO4 hown4 hE4 hfar4 hr4 hfE ht4))
     have hI5:TreeI w gO gR I.2 (w4.setCells gE 2 (u8s I.1).toList):=⟨hr5,hfar5⟩
     have hIb:=fun w1 w2 (h:TreeI w gO gR I.2 w1) (hb:Below w1.heap.size w1 w2)=>h.below hb
     have hIB:=fun w1 w2 (h:TreeI w gO gR I.2 w1) (hb:Below w.heap.size w1 w2)=>h.low hltR hb
     have hIs:=fun v w1 (h:TreeI w gO gR I.2 w1)=>h.set_ (o:=2) hne v
     have hJb:=fun w1 w2 (h:EntB w1 gE ⟨N.1,c.toNat,I.1⟩) (hb:Below w1.heap.size w1 w2)=>(Blk.below h hb (Blk.lt h):EntB w2 gE ⟨N.1,c.toNat,I.1⟩)
     generalize w4.setCells gE 2 (u8s I.1).toList=W5 at *
     have hF1:F1 w.heap.size gO 54 (objC { nObj k with ents:=acc } ve (.slice none 0 0)).toArray 134 34 ve acc.length (rowsOf entC acc) (TreeI w gO gR I.2) (fun w'=>EntB w' gE ⟨N.1,c.toNat,I.1⟩) W5.drew:=⟨hO5.blk.drew,hown5,⟨hI5.rd,hI5.far.drew⟩,hE5,Nat.le_trans hfar5.size (Nat.le_refl _)⟩
     have hcO:(objC { nObj k with ents:=acc } ve (.slice none 0 0)).toArray.size=72:=by rw [List.size_toArray];unfold objC;simp only [List.length_cons,List.length_append,u8s_len,hO5.tr,hO5.ta,List.length_nil]
     have hve:(objC { nObj k with ents:=acc } ve (.slice none 0 0)).toArray[2]?=some ve:=rfl
     have hm1:acc.length+1≤9223372036854775807:=by omega
     have hm2:(acc.length+1)*56≤140737488355328:=by omega
     have hset : ∀ v':Value,(objC { nObj k with ents:=acc } ve (.slice none 0 0)).toArray.setIfInBounds 2 v'=(objC { nObj k with ents:=acc++[⟨N.1,c.toNat,I.1⟩] } v' (.slice none 0 0)).toArray:=fun v'=>by rw [List.setIfInBounds_toArray];rfl
     have hset:=Lib.hid hset
     have hrow:Hid (rowsOf entC acc++entC ⟨N.1,c.toNat,I.1⟩=rowsOf entC (acc++[⟨N.1,c.toNat,I.1⟩])):=by show _=_;rw [rowsOf_append,rowsOf_one]
     have hotr:=hO5.tr
     have hota:=hO5.ta
     have hgOB:=hltO
     clear hr5 hfar5 hO5 hown5 hE5 hI5
     generalize (objC { nObj k with ents:=acc } ve (.slice none 0 0)).toArray=cO at *
     generalize hxx:(⟨N.1,c.toNat,I.1⟩:EntL)=x at *
     clear hxx
     obtain ⟨n,hn⟩ : ∃ n,Hid (acc.length=n):=⟨_,Lib.hid rfl⟩
     rw [hn.out] at hF1 hm1 hm2
     obtain ⟨xs,hxs⟩ : ∃ xs,Hid (rowsOf entC acc=xs):=⟨_,Lib.hid rfl⟩
     rw [hxs.out] at hF1
     obtain ⟨BB,hBB⟩ : ∃ BB,Hid (w.heap.size=BB):=⟨_,Lib.hid rfl⟩
     rw [hBB.out] at hF1 hIB hgOB
     obtain ⟨II,hII⟩ : ∃ II,Hid (TreeI w gO gR I.2=II):=⟨_,Lib.hid rfl⟩
     rw [hII.out] at hF1
     have hIb : ∀ w1 w2,II w1→Below w1.heap.size w1 w2→II w2:=hII.out▸hIb
     have hIB : ∀ w1 w2,II w1→Below BB w1 w2→II w2:=hII.out▸hIB
     have hIs : ∀ v w1,II w1→II (w1.setCell ⟨gO,2,none⟩ v):=hII.out▸hIs
     obtain ⟨V,hV⟩ : ∃ V:Nat→Value,V=fun i=>[(.pointer (some ⟨gO,0,none⟩)),(.pointer (some ⟨gO,0,none⟩)),(.pointer (some ⟨gO,0,none⟩)),(.pointer (some ⟨gO,2,none⟩)),ve,(.agg (entC x).toArray),undef,undef,(.pointer (some ⟨gO,0,none⟩)),(.pointer (some ⟨gO,2,none⟩)),undef].getD i undef:=⟨_,rfl⟩
     have v0:V 0=(.pointer (some ⟨gO,0,none⟩)):=by rw [hV];rfl
     have v1:V 1=(.pointer (some ⟨gO,0,none⟩)):=by rw [hV];rfl
     have v2:V 2=(.pointer (some ⟨gO,0,none⟩)):=by rw [hV];rfl
     have v3:V 3=(.pointer (some ⟨gO,2,none⟩)):=by rw [hV];rfl
     have v4:V 4=ve:=by rw [hV];rfl
     have v5:V 5=(.agg (entC x).toArray):=by rw [hV];rfl
     have v8:V 8=(.pointer (some ⟨gO,0,none⟩)):=by rw [hV];rfl
     have v9:V 9=(.pointer (some ⟨gO,2,none⟩)):=by rw [hV];rfl
     have v10:V 10=undef:=by rw [hV];rfl
     clear hV
     refine wp_region_listed (C:=Stage 7 10 (F1 BB gO 54 cO 134 34 ve n xs II (fun w'=>EntB w' gE x)) (F2 BB gO 54 cO II) (F3 BB gO 2 54 cO 134 34 n xs (entC x) II)) (R:=StR V 6 7 (LitR BB 134 ve (entC x)) (AppR BB 134 34 n xs (entC x))) (by kernel_rfl) (by kernel_rfl) (by kernel_rfl) ?_ ?_ ?_ ?_
     ·exact sizes_spec (n:=36) (by kernel_rfl)
     ·exact Stage.start hF1
     ·intro i o listed a w1 ho hi hL
      have hin:=(ready_spec hi).1
      have hsz:listed.size=11:=hL.size
      match i,ho with
      | 0,ho=>
        obtain rfl:=(Option.some.inj ho).symm
        have e0:a.tmps[1]?.getD undef=(.pointer (some ⟨gO,0,none⟩)):=(slot_eval a 1).trans (hL.get_old hi (by kernel_rfl))
        have hc:=Stage.same (i:=0) hL.cls (by decide) (by decide)
        refine step_wp rfl rfl ?_
        clear hi ho hL hin
        refine wp_val (v:=(.pointer (some ⟨gO,0,none⟩))) ?_ ⟨_,rfl,StR.mk (by decide) (by decide) v0.symm,hc,fun _ _ _ h=>h⟩
        clear v0 v1 v2 v3 v4 v5 v8 v9 v10 hc
        unfold execOp
        go_simp
      | 1,ho=>
        obtain rfl:=(Option.some.inj ho).symm
        have e0:a.tmps[1]?.getD undef=(.pointer (some ⟨gO,0,none⟩)):=(slot_eval a 1).trans (hL.get_old hi (by kernel_rfl))
        have hc:=Stage.same (i:=1) hL.cls (by decide) (by decide)
        refine step_wp rfl rfl ?_
        clear hi ho hL hin
        refine wp_val (v:=(.pointer (some ⟨gO,0,none⟩))) ?_ ⟨_,rfl,StR.mk (by decide) (by decide) v1.symm,hc,fun _ _ _ h=>h⟩
        clear v0 v1 v2 v3 v4 v5 v8 v9 v10 hc
        unfold execOp
        go_simp
      | 2,ho=>
        obtain rfl:=(Option.some.inj ho).symm
        have e0:a.tmps[27]?.getD undef=(.pointer (some ⟨gO,0,none⟩)):=(slot_eval a 27).trans (((hL.get_new (j:=1) hi (by kernel_rfl)).at_ (by decide) (by decide)).trans v1)
        have hc:=Stage.same (i:=2) hL.cls (by decide) (by decide)
        refine step_wp rfl rfl ?_
        clear hi ho hL hin
        refine wp_val (v:=(.pointer (some ⟨gO,0,none⟩))) ?_ ⟨_,rfl,StR.mk (by decide) (by decide) v2.symm,hc,fun _ _ _ h=>h⟩
        clear v0 v1 v2 v3 v4 v5 v8 v9 v10 hc
        unfold execOp
        go_simp
      | 3,ho=>
        obtain rfl:=(Option.some.inj ho).symm
        have e0:a.tmps[28]?.getD undef=(.pointer (some ⟨gO,0,none⟩)):=(slot_eval a 28).trans (((hL.get_new (j:=2) hi (by kernel_rfl)).at_ (by decide) (by decide)).trans v2)
        have hc:=Stage.same (i:=3) hL.cls (by decide) (by decide)
        refine step_wp rfl rfl ?_
        clear hi ho hL hin
        refine wp_val (v:=(.pointer (some ⟨gO,2,none⟩))) ?_ ⟨_,rfl,StR.mk (by decide) (by decide) v3.symm,hc,fun _ _ _ h=>h⟩
        clear v0 v1 v2 v3 v4 v5 v8 v9 v10 hc
        unfold execOp
        go_simp
      | 4,ho=>
        obtain rfl:=(Option.some.inj ho).symm
        have hla:listed.getD 7 false=false:=hL.later (j:=7) hi (by kernel_rfl)
        have hls:listed.getD 10 false=false:=hL.later2 hla (by kernel_rfl)
        have hc1:=Stage.one hL.cls hla hls
        have e0:a.tmps[29]?.getD undef=(.pointer (some ⟨gO,2,none⟩)):=(slot_eval a 29).trans (((hL.get_new (j:=3) hi (by kernel_rfl)).at_ (by decide) (by decide)).trans v3)
        have hc:=Stage.same (i:=4) hL.cls (by decide) (by decide)
        refine step_wp rfl rfl ?_
        clear hi ho hL hin
        refine wp_val (v:=ve) ?_ ⟨_,rfl,StR.mk (by decide) (by decide) v4.symm,hc,fun _ _ _ h=>h⟩
        have f0:w1.cell? ⟨gO,2,none⟩=some ve:=by rw [hc1.blk.cell];exact hve
        clear hc1
        clear v0 v1 v2 v3 v4 v5 v8 v9 v10 hc
        unfold execOp
        go_simp
      | 5,ho=>
        obtain rfl:=(Option.some.inj ho).symm
        have hla:listed.getD 7 false=false:=hL.later2 (hL.later (j:=6) hi (by kernel_rfl)) (by kernel_rfl)
        have hls:listed.getD 10 false=false:=hL.later2 hla (by kernel_rfl)
        have hc1:=Stage.one hL.cls hla hls
        have e0:a.tmps[4]?.getD undef=(.pointer (some ⟨gE,0,none⟩)):=(slot_eval a 4).trans (hL.get_old hi (by kernel_rfl))
        have hc:=Stage.same (i:=5) hL.cls (by decide) (by decide)
        refine step_wp rfl rfl ?_
        clear hi ho hL hin
        refine wp_val (v:=(.agg (entC x).toArray)) ?_ ⟨_,rfl,StR.mk (by decide) (by decide) v5.symm,hc,fun _ _ _ h=>h⟩
        have f0:(ldvE ⟨gE,0,none⟩).run Tryz.prog w1 = .ok (.agg (entC x).toArray) w1:=run_ldvE (range_blkEnt hc1.pre) hxok
        clear hc1
        clear v0 v1 v2 v3 v4 v5 v8 v9 v10 hc
        unfold execOp
        go_simp
      | 6,ho=>
        obtain rfl:=(Option.some.inj ho).symm
        have hla:listed.getD 7 false=false:=hL.later (j:=7) hi (by kernel_rfl)
        have hls:listed.getD 10 false=false:=hL.later2 hla (by kernel_rfl)
        have hc1:=Stage.one hL.cls hla hls
        have e0:a.tmps[31]?.getD undef=(.agg (entC x).toArray):=(slot_eval a 31).trans (((hL.get_new (j:=5) hi (by kernel_rfl)).at_ (by decide) (by decide)).trans v5)
        refine step_wp rfl rfl ?_
        have hbA:Below w1.heap.size w1 (w1.alloc (.cells (entC x).toArray 134)):=(Below.refl _ _).alloc (Nat.le_refl _) _
        refine slice_step rfl Tryz.entTy (by decide) (entC_len hxok) (.inl ( ((slot_eval a 31).symm.trans e0))) ⟨_,rfl,StR.mkLit ⟨w1.heap.size,rfl,Blk.new _ _ _,hc1.size,fun h=>by have:=(World.ownsRow.lt hc1.own _ h).2;omega⟩,Stage.to1 (hc1.below hbA (hIb _ _ hc1.inv hbA) (hJb _ _ hc1.pre hbA)) hla hls (by decide) (by decide),fun j u _ h=>StR.keep (fun _ h=>h.below hbA) (fun _ h=>h.below hbA) j u h⟩
      | 7,ho=>
        obtain rfl:=(Option.some.inj ho).symm
        have hla:listed.getD 7 false=false:=(getD_of_size (by rw [hsz];exact hin)).trans (ready_spec hi).2.1
        have hls:listed.getD 10 false=false:=hL.later2 hla (by kernel_rfl)
        have hc1:=Stage.one hL.cls hla hls
        have hx:=(hL.get_new (j:=6) (t:=32) hi (by kernel_rfl)).lit
        have hs:a.eval (.tmp 30)=ve:=((hL.get_new (j:=4) hi (by kernel_rfl)).at_ (by decide) (by decide)).trans v4
        refine step_wp rfl rfl ?_
        refine app_step rfl Tryz.entTy hc1 hgOB hx (entC_len hxok) (entC_one x) hm1 hm2 (fun w2 hb=>hIB _ _ hc1.inv hb) hs rfl ?_
        intro v2 w2 hf2 ha2 hk2 hb2
        exact ⟨_,rfl,StR.mkApp ha2 (by decide),Stage.to2 hf2 hls (by rw [hsz];decide) (by decide),fun j u hj h=>StR.keepL hk2 (fun e=>by rw [e,hla] at hj;cases hj) h⟩
      | 8,ho=>
        obtain rfl:=(Option.some.inj ho).symm
        have e0:a.tmps[26]?.getD undef=(.pointer (some ⟨gO,0,none⟩)):=(slot_eval a 26).trans (((hL.get_new (j:=0) hi (by kernel_rfl)).at_ (by decide) (by decide)).trans v0)
        have hc:=Stage.same (i:=8) hL.cls (by decide) (by decide)
        refine step_wp rfl rfl ?_
        clear hi ho hL hin
        refine wp_val (v:=(.pointer (some ⟨gO,0,none⟩))) ?_ ⟨_,rfl,StR.mk (by decide) (by decide) v8.symm,hc,fun _ _ _ h=>h⟩
        clear v0 v1 v2 v3 v4 v5 v8 v9 v10 hc
        unfold execOp
        go_simp
      | 9,ho=>
        obtain rfl:=(Option.some.inj ho).symm
        have e0:a.tmps[34]?.getD undef=(.pointer (some ⟨gO,0,none⟩)):=(slot_eval a 34).trans (((hL.get_new (j:=8) hi (by kernel_rfl)).at_ (by decide) (by decide)).trans v8)
        have hc:=Stage.same (i:=9) hL.cls (by decide) (by decide)
        refine step_wp rfl rfl ?_
        clear hi ho hL hin
        refine wp_val (v:=(.pointer (some ⟨gO,2,none⟩))) ?_ ⟨_,rfl,StR.mk (by decide) (by decide) v9.symm,hc,fun _ _ _ h=>h⟩
        clear v0 v1 v2 v3 v4 v5 v8 v9 v10 hc
        unfold execOp
        go_simp
      | 10,ho=>
        obtain rfl:=(Option.some.inj ho).symm
        have hla:listed.getD 7 false=true:=hL.before hi (by kernel_rfl)
        have hls:listed.getD 10 false=false:=(getD_of_size (by rw [hsz];exact hin)).trans (ready_spec hi).2.1
        have hc2:=Stage.two hL.cls hla hls
        have e0:a.tmps[35]?.getD undef=(.pointer (some ⟨gO,2,none⟩)):=(slot_eval a 35).trans (((hL.get_new (j:=9) hi (by kernel_rfl)).at_ (by decide) (by decide)).trans v9)
        have hv:=(hL.get_new (j:=7) (t:=33) hi (by kernel_rfl)).app (by decide)
        obtain ⟨vA,vK,hvv⟩:=own_form' hv
        rw [hvv] at hv
        have e1:a.tmps[33]?.getD undef=_:=(slot_eval a 33).trans hvv
        have c0:(w1.cell? ⟨gO,2,none⟩).isSome=true:=(hc2.blk.there (o:=2) (n:=1) (by rw [hcO];decide) 0 (by decide)).1
        obtain ⟨c0v,c0⟩:=Option.isSome_iff_exists.1 c0
        have f0:=hc2.blk.frozen 2
        have hR:=fun u=>AppR.set_ (p:=⟨gO,2,none⟩) (hv) hgOB u
        have h3:=Stage.to3 (ap:=7) (P1:=(F1 BB gO 54 cO 134 34 ve n xs II (fun w'=>EntB w' gE x))) (P2:=(F2 BB gO 54 cO II)) (hc2.stored (off:=2) hv hgOB (hIs _ _ hc2.inv)) (listed:=listed) (st:=10) (by rw [hsz];decide)
        refine step_wp rfl rfl ?_
        clear hi ho hL hin hc2
        refine wp_skip (w':=w1.setCell ⟨gO,2,none⟩ _) ?_ ⟨_,rfl,StR.mk (by decide) (by decide) v10.symm,h3,fun j u _ h=>StR.keep (fun _ h=>h.set_ hgOB _) (fun _ h=>AppR.set_ h hgOB _) j u h⟩
        clear v0 v1 v2 v3 v4 v5 v8 v9 v10 h3
        unfold execOp
        go_simp
      | (n+11),ho=>exact absurd hin (by simp)
     ·intro a w1 listed hL hall
      obtain ⟨v3,hb3,ho3,hi3,_⟩:=Stage.three hL.cls (hall 10 (by decide))
      rw [←hII.out] at hi3
      rw [hset.out] at hb3
      have hob3:ObjB w1 gO { nObj k with ents:=acc++[x] } v3 (.slice none 0 0):=⟨hb3,hotr,hota⟩
      rw [←hxs.out,←hn.out,←hBB.out,hrow.out] at ho3
      have hown3:OwnEnts w1 w.heap.size v3 (acc++[x]):=by unfold OwnEnts;rw [List.length_append];exact ho3
      have hl3:(acc++[x]).length+f≤n0:=by rw [List.length_append];simp only [List.length_cons,List.length_nil];omega
      have hr3':=hi3.rd
      have hf3':=hi3.far
      have hlI:I.2.1.length≤f:=by omega
      obtain ⟨vs,rfl,hR⟩:=hL.frame (by kernel_rfl) (sizes_spec (n:=36) (by kernel_rfl)) hall
      clear hL hall hR hF1 hIb hIB hIs hJb hII hset hrow hxs hn hBB hm1 hm2 hb3 ho3 hi3 hve hcO
      simp only [putAll,Act.put,List.setIfInBounds_toArray,List.set_cons_zero,List.set_cons_succ]
      go_wp2
      go_roundg f
      case rel=>exact ⟨by omega,I.2,acc++[x],v3,hlI,hl3,hnx,hown3,hob3,hr3',hf3'⟩
      case measure=>exact Nat.lt_succ_self f
end Go.Proofs.YtlojebhcemfodaaGreatDoor
