/- Texts of this claim, laid together: Base, Post, VarintP, Txt, LzP, TakeP, ObjP, Id, Zero, Quiet, Own, Elem, Rowk, Far, ObjW, IdW, Inv, InvW, LitB. -/
import Derived.Test.YtbhdfaadedlcfaaGreatDoorProg
import Derived.Test.YtbhdfaadedlcfaaGreatDoorRows
import Derived.WalkKit
import Derived.WalkSpells
import Derived.WalkLawsBesides
import Derived.Lib.Hide
import Derived.Lib.AppendStr
import Derived.Deep.AppendLies
import Derived.Deep.Draws
import Derived.Deep.QuietTactic
import Derived.BigQuiet
import Derived.BigGuardPart
import Derived.Deep.DeepMust
import Derived.ProofKit
import Derived.ChangeSame
import Derived.Deep.Slices
import Derived.Deep.Fields
import Derived.Below
import Derived.ChangeKeysEq
import Derived.Laws.Tables
import Derived.Deep.Quiet
import Derived.Deep.MidRow
import Derived.Deep.RegionLaw
import Derived.Lib.AppendZerosOnto
import Derived.Maps.AppendAt
import Derived.Orders
import Derived.Great.BuildSlice
namespace Go.Proofs.YtbhdfaadedlcfaaGreatDoor
open Go.RowKit
theorem zA {α : Type} (l : List α) (i : Nat) (a : α) : l.toArray.setIfInBounds i a = (l.set i a).toArray := List.setIfInBounds_toArray ..
theorem zB {α : Type} {a : α} {l : List α} {b : α} : (a :: l).set 0 b = b :: l := rfl
theorem zC {α : Type} {a : α} {l : List α} {i : Nat} {b : α} : (a :: l).set (i + 1) b = a :: l.set i b := rfl
section
def B (l:List UInt8):ByteArray:=⟨l.toArray⟩
theorem size_B (l:List UInt8):(B l).size=l.length:=rfl
theorem toList_B (l:List UInt8):(B l).toList=l:=ByteArray.toList_mk l
theorem getElem_B (l:List UInt8) (i:Nat) (h:i<(B l).size):(B l)[i]'h=l[i]'(by rw [size_B] at h;exact h):=rfl
theorem append_B (a b:List UInt8):B a++B b=B (a++b):=ByteArray.mk_append_mk a b
theorem zAV (l:List UInt8) (a b:Nat):(B l).extract a b=B ((l.drop a).take (b-a)):=ByteArray.extract_mk l a b
theorem zCg (l:List UInt8) (a:Nat):(B l).extract a l.length=B (l.drop a):=by
 rw [zAV,List.take_of_length_le (by simp)]
theorem zEA (l:List UInt8) (b:Nat):(B l).extract 0 b=B (l.take b):=by
 rw [zAV];simp
theorem append_B_mk (a b:List UInt8):B a++ByteArray.mk b.toArray=B (a++b):=append_B a b
theorem append_mk_B (a b:List UInt8):ByteArray.mk a.toArray++B b=B (a++b):=append_B a b
theorem B_mk (s:ByteArray) : ∃ l,s=B l:=⟨s.data.toList,rfl⟩
theorem take_drop_all (l:List UInt8) (a:Nat):(l.drop a).take (l.length-a)=l.drop a:=List.take_of_length_le (by simp)
attribute [go_sem] size_B toList_B getElem_B append_B zAV take_drop_all append_B_mk append_mk_B
def strOf : Value→List UInt8 | .string s=>s.data.toList | _=>[]
theorem strOf_B (l:List UInt8):strOf (.string (B l))=l:=rfl
def u8v (c:UInt8):Value := .int .u8 c.toNat
theorem u8v_one (l:List UInt8) : ∀ u∈l.map u8v,u.oneCell'=true:=by
 intro u hu
 simp only [List.mem_map] at hu
 obtain ⟨b,_,rfl⟩:=hu
 rfl
structure SliceTy (P:Program) (t e:TypeId) (z:Value) (size bytes:Nat):Prop where
 ht:P.underlying t=some (.slice e)
 hi : ∃ i,P.info? e=some i∧i.zero=some z∧i.size=size∧i.bytes=bytes
 hzs:z.cells.size=size
 hsz:0<size
def OwnB (w:World) (base:Nat) (e:TypeId) (v:Value) (l:List UInt8):Prop:=w.ownsRow base e 1 v l.length (l.map u8v)
theorem OwnB.nil (w:World) (base:Nat) (e:TypeId):OwnB w base e (.slice none 0 0) []:=World.ownsRow_nil w base e 1
theorem OwnB.alloc {w:World} {base:Nat} {e:TypeId} {v:Value} {l:List UInt8} (h:OwnB w base e v l) (o:Obj):OwnB (w.alloc o) base e v l:=World.ownsRow.alloc h o
theorem OwnB.drew {w:World} {base:Nat} {e:TypeId} {v:Value} {l:List UInt8} (h:OwnB w base e v l):OwnB w.drew base e v l:=h
theorem OwnB.drewN {w:World} {base:Nat} {e:TypeId} {v:Value} {l:List UInt8} (h:OwnB w base e v l) (n:Nat):OwnB (w.drewN n) base e v l:=h
theorem OwnB.lt {w:World} {base:Nat} {e:TypeId} {v:Value} {l:List UInt8} (h:OwnB w base e v l) : ∀ k,v.ownBlock=some k→base≤k∧k<w.heap.size:=World.ownsRow.lt h
theorem OwnB.kept {w w':World} {base:Nat} {e:TypeId} {v:Value} {l:List UInt8} {row:Option Nat} (h:OwnB w base e v l) (hg:w.grownBy w' row) (hne:v.ownBlock=none∨v.ownBlock≠row):OwnB w' base e v l:=World.ownsRow.kept h hg hne
theorem OwnB.below {w w':World} {base:Nat} {e:TypeId} {v:Value} {l:List UInt8} (h:OwnB w base e v l) (hb:Below w.heap.size w w'):OwnB w' base e v l:=
 h.kept (row:=none) ⟨hb.os,hb.tape,hb.output,hb.size,fun k hk _=>hb.block k hk⟩ (by
  cases hv:v.ownBlock with
  | none=>exact .inl rfl
  | some k=>exact .inr (by simp))
theorem OwnB.form {w:World} {base:Nat} {e:TypeId} {v:Value} {l:List UInt8} (h:OwnB w base e v l):(v = .slice none 0 0∧l=[]) ∨ ∃ g cap,v = .slice (some ⟨g,0,none⟩) l.length cap∧base≤g∧g<w.heap.size∧l.length≤cap:=by
 rcases h.2 with ⟨h1,h2⟩ | ⟨g,cap,cur,h1,h2,h3,h4,_⟩
 ·exact .inl ⟨h1,List.eq_nil_of_length_eq_zero h2⟩
 ·refine .inr ⟨g,cap,h1,h2,?_,h4⟩
  rcases Nat.lt_or_ge g w.heap.size with hlt | hge
  ·exact hlt
  ·rw [Array.getElem?_eq_none hge] at h3;cases h3
theorem OwnB.cell {w:World} {base:Nat} {e:TypeId} {A:Option Addr} {n cap:Nat} {l:List UInt8} (h:OwnB w base e (.slice A n cap) l) {j:Nat} (hj:j<l.length) :
 ∃ g,A=some ⟨g,0,none⟩∧n=l.length∧g<w.heap.size∧w.cell? ⟨g,j,none⟩=some (.int .u8 (l[j]'hj).toNat):=by
 rcases h.form with ⟨_,rfl⟩ | ⟨g,cap',hv,_,hg,_⟩
 ·simp at hj
 ·injection hv with h1 h2 h3
  subst h1 h2 h3
  refine ⟨g,rfl,rfl,hg,?_⟩
  have:=World.ownsRow.cellAt (h:w.ownsRow base e 1 _ _ _) j (by simpa using hj)
  rw [this,List.getElem?_map,List.getElem?_eq_getElem hj]
  rfl
theorem OwnB.one {w:World} {base:Nat} {e:TypeId} (hb:base≤w.heap.size) (c:UInt8):OwnB (w.alloc (.cells #[u8v c] e)) base e (.slice (some ⟨w.heap.size,0,none⟩) 1 1) [c]:=
 World.ownsRow_lit (size:=1) w #[u8v c] 1 hb (by simp [maxLen]) rfl
theorem zDi (n:Nat) (h:n<256):(UInt8.ofNat n).toNat=n:=by
 simp [Nat.mod_eq_of_lt h]
theorem ofNat_add_u8 (a b:Nat):UInt8.ofNat (a+b)=UInt8.ofNat a+UInt8.ofNat b:=by simp
theorem u8v_ofNat (n:Nat) (h:n<256):u8v (UInt8.ofNat n) = .int .u8 n:=by rw [u8v,zDi n h]
section
variable {P:Program}
end
def Blk (w:World) (g:Nat) (t:TypeId) (cs:Array Value):Prop:=w.heap[g]?=some (.cells cs t (0,0))
section
variable {w w':World} {g:Nat} {t:TypeId} {cs:Array Value}
theorem Blk.lt (h:Blk w g t cs):g<w.heap.size:=by
 rcases Nat.lt_or_ge g w.heap.size with hlt | hge
 ·exact hlt
 ·unfold Blk at h;rw [Array.getElem?_eq_none hge] at h;cases h
theorem Blk.cell (h:Blk w g t cs) (i:Nat):w.cell? ⟨g,i,none⟩=cs[i]?:=cell_of_row w g i cs t (0,0) h
theorem Blk.frozen (h:Blk w g t cs) (i:Nat):w.frozen? ⟨g,i,none⟩=false:=by
 unfold Blk at h
 simp [World.frozen?,h]
theorem Blk.new (w:World) (t:TypeId) (cs:Array Value):Blk (w.alloc (.cells cs t)) w.heap.size t cs:=heap_alloc_new w _
theorem Blk.drew (h:Blk w g t cs):Blk w.drew g t cs:=h
theorem Blk.drewN (h:Blk w g t cs) (n:Nat):Blk (w.drewN n) g t cs:=h
theorem Blk.alloc (h:Blk w g t cs) (o:Obj):Blk (w.alloc o) g t cs:=(Below.heap_alloc w o g h.lt).trans h
theorem Blk.set_ (h:Blk w g t cs) (i:Nat) (u:Value):Blk (w.setCell ⟨g,i,none⟩ u) g t (cs.setIfInBounds i u):=by
 unfold Blk at h ⊢
 simp [World.setCell,Array.getElem?_modify,h]
theorem Blk.far (h:Blk w g t cs) {p:Addr} (hp:g≠p.block) (u:Value):Blk (w.setCell p u) g t cs:=(Below.heap_setCell w p u g hp).trans h
theorem Blk.below {B0:Nat} (h:Blk w g t cs) (hb:Below B0 w w') (hg:g<B0):Blk w' g t cs:=(hb.block g hg).trans h
theorem Blk.grown {row:Option Nat} (h:Blk w g t cs) (hb:w.grownBy w' row) (hg:some g≠row):Blk w' g t cs:=(hb.block g h.lt hg).trans h
theorem Blk.ne_ {g':Nat} {t':TypeId} {cs':Array Value} (h:Blk w g t cs) (h':Blk w g' t' cs') (hne:t≠t'):g≠g':=by
 rintro rfl
 unfold Blk at h h'
 rw [h] at h'
 injection h' with h'
 injection h' with _ ht
 exact hne ht
theorem zAs {base:Nat} {e:TypeId} {size n:Nat} {v:Value} {xs:List Value} (h:w.ownsRow base e size v n xs) (hg:Blk w g t cs) (hne:e≠t):some g≠v.ownBlock:=by
 rcases h.2 with ⟨rfl,_⟩ | ⟨g',cap,cur,rfl,_,hh,_⟩
 ·simp [Value.ownBlock]
 ·intro he
  have:g'=g:=by simpa [Value.ownBlock] using he.symm
  subst this
  exact Blk.ne_ (t:=e) hh hg hne rfl
end
theorem bdrewN {B0:Nat} {a w:World} (h:Below B0 a w) (n:Nat):Below B0 a (w.drewN n):=⟨h.os,h.tape,h.output,h.size,h.block⟩
theorem bthen {a b c:World} {B0:Nat} (h:Below B0 a b) (hB:B0≤b.heap.size) (k:Below b.heap.size b c):Below B0 a c:=h.trans (k.mono hB)
theorem Tryz.str_of_one (w:World) (x:Int):(convert 23 9 (.slice (some ⟨w.heap.size,0,none⟩) 1 1)).run Tryz.prog (w.alloc (.cells #[.int .u8 x] 5)) =
 .ok (.string (B [UInt8.ofNat x.toNat])) (w.alloc (.cells #[.int .u8 x] 5)):=by
 rw [run_convert_bytes_arg _ 23 5 Tryz.underlying23 Tryz.underlying5 w.heap.size 0 1 1 [x] rfl (fun i hi=>by
  have:i=0:=by omega
  subst this
  rw [World.cell?_alloc_new];rfl) 9 Tryz.underlying9]
 rfl
theorem Tryz.str_of_oneAt (w:World) (k:Nat) (x:Int) (h:k=w.heap.size):(convert 23 9 (.slice (some ⟨k,0,none⟩) 1 1)).run Tryz.prog (w.alloc (.cells #[.int .u8 x] 5)) =
 .ok (.string (B [UInt8.ofNat x.toNat])) (w.alloc (.cells #[.int .u8 x] 5)):=by
 subst h
 exact Tryz.str_of_one w x
end
end Go.Proofs.YtbhdfaadedlcfaaGreatDoor
namespace Go.Proofs.YtbhdfaadedlcfaaGreatDoor
open Go.RowKit Go.WideShapes Go.ChangeShapes Go.ChangeAt
section
variable {H:Type} {enc:TypeId×Value→H} {P:Program}
theorem post_of_below {f:Func} {s:ChangeSpec} {apart fresh handsOn again:Bool} {W W':World} {args:Array Value} {v:Value} {ds gs:List (DataW H)} {before pa pv:List MemPlace}
 (hW:DataW.Whole enc P f.params.toList s.vars apart W args.toList ds gs before)
 (hres : ∀ (b:Nat) (sp:Nat→Bool) (hd:Bool),DataW.TrodAll enc P W' b sp hd f.resultTypes.toList (v.resultList f.resultTypes.size) (s.fn H (ds++gs)).results [])
 (hargs : ∀ sp:Nat→Bool,(∀ p∈before,sp p.block=true)→DataW.TrodAll enc P W' 0 sp true f.params.toList args.toList (s.fn H (ds++gs)).args pa)
 (hvars : ∀ sp:Nat→Bool,(∀ p∈before,sp p.block=true)→DataW.TrodVars enc P W' sp s.vars (s.fn H (ds++gs)).vars pv)
 (hps:before=pa++pv) (hb:Below W.heap.size W W')
 (hok : ∀ (j:Nat) (t:TypeId) (r:Value),f.resultTypes[j]?=some t→(v.resultList f.resultTypes.size)[j]?=some r→Value.okWide P W' .any 0 t r) :
 s.post enc P f apart fresh handsOn again W args v W':=by
 have hlt : ∀ p∈before,p.block<W.heap.size:=fun p hp=>hW.lt p hp
 have hold : ∀ p∈before,(fun b=>decide (b<W.heap.size)) p.block=true:=fun p hp=>by simpa using hlt p hp
 refine ⟨ds,gs,before,[],pa,pv,hW,hres _ _ _,hargs _ hold,hvars _ hold,World.keptBut_mono (fun p hp=>⟨hp,?_⟩) (hb.frame (· ∈ before)),fun _=>?_⟩
 ·rw [hps,List.mem_append] at hp
  exact Or.inr hp
 ·obtain ⟨_,_,_,_,_,hz,hn⟩:=hW
  refine ⟨hok,_,_,([]++pa)++pv,⟨[]++pa,pv,trodAll_append (hargs _ (fun _ _=>rfl)) (hres _ _ _),hvars _ (fun _ _=>rfl),rfl,?_,?_⟩,?_⟩
  ·intro b off hp
   have hin:MemPlace.cell b off∈before:=by rw [hps];simpa using hp
   rw [hb.frozen (hlt _ hin)]
   exact hz b off hin
  ·intro ha
   have:=hn ha
   rw [hps] at this
   simpa using this
  ·intro p hp _
   rw [hps]
   simpa using hp
end
section
variable {H:Type} {enc:TypeId×Value→H} {P:Program}
theorem zDU (hl:laidOutB P=true) {W W':World} {sp':Nat→Bool} (hb:Below W.heap.size W W') :
 ∀ (ts:List TypeId) (vs:List Value) (ds:List (DataW H)) (ps:List MemPlace),(ts.all fun t=>P.readableRec t&&decide (t<P.types.size))=true →
  DataW.TrodAll enc P W 0 (fun _=>true) true ts vs ds ps→(∀ p∈ps,p.block<W.heap.size)→(∀ p∈ps,sp' p.block=true)→DataW.TrodAll enc P W' 0 sp' true ts vs ds ps
 | [],[],[],_,_,h,_,_=>h
 | t::ts,v::vs,d::ds,ps,hr,h,hlt,hs=>by
   obtain ⟨p,q,h1,h2,rfl⟩:=h
   simp only [List.all_cons,Bool.and_eq_true,decide_eq_true_eq] at hr
   exact ⟨p,q,WideElems.Trod_stays hl hr.1.1 hr.1.2 h1 (fun x hx=>hb.same (hlt x (List.mem_append_left _ hx))) (fun x hx=>hs x (List.mem_append_left _ hx)),
    zDU hl hb ts vs ds q hr.2 h2 (fun x hx=>hlt x (List.mem_append_right _ hx)) (fun x hx=>hs x (List.mem_append_right _ hx)),rfl⟩
 | [],[],_::_,_,_,h,_,_=>h
 | [],_::_,[],_,_,h,_,_=>h
 | [],_::_,_::_,_,_,h,_,_=>h
 | _::_,[],[],_,_,h,_,_=>h
 | _::_,[],_::_,_,_,h,_,_=>h
 | _::_,_::_,[],_,_,h,_,_=>h
theorem post_law {f:Func} {s:ChangeSpec} {T:TypeId} {apart fresh handsOn again:Bool} {W W':World} {args:Array Value} {ds:List (DataW H)} {before:List MemPlace}
 (hl:laidOutB P=true) (hR:(f.params.toList.all fun t=>P.readableRec t&&decide (t<P.types.size))=true) (hres:f.resultTypes = #[T]) (hT:P.underlying T=some .bool) (hvars:s.vars=[])
 (hfn:(s.fn H (ds++[])).results=[.lit (.bool true)]∧(s.fn H (ds++[])).args=ds∧(s.fn H (ds++[])).vars=[]) (hW:DataW.Whole enc P f.params.toList s.vars apart W args.toList ds [] before) (hb:Below W.heap.size W W') :
 s.post enc P f apart fresh handsOn again W args (.bool true) W':=by
 have hW':=hW
 obtain ⟨p,q,hA,hV,hpq,hfz,hnd⟩:=hW
 rw [hvars] at hV
 have hq:q=[]:=hV
 subst hq
 rw [List.append_nil] at hpq
 subst hpq
 have hlt : ∀ x∈before,x.block<W.heap.size:=fun x hx=>hW'.lt x hx
 refine post_of_below (pa:=before) (pv:=[]) hW' ?_ ?_ ?_ (by simp) hb ?_
 ·intro b sp hd
  rw [hfn.1,hres]
  exact trodAll_mk1 (shut_bool hT _)
 ·intro sp hsp
  rw [hfn.2.1]
  exact zDU hl hb _ _ _ _ hR hA hlt hsp
 ·intro sp hsp
  rw [hfn.2.2,hvars]
  rfl
 ·exact ok_one hres rfl (okWide_bool_mk hT _)
end
section
variable {H:Type} {enc:TypeId×Value→H} {P:Program} {w:World} {base:Nat} {spare:Nat→Bool} {held:Bool}
end
theorem addr_form {w:World} {a:Addr} {v:Value} (h:w.cell? a=some v):a=⟨a.block,a.off,none⟩∧a.block<w.heap.size:=by
 refine ⟨?_,World.block_lt_of_cell? w a h⟩
 obtain ⟨b,o,s⟩:=a
 cases s with
 | none=>rfl
 | some k=>
   unfold World.cell? at h
   simp only [Option.isSome_some,if_true] at h
   split at h<;>cases h
theorem addr_add (b o k:Nat):(⟨b,o,none⟩:Addr).add k=⟨b,o+k,none⟩:=by
 unfold Addr.add
 split<;>simp_all
theorem list_of {α:Type} (n:Nat) (p:Nat→α→Prop) (h : ∀ i,i<n → ∃ x,p i x) : ∃ l:List α,l.length=n ∧ ∀ (i:Nat) (hi:i<l.length),p i l[i]:=by
 induction n with
 | zero=>exact ⟨[],rfl,fun i hi=>absurd hi (by simp)⟩
 | succ n ih=>
   obtain ⟨l,h1,h2⟩:=ih fun i hi=>h i (by omega)
   obtain ⟨x,hx⟩:=h n (by omega)
   refine ⟨l++[x],by simp [h1],fun i hi=>?_⟩
   rcases Nat.lt_or_ge i l.length with hl | hl
   ·rw [List.getElem_append_left hl];exact h2 i hl
   ·have hi':i<l.length+1:=by simpa using hi
    obtain rfl:i=l.length:=by omega
    rw [List.getElem_concat_length]
    ·rw [h1];exact hx
    ·rfl
theorem bounds_u8 {n:Int} (h:(Lit.int .u8 n).wf=true):0≤n∧n<256:=by
 simp [Lit.wf,IntKind.min,IntKind.max,IntKind.signed,IntKind.bits] at h;omega
theorem bounds_u16 {n:Int} (h:(Lit.int .u16 n).wf=true):0≤n∧n<65536:=by
 simp [Lit.wf,IntKind.min,IntKind.max,IntKind.signed,IntKind.bits] at h;omega
theorem Tryz.laidOut : laidOutB Tryz.prog=true:=by kernel_rfl
theorem Tryz.own : ownKnob Tryz.prog.godebug=none:=by kernel_rfl
end Go.Proofs.YtbhdfaadedlcfaaGreatDoor
namespace Go.Proofs.YtbhdfaadedlcfaaGreatDoor
open Go.RowKit
def putF : Nat→Nat→List UInt8
 | 0,n=>[UInt8.ofNat n]
 | f+1,n=>if n<128 then [UInt8.ofNat n] else UInt8.ofNat (128+n%128)::putF f (n / 128)
def put (n:Nat):List UInt8:=putF 9 n
theorem zEp (f n:Nat) (h:n<128):putF f n=[UInt8.ofNat n]:=by cases f<;>simp [putF,h]
theorem putF_big (f n:Nat) (h:128≤n):putF (f+1) n=UInt8.ofNat (128+n%128)::putF f (n / 128):=by rw [putF,if_neg (by omega)]
theorem putF_length (f n:Nat):(putF f n).length≤f+1:=by
 induction f generalizing n with
 | zero=>simp [putF]
 | succ f ih=>
   rw [putF]
   split
   ·simp
   ·simp only [List.length_cons];have:=ih (n / 128);omega
theorem zAQ (n:Nat):(put n).length≤10:=putF_length 9 n
theorem putF_pos (f n:Nat):0<(putF f n).length:=by
 cases f with
 | zero=>simp [putF]
 | succ f=>rw [putF];split<;>simp
def Fits (f k:Nat):Prop:=k<2 ^ (7*f+1)
theorem Fits.of64 {n:Nat} (h:n≤18446744073709551615):Fits 9 n:=by unfold Fits;omega
theorem Fits.le {f n:Nat} (h:Fits f n) (hf:f≤9):n≤18446744073709551615:=by
 have h1:n<2 ^ (7*f+1):=h
 have h2:2 ^ (7*f+1)≤2 ^ 64:=Nat.pow_le_pow_right (by omega) (by omega)
 omega
theorem Fits.zero {k:Nat} (h:Fits 0 k):k<128:=by unfold Fits at h;omega
theorem Fits.next {f k:Nat} (h:Fits (f+1) k):Fits f (k / 128):=by
 unfold Fits at h ⊢
 rw [show 7*(f+1)+1=(7*f+1)+7 from by omega,Nat.pow_add] at h
 exact Nat.div_lt_of_lt_mul (by rw [Nat.mul_comm];exact h)
theorem Fits.pos {f k:Nat} (h:Fits f k) (hk:128≤k) : ∃ g,f=g+1:=by
 cases f with
 | zero=>have:=h.zero;omega
 | succ g=>exact ⟨g,rfl⟩
def lead : List UInt8→Nat
 | []=>0
 | c::r=>if 128≤c.toNat then lead r+1 else 0
def val7 : List UInt8→Nat
 | []=>0
 | c::r=>c.toNat%128+128*val7 r
def get (l:List UInt8):Option (Nat×Nat):=
 if lead l<l.length∧lead l<10 ∧ ¬ (lead l=9∧1<(l.getD 9 0).toNat) ∧ ¬ (0<lead l∧l.getD (lead l) 0=0) then some (val7 (l.take (lead l+1)),lead l+1) else none
theorem lead_big : ∀ (l:List UInt8) (i:Nat) (h:i<l.length),i<lead l→128≤(l[i]).toNat
 | [],i,h,_=>by simp at h
 | c::r,0,_,hi=>by
   rw [lead] at hi
   split at hi
   ·simpa
   ·omega
 | c::r,i+1,h,hi=>by
   rw [lead] at hi
   split at hi
   ·have:=lead_big r i (by simpa using h) (by omega)
    simpa
   ·omega
theorem zEu : ∀ (l:List UInt8) (h:lead l<l.length),(l[lead l]).toNat<128
 | [],h=>by simp at h
 | c::r,h=>by
   by_cases hc:128≤c.toNat
   ·have e:lead (c::r)=lead r+1:=by rw [lead,if_pos hc]
    have:=zEu r (by rw [e] at h;simpa using h)
    simp only [e,List.getElem_cons_succ]
    exact this
   ·have e:lead (c::r)=0:=by rw [lead,if_neg hc]
    simp only [e,List.getElem_cons_zero]
    omega
theorem lead_next {l:List UInt8} {e:Nat} (he:e≤lead l) (h:e<l.length) (hc:128≤(l[e]).toNat):e+1≤lead l:=by
 rcases Nat.lt_or_ge e (lead l) with hlt | hge
 ·exact hlt
 ·have:e=lead l:=by omega
  subst this
  have:=zEu l h
  omega
theorem zDu {l:List UInt8} {e:Nat} (he:e≤lead l) (h:e<l.length) (hc:(l[e]).toNat<128):lead l=e:=by
 rcases Nat.lt_or_ge e (lead l) with hlt | hge
 ·have:=lead_big l e h hlt
  omega
 ·omega
theorem val7_append (a b:List UInt8):val7 (a++b)=val7 a+128 ^ a.length*val7 b:=by
 induction a with
 | nil=>simp [val7]
 | cons c r ih=>
   simp only [List.cons_append,val7,ih,List.length_cons,Nat.pow_succ]
   rw [Nat.mul_add,Nat.mul_comm (128 ^ r.length) 128,Nat.mul_assoc]
   omega
theorem zDj (l:List UInt8) (i:Nat) (h:i<l.length):val7 (l.take (i+1))=val7 (l.take i)+128 ^ i*((l[i]).toNat%128):=by
 rw [List.take_succ_eq_append_getElem h,val7_append,List.length_take,Nat.min_eq_left (by omega)]
 simp [val7]
theorem val7_drop (l:List UInt8) (i:Nat) (h:i<l.length):val7 (l.drop i)=(l[i]).toNat%128+128*val7 (l.drop (i+1)):=by
 rw [List.drop_eq_getElem_cons h,val7]
theorem val7_lt (l:List UInt8):val7 l<128 ^ l.length:=by
 induction l with
 | nil=>simp [val7]
 | cons c r ih=>
   simp only [val7,List.length_cons,Nat.pow_succ]
   omega
theorem val7_drop_le (l:List UInt8) (i:Nat):val7 (l.drop i)≤val7 l:=by
 induction i generalizing l with
 | zero=>simp
 | succ i ih=>
   cases l with
   | nil=>simp
   | cons c r=>
     simp only [List.drop_succ_cons,val7]
     have:=ih r
     omega
theorem getD_lt {l:List UInt8} {i:Nat} (h:i<l.length):l.getD i 0=l[i]:=by simp [List.getD,List.getElem?_eq_getElem h]
theorem get_end {l:List UInt8} (h:l.length≤lead l):get l=none:=by
 rw [get,if_neg];omega
theorem get_ten {l:List UInt8} (h:10≤lead l):get l=none:=by
 rw [get,if_neg];omega
theorem get_nine {l:List UInt8} (h9:9<l.length) (h:lead l=9) (hc:1<(l[9]).toNat):get l=none:=by
 rw [get,if_neg]
 intro hh
 refine hh.2.2.1 ⟨h,?_⟩
 rw [getD_lt h9]
 exact hc
theorem get_zero {l:List UInt8} {e:Nat} (he:e<l.length) (h:lead l=e) (h0:0<e) (hc:(l[e]).toNat=0):get l=none:=by
 rw [get,if_neg]
 subst h
 intro hh
 refine hh.2.2.2 ⟨h0,?_⟩
 rw [getD_lt he]
 exact UInt8.toNat_inj.1 (by simpa using hc)
theorem get_yes {l:List UInt8} {e:Nat} (he:e<l.length) (h:lead l=e) (ht:e<10) (h9:e=9→(l[e]).toNat≤1) (h0:0<e→(l[e]).toNat≠0):get l=some (val7 (l.take (e+1)),e+1):=by
 subst h
 rw [get,if_pos]
 refine ⟨he,ht,?_,?_⟩
 ·rintro ⟨h1,h2⟩
  rw [getD_lt (by omega)] at h2
  have:=h9 h1
  simp only [h1] at this
  omega
 ·rintro ⟨h1,h2⟩
  rw [getD_lt he] at h2
  exact h0 h1 (by rw [h2];rfl)
theorem get_fits {l:List UInt8} {e:Nat} (he:e<l.length) (h:lead l=e) (ht:e<10) (h9:e=9→(l[e]).toNat≤1):val7 (l.take (e+1))≤18446744073709551615:=by
 rcases Nat.lt_or_ge e 9 with h8 | h8
 ·have h1:=val7_lt (l.take (e+1))
  have h2:128 ^ (l.take (e+1)).length≤128 ^ 9:=Nat.pow_le_pow_right (by omega) (by rw [List.length_take];omega)
  omega
 ·obtain rfl:e=9:=by omega
  rw [zDj l 9 he]
  have h1:=val7_lt (l.take 9)
  have h2:128 ^ (l.take 9).length≤128 ^ 9:=Nat.pow_le_pow_right (by omega) (by rw [List.length_take];omega)
  have h3:=h9 rfl
  have h4:(l[9]).toNat%128≤1:=by omega
  have h5:128 ^ 9*((l[9]).toNat%128)≤128 ^ 9*1:=Nat.mul_le_mul_left _ h4
  omega
theorem get_seq {l:List UInt8} {e:Nat} (he:e<l.length) (h:lead l=e) (ht:e<10) (h9:e=9→(l[e]).toNat≤1) (h0:0<e→(l[e]).toNat≠0) :
 ∃ V:Nat→Nat,get l=some (V 0,e+1)∧V (e+1)=0∧(∀ m (hm:m<l.length),m≤e→V m=(l[m]).toNat%128+128*V (m+1)) ∧ ∀ m,V m≤18446744073709551615:=by
 have hlt:(l.take (e+1)).length=e+1:=by rw [List.length_take];omega
 refine ⟨fun m=>val7 ((l.take (e+1)).drop m),by simpa using get_yes he h ht h9 h0,?_,?_,?_⟩
 ·simp only
  rw [List.drop_of_length_le (by omega)]
  rfl
 ·intro m hm hme
  simp only
  rw [val7_drop _ m (by omega)]
  simp
 ·intro m
  exact Nat.le_trans (val7_drop_le _ m) (get_fits he h ht h9)
end Go.Proofs.YtbhdfaadedlcfaaGreatDoor
namespace Go.Proofs.YtbhdfaadedlcfaaGreatDoor
abbrev Txt := List UInt8
end Go.Proofs.YtbhdfaadedlcfaaGreatDoor
namespace Go.Proofs.YtbhdfaadedlcfaaGreatDoor
open Go.RowKit
section
theorem zCn {l:List UInt8} {n k:Nat} (h:get l=some (n,k)):n≤18446744073709551615∧0<k∧k≤l.length:=by
 unfold get at h
 split at h
 ·rename_i hc
  simp only [Option.some.injEq,Prod.mk.injEq] at h
  obtain ⟨rfl,rfl⟩:=h
  refine ⟨get_fits hc.1 rfl hc.2.1 ?_,by omega,by omega⟩
  intro h9
  have:=hc.2.2.1
  have h1 : ¬ 1<(l.getD 9 0).toNat:=fun hh=>this ⟨h9,hh⟩
  rw [←h9,getD_lt hc.1] at h1
  omega
 ·cases h
def rd (l:List UInt8) (hv:Nat):Option (Nat×Nat×List UInt8):=
 match get l with
 | none=>none
 | some (n,k)=>
   if n%2=0 then (if n=0∨(l.drop k).length<n / 2 then none else some (n / 2,0,l.drop k))
   else match get (l.drop k) with
    | none=>none
    | some (f,m)=>if n / 2<4∨f<1∨65535<f∨hv<f then none else some (n / 2,f,(l.drop k).drop m)
section
variable {l:List UInt8} {hv n k f m:Nat}
theorem rd_far (h:get l=some (n,k)) (h2:n%2=1) (h3:get (l.drop k)=some (f,m)) (h4:4≤n / 2) (h5:1≤f) (h6:f≤65535) (h7:f≤hv):rd l hv=some (n / 2,f,(l.drop k).drop m):=by
 simp only [rd,h,h3];rw [if_neg (by omega),if_neg (by omega)]
end
def back : Nat→Nat→List UInt8→List UInt8
 | 0,_,out=>out
 | n+1,f,out=>back n f (out++[out.getD (out.length-f) 0])
theorem back_length (n f:Nat) (out:List UInt8):(back n f out).length=out.length+n:=by
 induction n generalizing out with
 | zero=>rfl
 | succ n ih=>rw [back,ih,List.length_append,List.length_singleton];omega
def unF : Nat→List UInt8→List UInt8→Nat→List UInt8×Nat
 | 0,_,out,_=>(out,0)
 | fu+1,s,out,most=>
   if s=[] then (out,0) else
   match rd s out.length with
   | none=>([],2)
   | some (n,f,r)=>if most-out.length<n then ([],3) else if f=0 then unF fu (r.drop n) (out++r.take n) most else unF fu r (back n f out) most
theorem unF_nil (fu:Nat) (out:List UInt8) (most:Nat):unF fu [] out most=(out,0):=by cases fu<;>simp [unF]
section
variable {fu most n f:Nat} {s out r:List UInt8}
theorem unF_bad (hs:s≠[]) (h:rd s out.length=none):unF (fu+1) s out most=([],2):=by
 rw [unF,if_neg hs];simp only [h]
theorem unF_big (hs:s≠[]) (h:rd s out.length=some (n,f,r)) (hb:most-out.length<n):unF (fu+1) s out most=([],3):=by
 rw [unF,if_neg hs];simp only [h];rw [if_pos hb]
theorem unF_plain (hs:s≠[]) (h:rd s out.length=some (n,0,r)) (hb:n≤most-out.length):unF (fu+1) s out most=unF fu (r.drop n) (out++r.take n) most:=by
 rw [unF,if_neg hs];simp only [h];rw [if_neg (by omega),if_pos trivial]
theorem unF_far (hs:s≠[]) (h:rd s out.length=some (n,f,r)) (hf:f≠0) (hb:n≤most-out.length):unF (fu+1) s out most=unF fu r (back n f out) most:=by
 rw [unF,if_neg hs];simp only [h];rw [if_neg (by omega),if_neg hf]
end
theorem rd_bounds {l:List UInt8} {hv n f:Nat} {r:List UInt8} (h:rd l hv=some (n,f,r)):n≤9223372036854775807∧r.length<l.length∧0<n∧f≤65535∧(f=0→n≤r.length)∧(f≠0→f≤hv):=by
 unfold rd at h
 split at h
 ·cases h
 ·rename_i n0 k hg
  obtain ⟨h1,h2,h3⟩:=zCn hg
  have hd:(l.drop k).length=l.length-k:=List.length_drop
  split at h
  ·split at h
   ·cases h
   ·simp only [Option.some.injEq,Prod.mk.injEq] at h
    obtain ⟨rfl,rfl,rfl⟩:=h
    exact ⟨by omega,by omega,by omega,by omega,fun _=>by omega,fun h=>by omega⟩
  ·split at h
   ·cases h
   ·rename_i f0 m hg2
    obtain ⟨h4,h5,h6⟩:=zCn hg2
    have hd2:((l.drop k).drop m).length=(l.drop k).length-m:=List.length_drop
    split at h
    ·cases h
    ·simp only [Option.some.injEq,Prod.mk.injEq] at h
     obtain ⟨rfl,rfl,rfl⟩:=h
     exact ⟨by omega,by omega,by omega,by omega,fun h=>by omega,fun _=>by omega⟩
section
variable {c:UInt8} {r:List UInt8} {most:Int}
end
end
def textE (s:Txt):Txt:=put s.length++s
def takeP (s:Txt):Option (Txt×Txt):=match get s with | none=>none | some (n,k)=>if n≤(s.drop k).length then some ((s.drop k).take n,(s.drop k).drop n) else none
theorem takeP_none {s:Txt} (h:get s=none):takeP s=none:=by unfold takeP;rw [h]
theorem takeP_short {s:Txt} {n k:Nat} (h:get s=some (n,k)) (hl:(s.drop k).length<n):takeP s=none:=by unfold takeP;rw [h];simp only;rw [if_neg (by omega)]
theorem takeP_yes {s:Txt} {n k:Nat} (h:get s=some (n,k)) (hl:n≤(s.drop k).length):takeP s=some ((s.drop k).take n,(s.drop k).drop n):=by unfold takeP;rw [h];simp only;rw [if_pos hl]
def getN (s:Txt):Nat×Nat:=(get s).getD (0,0)
def takeN (s:Txt):Txt×Nat:=if (getN s).2=0∨s.length-(getN s).2<(getN s).1 then ([],0) else ((s.drop (getN s).2).take (getN s).1,(getN s).2+(getN s).1)
theorem takeN_zero {s:Txt} (h:(getN s).2=0):takeN s=([],0):=by unfold takeN;rw [if_pos (.inl h)]
theorem takeN_short {s:Txt} (_ : ¬ (getN s).2=0) (h2:s.length-(getN s).2<(getN s).1):takeN s=([],0):=by unfold takeN;rw [if_pos (.inr h2)]
theorem takeN_yes {s:Txt} (h : ¬ (getN s).2=0) (h2:(getN s).1≤s.length-(getN s).2):takeN s=((s.drop (getN s).2).take (getN s).1,(getN s).2+(getN s).1):=by
 unfold takeN
 rw [if_neg]
 rintro (h3 | h3)
 ·exact h h3
 ·omega
theorem getN_le (s:Txt):(getN s).2≤s.length:=by
 unfold getN
 cases h:get s with
 | none=>simp
 | some p=>obtain ⟨n,k⟩:=p;exact (zCn h).2.2
theorem getN_num (s:Txt):(getN s).1≤18446744073709551615:=by
 unfold getN
 cases h:get s with
 | none=>simp
 | some p=>obtain ⟨n,k⟩:=p;exact (zCn h).1
structure EntL where
 name:Txt
 kind:Int
 id:Txt
structure ObjL where
 kind:Int
 data:Txt
 ents:List EntL
 tree:Txt
 pars:List Txt
 time:Nat
 text:Txt
 target:Txt
 of_:Int
 name:Txt
structure LinkL where
 id:Txt
 kind:Int
def noId : Txt:=List.replicate 32 0
def nameB (s:Txt):Bool:=decide (1≤s.length)&&decide (s.length≤40)&&s.all (fun c => !(c==0) && !(c==47))
def kindB (n:Int):Bool:=decide (1≤n)&&decide (n≤4)
def entB (e:EntL):Bool:=nameB e.name&&(e.kind==1||e.kind==2)
def entAt (l:List EntL) (i:Nat):Bool:=match l[i]? with | none=>true | some e=>entB e&&(match i with | 0=>true | k+1=>match l[k]? with | none=>true | some p=>Op.bytesLess p.name e.name)
def entsB (l:List EntL):Bool:=(List.range l.length).all (entAt l)&&decide (l.length≤64)
def blobN (o:ObjL):Bool:=o.data.isEmpty
def treeN (o:ObjL):Bool:=o.ents.length==0
def commitN (o:ObjL):Bool:=decide (o.tree=noId)&&o.pars.length==0&&o.time==0&&o.text.isEmpty
def tagN (o:ObjL):Bool:=decide (o.target=noId)&&o.of_==0&&o.name.isEmpty
def aloneB (o:ObjL):Bool:=if o.kind=1 then treeN o&&commitN o&&tagN o else if o.kind=2 then blobN o&&commitN o&&tagN o else if o.kind=3 then blobN o&&treeN o&&tagN o else blobN o&&treeN o&&commitN o
def mayB (o:ObjL):Bool:=if o.kind=2 then aloneB o&&entsB o.ents else if o.kind=3 then aloneB o&&decide (o.pars.length≤8) else if o.kind=4 then aloneB o&&kindB o.of_&&nameB o.name else o.kind==1&&aloneB o
def byteK (n:Int):UInt8:=UInt8.ofNat (n%256).toNat
def entE (e:EntL):Txt:=byteK e.kind::(textE e.name++e.id)
def entsE (l:List EntL):Txt:=(l.map entE).flatten
def commitE (o:ObjL):Txt:=o.tree++put o.pars.length++o.pars.flatten++put o.time++textE o.text
def tagE (o:ObjL):Txt:=byteK o.of_::(o.target++textE o.name)
def bodyO (o:ObjL):Txt:=if o.kind=1 then o.data else if o.kind=2 then entsE o.ents else if o.kind=3 then commitE o else if o.kind=4 then tagE o else []
def bodyR (o:ObjL):Txt:=o.data++entsE o.ents++(if o.kind=3 then commitE o else if o.kind=4 then tagE o else [])
def wholeO (o:ObjL):Txt:=byteK o.kind::textE (bodyO o)
def encO (o:ObjL):Option Txt:=if mayB o=true∧(wholeO o).length≤4096 then some (wholeO o) else none
theorem zCE {o:ObjL} (h:mayB o=true):o.kind=1∨o.kind=2∨o.kind=3∨o.kind=4:=by
 unfold mayB at h
 split at h
 ·exact .inr (.inl ‹_›)
 ·split at h
  ·exact .inr (.inr (.inl ‹_›))
  ·split at h
   ·exact .inr (.inr (.inr ‹_›))
   ·simp at h;exact .inl h.1
theorem zCN {o:ObjL} (h:mayB o=true):aloneB o=true:=by
 unfold mayB at h
 split at h
 ·simp at h;exact h.1
 ·split at h
  ·simp at h;exact h.1
  ·split at h
   ·simp at h;exact h.1.1
   ·simp at h;exact h.2
theorem zBN {o:ObjL} (h:blobN o=true):o.data=[]:=by unfold blobN at h;exact List.isEmpty_iff.1 h
theorem zBm {o:ObjL} (h:treeN o=true):o.ents=[]:=by unfold treeN at h;simpa using h
theorem commit_nil {o:ObjL} (h:commitN o=true):o.text=[]:=by unfold commitN at h;simp at h;exact h.2
theorem entsE_nil : entsE []=[]:=rfl
theorem body_same {o:ObjL} (h:mayB o=true):bodyR o=bodyO o:=by
 have ha:=zCN h
 unfold aloneB at ha
 unfold bodyR bodyO
 rcases zCE h with hk | hk | hk | hk
 ·rw [hk] at ha ⊢
  simp at ha
  rw [zBm ha.1.1]
  simp [entsE_nil]
 ·rw [hk] at ha ⊢
  simp at ha
  rw [zBN ha.1.1]
  simp
 ·rw [hk] at ha ⊢
  simp at ha
  rw [zBN ha.1.1,zBm ha.1.2]
  simp [entsE_nil]
 ·rw [hk] at ha ⊢
  simp at ha
  rw [zBN ha.1.1,zBm ha.1.2]
  simp [entsE_nil]
theorem enc_data {o:ObjL} (h:4096<o.data.length):encO o=none:=by
 unfold encO
 rw [if_neg]
 rintro ⟨hm,hl⟩
 have hb:=body_same hm
 have hw:(wholeO o).length≥(bodyO o).length:=by unfold wholeO textE;simp;omega
 have:o.data.length≤(bodyR o).length:=by unfold bodyR;simp only [List.length_append];omega
 rw [hb] at this
 omega
theorem enc_text {o:ObjL} (h:4096<o.text.length):encO o=none:=by
 unfold encO
 rw [if_neg]
 rintro ⟨hm,hl⟩
 have hw:(wholeO o).length≥(bodyO o).length:=by unfold wholeO textE;simp;omega
 have ha:=zCN hm
 unfold aloneB at ha
 have hn:commitN o=true→False:=fun hc=>by rw [commit_nil hc] at h;simp at h
 rcases zCE hm with hk | hk | hk | hk
 ·rw [hk] at ha;simp at ha;exact hn ha.1.2
 ·rw [hk] at ha;simp at ha;exact hn ha.1.2
 ·have:o.text.length≤(bodyO o).length:=by unfold bodyO;rw [hk];simp [commitE,textE];omega
  omega
 ·rw [hk] at ha;simp at ha;exact hn ha.2
def linksL (o:ObjL):List LinkL:=if o.kind=2 then o.ents.map (fun e=>⟨e.id,e.kind⟩) else if o.kind=3 then ⟨o.tree,2⟩::o.pars.map (fun p=>⟨p,3⟩) else if o.kind=4 then [⟨o.target,o.of_⟩] else []
theorem entsE_snoc (l:List EntL) (e:EntL):entsE (l++[e])=entsE l++entE e:=by simp [entsE]
theorem take_snoc {α:Type} {l:List α} {k:Nat} {x:α} (h:l[k]?=some x):l.take (k+1)=l.take k++[x]:=by rw [List.take_add_one,h];rfl
theorem entsE_take {l:List EntL} {k:Nat} {e:EntL} (h:l[k]?=some e):entsE (l.take (k+1))=entsE (l.take k)++entE e:=by rw [take_snoc h,entsE_snoc]
theorem flat_take {l:List Txt} {k:Nat} {x:Txt} (h:l[k]?=some x):(l.take (k+1)).flatten=(l.take k).flatten++x:=by rw [take_snoc h];simp
theorem zC8 {s:Txt} (h:nameB s=true):s.length≤40:=by unfold nameB at h;simp at h;exact h.1.2
theorem zDF {l:List EntL} (h:entsB l=true):l.length≤64 ∧ ∀ e∈l,nameB e.name=true∧(e.kind=1∨e.kind=2):=by
 unfold entsB at h
 rw [Bool.and_eq_true,List.all_eq_true] at h
 refine ⟨of_decide_eq_true h.2,fun e he=>?_⟩
 obtain ⟨i,hi,rfl⟩:=List.getElem_of_mem he
 have h1:=h.1 i (by simpa using hi)
 unfold entAt at h1
 rw [List.getElem?_eq_getElem hi] at h1
 simp only [Bool.and_eq_true] at h1
 have h2:=h1.1
 unfold entB at h2
 simp at h2
 exact h2
theorem flat_len {l:List Txt} (h : ∀ x∈l,x.length=32):l.flatten.length=32*l.length:=by
 induction l with
 | nil=>rfl
 | cons x l ih=>
   have h1:=h x (by simp)
   have h2:=ih fun x hx=>h x (by simp [hx])
   simp only [List.flatten_cons,List.length_append,List.length_cons]
   omega
section
def u8s (l:List UInt8):Array Value:=(l.map u8v).toArray
theorem zAj (l:List UInt8):(u8s l).size=l.length:=by simp [u8s]
theorem u8s_get (l:List UInt8) (i:Nat) (h:i<l.length):(u8s l)[i]?=some (.int .u8 ((l.getD i 0).toNat:Nat)):=by
 simp [u8s,u8v,List.getD,List.getElem?_eq_getElem h]
theorem u8s_set (l:List UInt8) (i n:Nat) (h:n<256):(u8s l).setIfInBounds i (.int .u8 (n:Nat))=u8s (l.set i n.toUInt8):=by
 apply Array.ext'
 simp only [u8s,Array.toList_setIfInBounds,List.map_set]
 rw [show u8v n.toUInt8 = .int .u8 (n:Nat) from u8v_ofNat n h]
theorem u8s_one (l:List UInt8):(u8s l).all (·.oneCell')=true:=
 Array.all_eq_true_iff_forall_mem.2 fun v hv=>u8v_one l v (by simpa [u8s] using hv)
theorem sz32 : (Tryz.prog.info? 46).map (·.size)=some 32:=by kernel_rfl
theorem zAa {B g:Nat} {a w:World} (h:Below B a w) (hB:B≤g) (cs:Array Value):Below B a (w.setRow g cs):=
 h.trans ⟨rfl,rfl,rfl,by simp,fun k hk=>setRow_other _ _ _ _ (by omega)⟩
theorem zA4 (w:World) (o:Obj):(w.alloc o).heap.size=w.heap.size+1:=by simp
section
variable {P:Program}
theorem zDG (w:World) {e:TypeId} (he:P.plainKey e=true) (l:List UInt8) (i:Nat) (h:i<l.length):(part e (u8s l) i).run P w = .ok (u8v (l.getD i 0)) w:=
 run_part_plain w he (by rw [u8s_get l i h];rfl)
theorem zCs (w:World) (d:Nat) {e:TypeId} (he:P.plainKey e=true) (hu:P.underlying e=some (.int .u8)) (hc:P.cellsOf e=1) (a b:List UInt8) :
 ∀ is:List Nat,(∀ i∈is,i<a.length∧i<b.length)→(Op.eqItems (d+1) e (P.cellsOf e) (u8s a) (u8s b) is).run P w = .ok (decide (∀ i∈is,a.getD i 0=b.getD i 0)) w
 | [],_=>by simp [Op.eqItems]
 | i::is,h=>by
   obtain ⟨ha,hb⟩:=h i (by simp)
   have ih:=zCs w d he hu hc a b is (fun j hj=>h j (by simp [hj]))
   simp only [Op.eqItems,Sem.run_bind,hc,Nat.mul_one,zDG w he a i ha,zDG w he b i hb,Result.andThen_ok]
   rw [u8v,u8v,run_equalIn_int w d e .u8 .u8 _ _ hu]
   simp only [Result.andThen_ok]
   have e1:(((a.getD i 0).toNat:Int)==((b.getD i 0).toNat:Int))=decide (a.getD i 0=b.getD i 0):=by
    rw [Bool.eq_iff_iff]
    simp only [beq_iff_eq,decide_eq_true_eq]
    exact ⟨fun h=>UInt8.toNat_inj.1 (by omega),fun h=>by rw [h]⟩
   rw [e1]
   by_cases hi:a.getD i 0=b.getD i 0
   ·simp only [hi,decide_true,Bool.not_true,Bool.false_eq_true,if_false]
    rw [hc] at ih
    rw [ih]
    simp only [List.forall_mem_cons,hi,true_and]
   ·simp only [List.forall_mem_cons,hi,false_and,decide_false,Bool.not_false,if_true,Sem.run_pure]
theorem zBC (w:World) (d:Nat) {t e:TypeId} {n:Nat} (ht:P.underlying t=some (.array n e)) (he:P.plainKey e=true) (hu:P.underlying e=some (.int .u8)) (hc:P.cellsOf e=1) (hi : ∃ i,P.info? e=some i)
 (a b:List UInt8) (ha:a.length=n) (hb:b.length=n):(Op.equalIn (d+2) t (.agg (u8s a)) (.agg (u8s b))).run P w = .ok (decide (a=b)) w:=by
 obtain ⟨i,hi⟩:=hi
 rw [run_equalIn_array w (d+1) _ _ ht hi,zCs w d he hu hc a b _ (fun j hj=>by rw [List.mem_range] at hj;omega)]
 congr 1
 rw [Bool.eq_iff_iff]
 simp only [decide_eq_true_eq,List.mem_range]
 constructor
 ·intro h
  apply List.ext_getElem (by omega)
  intro j h1 h2
  have:=h j (by omega)
  simpa [List.getD,List.getElem?_eq_getElem h1,List.getElem?_eq_getElem h2] using this
 ·intro h j _
  rw [h]
end
theorem zBD (w:World) (a b:List UInt8) (ha:a.length=32) (hb:b.length=32) :
 (binOp .eql 46 (.agg (u8s a)) (.agg (u8s b))).run Tryz.prog w = .ok (.bool (decide (a=b))) w:=by
 rw [run_eql_struct,zBC w 9998 Tryz.underlying46 (by kernel_rfl) Tryz.underlying5 (by kernel_rfl) (Option.isSome_iff_exists.1 (by kernel_rfl)) a b ha hb]
 rfl
theorem zC3 (w:World) (a b:List UInt8) (ha:a.length=32) (hb:b.length=32) :
 (binOp .neq 46 (.agg (u8s a)) (.agg (u8s b))).run Tryz.prog w = .ok (.bool (!decide (a=b))) w:=by
 rw [run_neq_struct,zBC w 9998 Tryz.underlying46 (by kernel_rfl) Tryz.underlying5 (by kernel_rfl) (Option.isSome_iff_exists.1 (by kernel_rfl)) a b ha hb]
 rfl
def RowOf (w:World) (g:Nat):Array Value:=match w.heap[g]? with | some (.cells cs _ _)=>cs | _ => #[]
def HasRow (w:World) (g:Nat) (t:TypeId) (n:Nat):Prop := ∃ cs,cs.size=n∧Blk w g t cs
theorem zB4 {w:World} {g:Nat} {t:TypeId} {cs:Array Value} (h:Blk w g t cs):RowOf w g=cs:=by
 unfold Blk at h
 simp [RowOf,h]
theorem zCt {w:World} {g:Nat} {t:TypeId} {cs:Array Value} {n:Nat} (h:Blk w g t cs) (hn:cs.size=n):HasRow w g t n:=⟨cs,hn,h⟩
def ldvI (p:Addr):Sem Value:=loadVar 46 p
def stvI (p:Addr) (v:Value):Sem Unit:=storeVar 46 p v
theorem ldvI_eq (p:Addr):loadVar 46 p=ldvI p:=rfl
theorem stvI_eq (p:Addr) (v:Value):storeVar 46 p v=stvI p v:=rfl
section
variable {P:Program}
theorem zBk {W:World} {ops:Array Oper} {rest:List Oper} {o:Oper} {a:Act} {Q:Exit→Act→World→Prop} (hgd:o.guard=none) (ty:TypeId) (x y:Operand) (ho:o.op = .store ty x y)
 (cells zs:Array Value) (hx:a.eval x = .pointer (some ⟨W.heap.size,0,none⟩)) (hy:a.eval y = .agg cells) (hi:(P.info? ty).map (·.size)=some cells.size) (hold:zs.size=cells.size) (h1:cells.all (·.oneCell')=true)
 (h : ∀ W1,Blk W1 W.heap.size ty cells→Below W.heap.size W W1→wpList P ops Q rest (a.put o.dst undef) W1):wpList P ops Q (o::rest) a (W.alloc (.cells zs ty)):=
 wpList_store_row hgd ty x y ho W.heap.size cells hx hy ty zs (Blk.new W ty zs) hi hold h1
  (h _ (setRow_heap _ _ _ _ _ _ (Blk.new W ty zs)) (zAa ((Below.refl _ _).alloc (Nat.le_refl _) _) (Nat.le_refl _) _))
end
theorem zDV {W:World} {ops:Array Oper} {rest:List Oper} {o:Oper} {a:Act} {Q:Exit→Act→World→Prop} (hgd:o.guard=none) (x y:Operand) (ho:o.op = .store 46 x y)
 (u:List UInt8) (lu:u.length=32) (zs:Array Value) (hx:a.eval x = .pointer (some ⟨W.heap.size,0,none⟩)) (hy:a.eval y = .agg (u8s u)) (hz:zs.size=32)
 (h : ∀ W1,Blk W1 W.heap.size 46 (u8s u)→Below W.heap.size W W1→wpList Tryz.prog ops Q rest (a.put o.dst undef) W1):wpList Tryz.prog ops Q (o::rest) a (W.alloc (.cells zs 46)):=
 zBk hgd _ x y ho (u8s u) zs hx hy (by rw [zAj,lu];exact sz32) (by rw [zAj,lu];exact hz) (u8s_one u) h
end
theorem zD2 : (#[.int .u8 0, .int .u8 0, .int .u8 0, .int .u8 0, .int .u8 0, .int .u8 0, .int .u8 0, .int .u8 0, .int .u8 0, .int .u8 0, .int .u8 0, .int .u8 0, .int .u8 0, .int .u8 0, .int .u8 0, .int .u8 0, .int .u8 0, .int .u8 0, .int .u8 0, .int .u8 0, .int .u8 0, .int .u8 0, .int .u8 0, .int .u8 0, .int .u8 0, .int .u8 0, .int .u8 0, .int .u8 0, .int .u8 0, .int .u8 0, .int .u8 0, .int .u8 0]:Array Value)=u8s (List.replicate 32 0):=by kernel_rfl
theorem zAN (l:List UInt8) (hl:l.length=32) (w:World) :
 (Op.equalIn 10000 46 (.agg (u8s l)) (.agg #[.int .u8 0, .int .u8 0, .int .u8 0, .int .u8 0, .int .u8 0, .int .u8 0, .int .u8 0, .int .u8 0, .int .u8 0, .int .u8 0, .int .u8 0, .int .u8 0, .int .u8 0, .int .u8 0, .int .u8 0, .int .u8 0, .int .u8 0, .int .u8 0, .int .u8 0, .int .u8 0, .int .u8 0, .int .u8 0, .int .u8 0, .int .u8 0, .int .u8 0, .int .u8 0, .int .u8 0, .int .u8 0, .int .u8 0, .int .u8 0, .int .u8 0, .int .u8 0])).run Tryz.prog w = .ok (decide (l=List.replicate 32 0)) w:=by
 rw [zD2]
 exact zBC w 9998 Tryz.underlying46 (by kernel_rfl) Tryz.underlying5 (by kernel_rfl) (Option.isSome_iff_exists.1 (by kernel_rfl)) l (List.replicate 32 0) hl (by simp)
section
section
variable {P:Program} {ops:Array Oper} {C:World→Prop} {Q:Act→Prop} {a:Act} {o:Oper} {rest:List Oper}
theorem wpQuiet_go {v:Value} (hw:Region.wanted o (yielded ops a.tmps)=true) (hv : ∀ w,C w→Oper.quietUpon P C w v ((execOp a.eval o).run P w)) (h:wpQuiet P ops C Q rest (a.put o.dst v)):wpQuiet P ops C Q (o::rest) a:=by
 unfold wpQuiet
 rw [if_pos hw]
 exact ⟨v,hv,h⟩
theorem zAl (hw:Region.wanted o (yielded ops a.tmps)=true) (h : ∃ v,(∀ w,C w→Oper.quietUpon P C w v ((execOp a.eval o).run P w))∧wpQuiet P ops C Q rest (a.put o.dst v)):wpQuiet P ops C Q (o::rest) a:=by
 obtain ⟨v,h1,h2⟩:=h
 exact wpQuiet_go hw h1 h2
theorem zAh (hw:Region.wanted o (yielded ops a.tmps)=false) (h:wpQuiet P ops C Q rest (a.put o.dst undef)):wpQuiet P ops C Q (o::rest) a:=by
 unfold wpQuiet
 rw [if_neg (by rw [hw];simp)]
 exact h
theorem zAy {w:World} {v:Value} (ty:TypeId) (x:Operand) (ho:o.op = .load ty x) (b i:Nat) (hx:a.eval x = .pointer (some ⟨b,i,none⟩)) (cs:List Value) (d:TypeDesc) (hc:w.rangeAt b i cs)
 (hu:P.underlying ty=some d) (hd:d.isRow=true) (hi:(P.info? ty).map (·.size)=some cs.length) (hv:v = .agg cs.toArray):Oper.quietUpon P C w v ((execOp a.eval o).run P w):=by
 subst hv
 unfold execOp
 simp only [ho,hx,Instr.loadAt,Instr.sureAddr,Sem.run_bind,Sem.run_pure,Result.andThen_ok,run_loadVar_mid w b i ty cs d hc hu hd hi]
 exact ⟨rfl,rfl⟩
end
theorem zAd {P:Program} {C:World→Prop} {id:Nat} {Q:Exit→Act→World→Prop} {a:Act} {w:World} {l:List Oper} (hm:P.follows .mixedOrders=true) (hB:Region.lexB .any l.toArray=true) (hC:C { w with drawn:=w.drawn+1 })
 (h:wpQuiet P l.toArray C (fun a' => ∀ w',C w'→Q .normal a' w') l a):(Code.region id l.toArray true).wp P Q a w:=
 wp_region_quiet (C:=C) hm hB hC (by simpa using h)
theorem zAi {w:World} {g:Nat} {t:TypeId} {cs:Array Value} (h:Blk w g t cs):World.rangeAt w g 0 cs.toList:=fun j v hv=>by
 rw [Nat.zero_add,h.cell]
 simpa using hv
end
section
section
variable {P:Program}
theorem own_form {w:World} {base:Nat} {e:TypeId} {size n:Nat} {v:Value} {xs:List Value} (h:w.ownsRow base e size v n xs) :
 (v = .slice none 0 0∧n=0∧xs=[]) ∨ ∃ g cap,v = .slice (some ⟨g,0,none⟩) n cap∧base≤g∧g<w.heap.size∧n≤cap:=by
 have hx:=h.1
 rcases h.2 with ⟨h1,h2⟩ | ⟨g,cap,cur,h1,h2,h3,h4,_⟩
 ·subst h2;exact .inl ⟨h1,rfl,List.eq_nil_of_length_eq_zero (by simpa using hx)⟩
 ·refine .inr ⟨g,cap,h1,h2,?_,h4⟩
  rcases Nat.lt_or_ge g w.heap.size with hlt | hge
  ·exact hlt
  ·rw [Array.getElem?_eq_none hge] at h3;cases h3
theorem zAm {w:World} {base:Nat} {e:TypeId} {size n:Nat} {v:Value} {xs:List Value} (h:w.ownsRow base e size v n xs) : ∃ A cap,v = .slice A n cap:=by
 rcases own_form h with ⟨rfl,rfl,_⟩ | ⟨g,cap,rfl,_⟩
 ·exact ⟨_,_,rfl⟩
 ·exact ⟨_,_,rfl⟩
theorem zAw {w:World} {base base' n size:Nat} {e:TypeId} {v:Value} {xs:List Value} (h:w.ownsRow base e size v n xs) (hb:base'≤base):w.ownsRow base' e size v n xs:=by
 refine ⟨h.1,?_⟩
 rcases h.2 with h1 | ⟨g,cap,cur,h1,h2,h3⟩
 ·exact .inl h1
 ·exact .inr ⟨g,cap,cur,h1,Nat.le_trans hb h2,h3⟩
theorem zAf {w w':World} {base:Nat} {e:TypeId} {size n:Nat} {v:Value} {xs:List Value} (h:w.ownsRow base e size v n xs) (hb:Below w.heap.size w w'):w'.ownsRow base e size v n xs:=
 World.ownsRow.kept h (row:=none) ⟨hb.os,hb.tape,hb.output,hb.size,fun k hk _=>hb.block k hk⟩ (by
  cases hv:v.ownBlock with
  | none=>exact .inl rfl
  | some k=>exact .inr (by simp))
theorem zBX {w:World} {k:Nat} {t:TypeId} {cs:Array Value} (h:Blk w k t cs) : ∀ j u,cs.toList[j]?=some u→w.cell? ((⟨k,0,none⟩:Addr).add j)=some u:=World.news_of_block h
theorem wp_append_blk {w:World} {o:Oper} {a:Act} {K:Act→World→Prop} {Q:Exit→Act→World→Prop} (s x:Operand) (t:TypeId)
 (ho:o.op = .call { callee := .builtin .append,args := #[s,x],argTypes := #[t,t] })
 (e:TypeId) (z:Value) (size bytes:Nat) (hT:SliceTy P t e z size bytes) (base:Nat) (v:Value) (n:Nat) (xs:List Value) (hs:a.eval s=v) (hown:w.ownsRow base e size v n xs)
 (k m c:Nat) (t':TypeId) (cs:Array Value) (hx:a.eval x = .slice (some ⟨k,0,none⟩) m c) (hcs:Blk w k t' cs) (hl:cs.size=m*size) (h1 : ∀ u∈cs.toList,u.oneCell'=true)
 (h63:n+m≤9223372036854775807) (hbytes:(n+m)*bytes≤140737488355328) (w0:World) (hb:Below base w0 w) (hbase:base≤w.heap.size)
 (h : ∀ v' w',w'.ownsRow base e size v' (n+m) (xs++cs.toList)→Below base w0 w'→w.grownBy w' v.ownBlock→K (a.put o.dst v') w'):o.wp P a w K Q:=by
 obtain ⟨i,i1,i2,i3,i4⟩:=hT.hi
 refine wp_append_own w s x t ho base e i z size bytes hT.ht i1 i2 i3 i4 hT.hzs hT.hsz v n xs hs hown ⟨k,0,none⟩ m c cs.toList hx (by simpa using hl) (zBX hcs) h1 h63 hbytes hbase ?_
 intro v' w' hown' hg _
 exact h v' w' hown' (hb.grown hg hbase (fun k hk=>(World.ownsRow.lt hown k hk).1)) hg
end
end
section
section
variable {α:Type}
def SliceAt (w:World) (k:Nat) (enc:α→List Value) (v:Value) (l:List α):Prop:=
 ∃ A cap,v = .slice A l.length cap∧l.length≤cap∧cap≤9223372036854775807 ∧
  (0<l.length → ∃ g o,A=some ⟨g,o,none⟩∧g<w.heap.size ∧ ∀ i x,l[i]?=some x→w.rangeAt g (o+i*k) (enc x))
variable {w w':World} {k:Nat} {enc:α→List Value} {v:Value} {l:List α}
theorem SliceAt.below (h:SliceAt w k enc v l) (hb:Below w.heap.size w w'):SliceAt w' k enc v l:=by
 obtain ⟨A,cap,h1,h2,h3,h4⟩:=h
 refine ⟨A,cap,h1,h2,h3,fun h0=>?_⟩
 obtain ⟨g,o,e,hg,hc⟩:=h4 h0
 exact ⟨g,o,e,Nat.lt_of_lt_of_le hg hb.size,fun i x hx j u hu=>(hb.cell (p:=⟨g,o+i*k+j,none⟩) hg).trans (hc i x hx j u hu)⟩
theorem SliceAt.len (h:SliceAt w k enc v l):l.length≤9223372036854775807:=by
 obtain ⟨A,cap,h1,h2,h3,h4⟩:=h
 omega
theorem SliceAt.nil : SliceAt w k enc (.slice none 0 0) ([]:List α):=⟨none,0,rfl,by simp,by omega,fun h=>absurd h (by simp)⟩
theorem SliceAt.at_ (h:SliceAt w k enc v l) {i:Nat} (hi:i<l.length) :
 ∃ g o cap,v = .slice (some ⟨g,o,none⟩) l.length cap∧g<w.heap.size∧w.rangeAt g (o+i*k) (enc l[i]):=by
 obtain ⟨A,cap,h1,h2,h3,h4⟩:=h
 obtain ⟨g,o,rfl,hg,hc⟩:=h4 (by omega)
 exact ⟨g,o,cap,h1,hg,hc i _ (List.getElem?_eq_getElem hi)⟩
theorem zAc {g o:Nat} {cs:List Value} (h:w.rangeAt g o cs) (hg:g<w.heap.size) (hb:Below w.heap.size w w'):w'.rangeAt g o cs:=
 fun j u hu=>(hb.cell (p:=⟨g,o+j,none⟩) hg).trans (h j u hu)
def rowsOf (enc:α→List Value) (l:List α):List Value:=l.flatMap enc
theorem zAn (hk : ∀ x∈l,(enc x).length=k):(rowsOf enc l).length=l.length*k:=by
 induction l with
 | nil=>simp [rowsOf]
 | cons x l ih=>
   have:=ih (fun y hy=>hk y (by simp [hy]))
   simp only [rowsOf,List.flatMap_cons,List.length_append,List.length_cons] at *
   rw [this,hk x (by simp),Nat.succ_mul]
   omega
theorem zAo (a b:List α):rowsOf enc (a++b)=rowsOf enc a++rowsOf enc b:=by simp [rowsOf]
theorem zAx (x:α):rowsOf enc [x]=enc x:=by simp [rowsOf]
theorem zBQ (hk : ∀ x∈l,(enc x).length=k) {i:Nat} {x:α} (hx:l[i]?=some x) {j:Nat} {u:Value} (hu:(enc x)[j]?=some u):(rowsOf enc l)[i*k+j]?=some u:=by
 induction l generalizing i with
 | nil=>simp at hx
 | cons y l ih=>
   have hy:=hk y (by simp)
   have hj:j<k:=by
    have:=(List.getElem?_eq_some_iff.1 hu).1
    rw [hk x (List.mem_of_getElem? hx)] at this
    exact this
   cases i with
   | zero=>
     simp only [List.getElem?_cons_zero,Option.some.injEq] at hx
     subst hx
     rw [Nat.zero_mul,Nat.zero_add]
     simp only [rowsOf,List.flatMap_cons]
     rw [List.getElem?_append_left (by omega)]
     exact hu
   | succ i=>
     simp only [List.getElem?_cons_succ] at hx
     have:=ih (fun z hz=>hk z (by simp [hz])) hx
     simp only [rowsOf,List.flatMap_cons] at *
     rw [List.getElem?_append_right (by rw [hy,Nat.succ_mul];omega),hy,show (i+1)*k+j-k=i*k+j from by rw [Nat.succ_mul];omega]
     exact this
theorem SliceAt.of_own {base:Nat} {e:TypeId} (hk : ∀ x∈l,(enc x).length=k) (h:w.ownsRow base e k v l.length (rowsOf enc l)):SliceAt w k enc v l:=by
 rcases own_form h with ⟨rfl,h0,_⟩ | ⟨g,cap,rfl,h1,h2,h3⟩
 ·obtain rfl:=List.eq_nil_of_length_eq_zero h0
  exact SliceAt.nil
 ·have hcap:cap≤9223372036854775807:=by
   rcases h.2 with ⟨hv,_⟩ | ⟨g',cap',cur,hv,_,_,_,hm,_⟩
   ·cases hv
   ·injection hv with _ _ hv
    subst hv
    simpa [maxLen] using hm
  refine ⟨_,cap,rfl,h3,hcap,fun _=>⟨g,0,rfl,h2,fun i x hx j u hu=>?_⟩⟩
  have hrow:=zBQ hk hx hu
  have hlt:i*k+j<(rowsOf enc l).length:=(List.getElem?_eq_some_iff.1 hrow).1
  rw [zAn hk] at hlt
  have hc:=World.ownsRow.cellAt h (i*k+j) hlt
  rw [Nat.zero_add]
  rw [hrow] at hc
  exact hc
end
end
section
section
variable {P:Program} {w w':World} {g:Nat} {e:TypeId}
theorem Blk.setCells : ∀ (vs:List Value) (o:Nat) (w:World) (cur:Array Value),Blk w g e cur → ∃ cur',Blk (w.setCells g o vs) g e cur'∧cur'.size=cur.size
 | [],_,_,cur,h=>⟨cur,h,rfl⟩
 | v::r,o,w,cur,h=>by
   obtain ⟨cur',h1,h2⟩:=Blk.setCells r (o+1) _ _ (h.set_ o v)
   exact ⟨cur',h1,by rw [h2,Array.size_setIfInBounds]⟩
theorem Blk.setCells_far {g':Nat} (hne:g'≠g) : ∀ (vs:List Value) (o:Nat) (w:World) {cur:Array Value},Blk w g' e cur→Blk (w.setCells g o vs) g' e cur
 | [],_,_,_,h=>h
 | v::r,o,w,_,h=>Blk.setCells_far hne r (o+1) _ (h.far (p:=⟨g,o,none⟩) hne v)
theorem zAF : ∀ (vs:List Value) (o:Nat) (w0 w:World) {base:Nat},Below base w0 w→base≤g→Below base w0 (w.setCells g o vs)
 | [],_,_,_,_,h,_=>h
 | v::r,o,w0,w,base,h,hg=>zAF r (o+1) w0 _ (h.setCell (p:=⟨g,o,none⟩) hg v) hg
theorem zDL : ∀ (vs:List Value) (o:Nat) (w:World),(w.setCells g o vs).heap.size=w.heap.size
 | [],_,_=>rfl
 | v::r,o,w=>by rw [World.setCells,zDL r];exact World.size_setCell _ _ _
end
section
variable {α:Type} {P:Program} {w w':World} {g:Nat} {e:TypeId} {k:Nat} {enc:α→List Value} {cap:Nat} {s t:List α}
structure Row (w:World) (g:Nat) (e:TypeId) (k:Nat) (enc:α→List Value) (cap:Nat) (s:List α):Prop where
 blk : ∃ cur,Blk w g e cur∧cur.size=cap*k
 at_ : ∀ i x,s[i]?=some x→w.rangeAt g (i*k) (enc x)
 le:s.length≤cap
 top:cap≤maxLen
theorem Row.lt (h:Row w g e k enc cap s):g<w.heap.size:=by obtain ⟨cur,hb,_⟩:=h.blk;exact hb.lt
theorem Row.drew (h:Row w g e k enc cap s):Row w.drew g e k enc cap s:=⟨h.blk,h.at_,h.le,h.top⟩
theorem Row.below (h:Row w g e k enc cap s) (hb:Below w.heap.size w w'):Row w' g e k enc cap s:=by
 have hlt:=h.lt
 obtain ⟨cur,hc,hs⟩:=h.blk
 exact ⟨⟨cur,hc.below hb hlt,hs⟩,fun i x hx=>zAc (h.at_ i x hx) hlt hb,h.le,h.top⟩
theorem Row.alloc (h:Row w g e k enc cap s) (o:Obj):Row (w.alloc o) g e k enc cap s:=h.below ((Below.refl _ _).alloc (Nat.le_refl _) _)
theorem Row.cut (h:Row w g e k enc cap s) (n:Nat):Row w g e k enc cap (s.take n):=
 ⟨h.blk,fun i x hx=>h.at_ i x (by rw [List.getElem?_take] at hx;split at hx;exact hx;cases hx),by have:=h.le;simp;omega,h.top⟩
theorem Row.there (h:Row w g e k enc cap s) {o n:Nat} (hn:o+n≤cap*k):w.there g o n:=by
 obtain ⟨cur,hc,hs⟩:=h.blk
 intro j hj
 refine ⟨?_,hc.frozen _⟩
 rw [hc.cell,Array.getElem?_eq_getElem (by omega)]
 rfl
theorem Row.top63 (h:Row w g e k enc cap s):cap≤9223372036854775807:=by have:=h.top;simpa [maxLen] using this
theorem Row.slice (h:Row w g e k enc cap s):SliceAt w k enc (.slice (some ⟨g,0,none⟩) s.length cap) s:=
 ⟨_,cap,rfl,h.le,h.top63,fun _=>⟨g,0,rfl,h.lt,fun i x hx=>by rw [Nat.zero_add];exact h.at_ i x hx⟩⟩
theorem Row.put (hk : ∀ x∈s,(enc x).length=k) (hkt : ∀ x∈t,(enc x).length=k) (h:Row w g e k enc cap s) {i:Nat} (hi:i≤s.length) (ht:i+t.length≤cap) :
 Row (w.setCells g (i*k) (rowsOf enc t)) g e k enc cap (s.take i++t++s.drop (i+t.length)):=by
 have hlen:=zAn hkt
 obtain ⟨cur,hc,hs⟩:=h.blk
 obtain ⟨cur',hc',hs'⟩:=hc.setCells (rowsOf enc t) (i*k)
 have hroom:i*k+(rowsOf enc t).length≤cap*k:=by
  rw [hlen,←Nat.add_mul]
  exact Nat.mul_le_mul_right _ ht
 have hth:w.there g (i*k) (rowsOf enc t).length:=h.there hroom
 refine ⟨⟨cur',hc',hs'.trans hs⟩,fun j x hx=>?_,?_,h.top⟩
 ·by_cases h1:j<i
  ·have hx':s[j]?=some x:=by
    rw [List.append_assoc,List.getElem?_append_left (by simp;omega),List.getElem?_take,if_pos h1] at hx
    exact hx
   refine World.rangeAt_setCells_apart (h.at_ j x hx') _ _ _ (.inr (.inl ?_))
   rw [hk x (List.mem_of_getElem? hx'),←Nat.succ_mul]
   exact Nat.mul_le_mul_right _ h1
  ·by_cases h2:j<i+t.length
   ·have hx':t[j-i]?=some x:=by
     rw [List.append_assoc,List.getElem?_append_right (by simp;omega),List.getElem?_append_left (by simp;omega)] at hx
     simpa [List.length_take,Nat.min_eq_left hi] using hx
    intro q u hu
    have hq:=zBQ hkt hx' hu
    have:=World.rangeAt_setCells_same w g (i*k) (rowsOf enc t) hth _ u hq
    have e1:i*k+((j-i)*k+q)=j*k+q:=by
     rw [←Nat.add_assoc,←Nat.add_mul,show i+(j-i)=j from by omega]
    rwa [e1] at this
   ·have hx':s[j]?=some x:=by
     rw [List.getElem?_append_right (by simp;omega),List.getElem?_drop] at hx
     rw [←hx]
     congr 1
     simp
     omega
    refine World.rangeAt_setCells_apart (h.at_ j x hx') _ _ _ (.inr (.inr ?_))
    rw [hlen,←Nat.add_mul]
    exact Nat.mul_le_mul_right _ (by omega)
 ·have:=h.le
  simp
  omega
theorem Row.set (hk : ∀ x∈s,(enc x).length=k) (h:Row w g e k enc cap s) {i:Nat} (hi:i<s.length) {x:α} (hx:(enc x).length=k):Row (w.setCells g (i*k) (enc x)) g e k enc cap (s.set i x):=by
 have:=h.put hk (t:=[x]) (fun y hy=>by simp at hy;subst hy;exact hx) (i:=i) (by omega) (by have:=h.le;simp;omega)
 rw [zAx] at this
 rw [List.set_eq_take_append_cons_drop,if_pos hi]
 simpa using this
theorem Row.shed (hk : ∀ x∈s,(enc x).length=k) (h:Row w g e k enc cap s) (i:Nat) (zs:List Value):Row (w.setCells g (i*k) zs) g e k enc cap (s.take i):=by
 obtain ⟨cur,hc,hs⟩:=h.blk
 obtain ⟨cur',hc',hs'⟩:=hc.setCells zs (i*k)
 refine ⟨⟨cur',hc',hs'.trans hs⟩,fun j x hx=>?_,?_,h.top⟩
 ·rw [List.getElem?_take] at hx
  split at hx
  ·rename_i h1
   refine World.rangeAt_setCells_apart (h.at_ j x hx) _ _ _ (.inr (.inl ?_))
   rw [hk x (List.mem_of_getElem? hx),←Nat.succ_mul]
   exact Nat.mul_le_mul_right _ h1
  ·cases hx
 ·have:=h.le
  simp
  omega
theorem take_of_ranges (hk : ∀ x∈s,(enc x).length=k) {c:List Value} (hc:s.length*k≤c.length) (h : ∀ i x,s[i]?=some x → ∀ j u,(enc x)[j]?=some u→c[i*k+j]?=some u):c.take (s.length*k)=rowsOf enc s:=by
 induction s generalizing c with
 | nil=>simp [rowsOf]
 | cons x s ih=>
   have hx:=hk x (by simp)
   have h1:c.take k=enc x:=by
    refine List.ext_getElem? fun j=>?_
    rw [List.getElem?_take]
    split
    ·rename_i hj
     have:=h 0 x (by simp) j (enc x)[j] (List.getElem?_eq_getElem (by omega))
     rw [Nat.zero_mul,Nat.zero_add] at this
     rw [this,List.getElem?_eq_getElem (by omega)]
    ·rw [List.getElem?_eq_none (by omega)]
   have h2:=ih (fun y hy=>hk y (by simp [hy])) (c:=c.drop k) (by simp only [List.length_cons,Nat.succ_mul] at hc;rw [List.length_drop];omega) (fun i y hy j u hu=>by
    rw [List.getElem?_drop]
    have:=h (i+1) y (by simpa using hy) j u hu
    rw [←this]
    congr 1
    rw [Nat.succ_mul]
    omega)
   simp only [List.length_cons,Nat.succ_mul,rowsOf,List.flatMap_cons] at *
   rw [Nat.add_comm,List.take_add,h1,h2]
theorem Row.own (hk : ∀ x∈s,(enc x).length=k) (h:Row w g e k enc cap s) {base:Nat} (hg:base≤g):w.ownsRow base e k (.slice (some ⟨g,0,none⟩) s.length cap) s.length (rowsOf enc s):=by
 obtain ⟨cur,hc,hs⟩:=h.blk
 have hle:s.length*k≤cap*k:=Nat.mul_le_mul_right _ h.le
 refine ⟨zAn hk, .inr ⟨g,cap,cur,rfl,hg,hc,h.le,h.top,hs,take_of_ranges hk (by simpa [hs] using hle) fun i x hx j u hu=>?_⟩⟩
 have:=h.at_ i x hx j u hu
 rw [hc.cell] at this
 rw [Array.getElem?_toList]
 exact this
theorem Row.of_own {base:Nat} {v:Value} (hk : ∀ x∈s,(enc x).length=k) (h:w.ownsRow base e k v s.length (rowsOf enc s)) :
 (v = .slice none 0 0∧s=[]) ∨ ∃ g cap,v = .slice (some ⟨g,0,none⟩) s.length cap∧base≤g∧Row w g e k enc cap s:=by
 rcases h.2 with ⟨h1,h2⟩ | ⟨g,cap,cur,h1,h2,h3,h4,h5,h6,h7⟩
 ·exact .inl ⟨h1,List.eq_nil_of_length_eq_zero h2⟩
 ·refine .inr ⟨g,cap,h1,h2,⟨cur,h3,h6⟩,fun i x hx j u hu=>?_,h4,h5⟩
  have hrow:=zBQ hk hx hu
  have hb:Blk w g e cur:=h3
  rw [hb.cell,←Array.getElem?_toList]
  rw [←h7,List.getElem?_take] at hrow
  split at hrow
  ·exact hrow
  ·cases hrow
theorem Row.of_new (hk : ∀ x∈s,(enc x).length=k) (w:World) (zs:Array Value) (hs:s.length*k+zs.size=cap*k) (hle:s.length≤cap) (htop:cap≤maxLen) :
 Row (w.alloc (.cells ((rowsOf enc s).toArray++zs) e)) w.heap.size e k enc cap s:=by
 have hb:=Blk.new w e ((rowsOf enc s).toArray++zs)
 refine ⟨⟨_,hb,by rw [Array.size_append,List.size_toArray,zAn hk];exact hs⟩,fun i x hx j u hu=>?_,hle,htop⟩
 have hrow:=zBQ hk hx hu
 have hlt:i*k+j<(rowsOf enc s).length:=(List.getElem?_eq_some_iff.1 hrow).1
 rw [hb.cell,Array.getElem?_append_left (by simpa using hlt)]
 simpa using hrow
theorem zAH (w:World) (dT sT ty elem:TypeId) (b o dLen dCap:Nat) (a:Addr) (sLen sCap n:Nat) (cs:List Value)
 (hu:P.underlying dT=some (.slice elem)) (hs:(P.info? elem).map (·.size)=some k) (hn:n=Nat.min sLen dLen) (hl:cs.length=n*k)
 (hsrc : ∀ j v,cs[j]?=some v→w.cell? (a.add j)=some v) (ht:w.there b o cs.length) (h1 : ∀ v∈cs,v.oneCell'=true) :
 (Builtin.copy_ #[dT,sT] ty #[.slice (some ⟨b,o,none⟩) dLen dCap, .slice (some a) sLen sCap]).run P w = .ok (goInt n) (w.setCells b o cs):=by
 have hl':=run_loadCells_list (P:=P) w a cs hsrc
 have hst:=run_storeCells_cells (P:=P) b o cs 0 w (fun j hj=>(ht j hj).1) (fun j hj=>(ht j hj).2) h1
 cases hq:P.info? elem with
 | none=>simp [hq] at hs
 | some i=>
   have hi:i.size=k:=by simpa [hq] using hs
   rw [hl] at hl'
   simp [Builtin.copy_,run_underlying hu,Builtin.lenOf,Builtin.firstCells,sizeOf,typeInfo,hq,hi,←hn,hl',hst]
theorem run_clear_rows (w:World) (dT ty elem:TypeId) (z:Value) (b o n dCap:Nat) (hu:P.underlying dT=some (.slice elem)) (hz:(P.info? elem).map (·.zero)=some (some z)) (h0:0<n)
 (ht:w.there b o (Builtin.zeroCells z.cells n).size) (h1 : ∀ v∈(Builtin.zeroCells z.cells n).toList,v.oneCell'=true) :
 (Builtin.clear_ #[dT] ty #[.slice (some ⟨b,o,none⟩) n dCap]).run P w = .ok (.tuple #[]) (w.setCells b o (Builtin.zeroCells z.cells n).toList):=by
 have hst:=run_storeCells_cells (P:=P) b o (Builtin.zeroCells z.cells n).toList 0 w (fun j hj=>(ht j (by simpa using hj)).1) (fun j hj=>(ht j (by simpa using hj)).2) h1
 obtain ⟨m,rfl⟩ : ∃ m,n=m+1:=⟨n-1,by omega⟩
 cases hq:P.info? elem with
 | none=>simp [hq] at hz
 | some i=>
   have hi:i.zero=some z:=by simpa [hq] using hz
   rw [Nat.add_zero] at hst
   simp [Builtin.clear_,run_underlying hu,zeroValue,typeInfo,hq,hi]
   rw [hst]
   rfl
theorem rowsOf_find (hk : ∀ x∈s,(enc x).length=k) {j:Nat} {u:Value} (h:(rowsOf enc s)[j]?=some u) : ∃ i x q,s[i]?=some x∧(enc x)[q]?=some u∧j=i*k+q:=by
 induction s generalizing j with
 | nil=>simp [rowsOf] at h
 | cons y s ih=>
   have hy:=hk y (by simp)
   simp only [rowsOf,List.flatMap_cons] at h
   by_cases hj:j<k
   ·rw [List.getElem?_append_left (by omega)] at h
    exact ⟨0,y,j,rfl,h,by omega⟩
   ·rw [List.getElem?_append_right (by omega),hy] at h
    obtain ⟨i,x,q,h1,h2,h3⟩:=ih (fun z hz=>hk z (by simp [hz])) h
    exact ⟨i+1,x,q,by simpa using h1,h2,by rw [Nat.succ_mul];omega⟩
theorem SliceAt.news {v:Value} (hk : ∀ x∈s,(enc x).length=k) (h:SliceAt w k enc v s) {a:Addr} {n c:Nat} (hv:v = .slice (some a) n c) : ∀ j u,(rowsOf enc s)[j]?=some u→w.cell? (a.add j)=some u:=by
 intro j u hu
 obtain ⟨i,x,q,h1,h2,h3⟩:=rowsOf_find hk hu
 obtain ⟨A,cap,rfl,_,_,hc⟩:=h
 have hi:=(List.getElem?_eq_some_iff.1 h1).1
 obtain ⟨g,o,rfl,hg,hat⟩:=hc (by omega)
 injection hv with e1 _ _
 injection e1 with e1
 subst e1
 have:=hat i x h1 q u h2
 rw [Addr.add_mid,h3,←Nat.add_assoc]
 exact this
theorem zAJ (ho : ∀ x∈s, ∀ u∈enc x,u.oneCell'=true) : ∀ u∈rowsOf enc s,u.oneCell'=true:=by
 intro u hu
 obtain ⟨x,hx,hux⟩:=List.mem_flatMap.1 hu
 exact ho x hx u hux
theorem zeroCells_one {z:Array Value} (hz : ∀ u∈z.toList,u.oneCell'=true) (n:Nat) : ∀ u∈(Builtin.zeroCells z n).toList,u.oneCell'=true:=by
 intro u hu
 simp only [Builtin.zeroCells,Array.toList_map,List.mem_map] at hu
 obtain ⟨i,hi,rfl⟩:=hu
 have hlt:i%z.size<z.size:=Nat.mod_lt _ (by
  rcases Nat.eq_zero_or_pos z.size with h0 | h0
  ·rw [h0] at hi;simp at hi
  ·exact h0)
 rw [getElem!_pos z _ hlt]
 exact hz _ (Array.getElem_mem_toList _)
theorem wp_clear_run (w:World) {o:Oper} {a:Act} {K:Act→World→Prop} {Q:Exit→Act→World→Prop} (d:Operand) (t:TypeId)
 (ho:o.op = .call { callee := .builtin .clear,args := #[d],argTypes := #[t] }) (v:Value) (hd:a.eval d=v) {v':Value} {w':World}
 (hr:(Builtin.clear_ #[t] o.type #[v]).run P w = .ok v' w') (h:K (a.put o.dst v') w'):o.wp P a w K Q:=by
 unfold Oper.wp execOp
 simp only [ho,resolve,invoke,builtin,Sem.run_bind,Sem.run_pure,Result.andThen_ok,List.map_toArray,List.map_cons,List.map_nil,hd,hr]
 exact h
theorem zCH (w:World) {ops:Array Oper} {rest:List Oper} {o:Oper} {a:Act} {Q:Exit→Act→World→Prop} (hgd:o.guard=none) (d:Operand) (t:TypeId)
 (ho:o.op = .call { callee := .builtin .clear,args := #[d],argTypes := #[t] }) (v:Value) (hd:a.eval d=v) {v':Value} {w':World}
 (hr:(Builtin.clear_ #[t] o.type #[v]).run P w = .ok v' w') (h:wpList P ops Q rest (a.put o.dst v') w'):wpList P ops Q (o::rest) a w:=
 wpList_plain hgd fun _ hK=>wp_clear_run w d t ho v hd hr (hK _ _ h)
theorem wp_copy_run (w:World) {o:Oper} {a:Act} {K:Act→World→Prop} {Q:Exit→Act→World→Prop} (d x:Operand) (t t':TypeId)
 (ho:o.op = .call { callee := .builtin .copy,args := #[d,x],argTypes := #[t,t'] }) (v u:Value) (hd:a.eval d=v) (hs:a.eval x=u) {v':Value} {w':World}
 (hr:(Builtin.copy_ #[t,t'] o.type #[v,u]).run P w = .ok v' w') (h:K (a.put o.dst v') w'):o.wp P a w K Q:=by
 unfold Oper.wp execOp
 simp only [ho,resolve,invoke,builtin,Sem.run_bind,Sem.run_pure,Result.andThen_ok,List.map_toArray,List.map_cons,List.map_nil,hd,hs,hr]
 exact h
theorem zAX (w:World) {ops:Array Oper} {rest:List Oper} {o:Oper} {a:Act} {Q:Exit→Act→World→Prop} (hgd:o.guard=none) (d x:Operand) (t t':TypeId)
 (ho:o.op = .call { callee := .builtin .copy,args := #[d,x],argTypes := #[t,t'] }) (v u:Value) (hd:a.eval d=v) (hs:a.eval x=u) {v':Value} {w':World}
 (hr:(Builtin.copy_ #[t,t'] o.type #[v,u]).run P w = .ok v' w') (h:wpList P ops Q rest (a.put o.dst v') w'):wpList P ops Q (o::rest) a w:=
 wpList_plain hgd fun _ hK=>wp_copy_run w d x t t' ho v u hd hs hr (hK _ _ h)
theorem zBd {ops:Array Oper} {o:Oper} {a:Act} {w:World} {K:Act→World→Prop} {Q:Exit→Act→World→Prop} {E:Prop}
 (hg:o.guard=none) (d x:Operand) (dT sT:TypeId) (hop:o.op=Op.call { callee:=Callee.builtin Builtin.copy,args := #[d,x],argTypes := #[dT,sT] })
 (v u:Value) (hd:a.eval d=v) (hx:a.eval x=u) {v':Value} {w':World} (hr:(Builtin.copy_ #[dT,sT] o.type #[v,u]).run P w = .ok v' w') (hK:K (a.put o.dst v') w') :
 if Region.wanted o (yielded ops a.tmps)=true then Oper.wp P o a w K Q else E:=by
 have hw:Region.wanted o (yielded ops a.tmps)=true:=by simp [Region.wanted,hg]
 rw [if_pos hw]
 exact wp_copy_run w d x dT sT hop v u hd hx hr hK
end
end
section
structure Far (S:List (Option Nat)) (w w':World):Prop where
 os:w'.os=w.os
 tape:w'.tape=w.tape
 output:w'.output=w.output
 size:w.heap.size≤w'.heap.size
 block : ∀ k,k<w.heap.size→some k ∉ S→w'.heap[k]?=w.heap[k]?
def Newer (w:World) (v v':Value):Prop:=v'.ownBlock=v.ownBlock ∨ ∀ k,v'.ownBlock=some k→w.heap.size≤k
section
variable {S T:List (Option Nat)} {w w0 w1 w2 w':World} {g B:Nat} {t:TypeId} {cs:Array Value}
theorem Far.refl (S:List (Option Nat)) (w:World):Far S w w:=⟨rfl,rfl,rfl,Nat.le_refl _,fun _ _ _=>rfl⟩
theorem Far.of_below (h:Below w.heap.size w w'):Far S w w':=⟨h.os,h.tape,h.output,h.size,fun k hk _=>h.block k hk⟩
theorem Far.of_grown {row:Option Nat} (h:w.grownBy w' row):Far [row] w w':=⟨h.os,h.tape,h.output,h.size,fun k hk hn=>h.block k hk (fun e=>hn (by simp [e]))⟩
theorem Far.grown {row:Option Nat} (h:Far S w w') (hs : ∀ k,some k∈S→some k=row):w.grownBy w' row:=⟨h.os,h.tape,h.output,h.size,fun k hk hn=>h.block k hk (fun e=>hn (hs k e))⟩
theorem Far.mono (h:Far S w w') (hs : ∀ k,some k∈S→some k∈T):Far T w w':=⟨h.os,h.tape,h.output,h.size,fun k hk hn=>h.block k hk (fun e=>hn (hs k e))⟩
theorem Far.then_ (h:Far S w w1) (h2:Far T w1 w2) (hT : ∀ k,some k∈T→some k∈S∨w.heap.size≤k):Far S w w2:=
 ⟨h2.os.trans h.os,h2.tape.trans h.tape,h2.output.trans h.output,Nat.le_trans h.size h2.size,fun k hk hn=>by
  refine (h2.block k (Nat.lt_of_lt_of_le hk h.size) fun e=>?_).trans (h.block k hk hn)
  rcases hT k e with h3 | h3
  ·exact hn h3
  ·omega⟩
theorem Far.trans (h:Far S w w1) (h2:Far S w1 w2):Far S w w2:=h.then_ h2 fun _ hk => .inl hk
theorem Far.more (h:Far S w w1) (h2:Below w1.heap.size w1 w2):Far S w w2:=h.trans (Far.of_below h2)
theorem Far.blk (h:Far S w w') (hb:Blk w g t cs) (hg:some g ∉ S):Blk w' g t cs:=(h.block g hb.lt hg).trans hb
theorem Far.own {base size n:Nat} {e:TypeId} {v:Value} {xs:List Value} (h:Far S w w') (ho:w.ownsRow base e size v n xs) (hv : ∀ k,v.ownBlock=some k→some k ∉ S):w'.ownsRow base e size v n xs:=by
 have hlt:=World.ownsRow.lt ho
 refine ⟨ho.1,?_⟩
 rcases ho.2 with hn | ⟨g,cap,cur,rfl,hb,hgg,rest⟩
 ·exact .inl hn
 ·exact .inr ⟨g,cap,cur,rfl,hb,(h.block g (hlt g rfl).2 (hv g rfl)).trans hgg,rest⟩
theorem Far.range {o:Nat} {cs:List Value} (h:Far S w w') (hr:w.rangeAt g o cs) (hlt:g<w.heap.size) (hg:some g ∉ S):w'.rangeAt g o cs:=fun j u hu=>by
 rw [World.cell?_of_block (w:=w) (h.block g hlt hg)]
 exact hr j u hu
theorem Far.below (h:Far S w w') (hB:B≤w.heap.size) (hS : ∀ k,some k∈S→B≤k):Below B w w':=
 ⟨h.os,h.tape,h.output,h.size,fun k hk=>h.block k (Nat.lt_of_lt_of_le hk hB) fun e=>by have:=hS k e;omega⟩
theorem Far.drew (h:Far S w w'):Far S w w'.drew:=⟨h.os,h.tape,h.output,h.size,h.block⟩
theorem Far.drewN (h:Far S w w') (n:Nat):Far S w (w'.drewN n):=⟨h.os,h.tape,h.output,h.size,h.block⟩
theorem Far.alloc (h:Far S w w') (o:Obj):Far S w (w'.alloc o):=h.more ((Below.refl _ _).alloc (Nat.le_refl _) o)
theorem Far.set_ (h:Far S w w') {p:Addr} (hp:some p.block∈S∨w.heap.size≤p.block) (v:Value):Far S w (w'.setCell p v):=
 ⟨h.os,h.tape,h.output,by rw [World.size_setCell];exact h.size,fun k hk hn=>by
  refine (Below.heap_setCell w' p v k fun e=>?_).trans (h.block k hk hn)
  rcases hp with hp | hp
  ·exact hn (e▸hp)
  ·omega⟩
theorem Far.cells (hg:some g∈S∨w.heap.size≤g) : ∀ (vs:List Value) (o:Nat) (w':World),Far S w w'→Far S w (w'.setCells g o vs)
 | [],_,_,h=>h
 | v::r,o,w',h=>Far.cells hg r (o+1) _ (h.set_ (p:=⟨g,o,none⟩) hg v)
theorem Newer.refl (w:World) (v:Value):Newer w v v := .inl rfl
theorem Newer.then_ {v v1 v2:Value} (h:Newer w v v1) (h2:Newer w1 v1 v2) (hs:w.heap.size≤w1.heap.size):Newer w v v2:=by
 rcases h2 with h2 | h2
 ·rcases h with h | h
  ·exact .inl (h2.trans h)
  ·exact .inr fun k hk=>h k (h2▸hk)
 ·exact .inr fun k hk=>Nat.le_trans hs (h2 k hk)
theorem Newer.ne {v v':Value} (h:Newer w v v') (hg:g<w.heap.size) (hne:v.ownBlock≠some g):v'.ownBlock≠some g:=by
 rcases h with h | h
 ·rwa [h]
 ·intro e
  have:=h g e
  omega
end
theorem zCF {P:Program} {ops:Array Oper} {rest:List Oper} {a:Act} {w:World} {Q:Exit→Act→World→Prop} {d:Option Tmp} {rt:TypeId} {pos:String} {af:Array Edge}
 (s x:Operand) (c:Nat) (t:TypeId) {e:TypeId} {z:Value} {size bytes:Nat} (hT:SliceTy P t e z size bytes) {base n:Nat} {v:Value} {xs:List Value} (hown:w.ownsRow base e size v n xs)
 {k m:Nat} {t':TypeId} {cs:Array Value} (hcs:Blk w k t' cs) (hl:cs.size=m*size) (h1 : ∀ u∈cs.toList,u.oneCell'=true)
 (h63:n+m≤9223372036854775807) (hbytes:(n+m)*bytes≤140737488355328) (hbase:base≤w.heap.size) (hs:a.eval s=v) (hx:a.eval x = .slice (some ⟨k,0,none⟩) m c)
 (h : ∀ v' w',w'.ownsRow base e size v' (n+m) (xs++cs.toList)→w.grownBy w' v.ownBlock→Newer w v v'→wpList P ops Q rest (a.put d v') w') :
 wpList P ops Q ({ dst:=d,op := .call { callee := .builtin .append,args := #[s,x],argTypes := #[t,t] },type:=rt,pos:=pos,after:=af,guard:=none }::rest) a w:=by
 obtain ⟨i,i1,i2,i3,i4⟩:=hT.hi
 refine wpList_append_own_at w rfl s x t rfl base e i z size bytes hT.ht i1 i2 i3 i4 hT.hzs hT.hsz v n xs hs hown ⟨k,0,none⟩ m c cs.toList hx (by simpa using hl) (zBX hcs) h1 (by simp only [maxLen];omega) hbytes hbase ?_
 intro v' w' hown' hg _ hat
 refine h v' w' hown' hg ?_
 rcases hat with hat | hat
 ·exact .inl hat
 ·refine .inr fun k hk=>?_
  rw [hat] at hk
  injection hk with hk
  omega
theorem zCi {w w':World} (h:Below w.heap.size w w') (row:Option Nat):w.grownBy w' row:=⟨h.os,h.tape,h.output,h.size,fun k hk _=>h.block k hk⟩
theorem lit_new {P:Program} {ops:Array Oper} {rest:List Oper} {a:Act} {w:World} {Q:Exit→Act→World→Prop} {d:Option Tmp} {rt:TypeId} {pos:String} {af:Array Edge}
 (ty:TypeId) (x y:Operand) (cs:Array Value) (k:Nat) (hk:(P.info? ty).map (·.size)=some k) (hcs:cs.size=k) (h1:cs.all (·.oneCell')=true) (zs:Array Value) (hz:zs.size=k) (hx:a.eval x = .pointer (some ⟨w.heap.size,0,none⟩)) (hy:a.eval y = .agg cs)
 (h : ∀ W1,Blk W1 w.heap.size ty cs→Below w.heap.size w W1→wpList P ops Q rest (a.put d undef) W1) :
 wpList P ops Q ({ dst:=d,op := .store ty x y,type:=rt,pos:=pos,after:=af,guard:=none }::rest) a (w.alloc (.cells zs ty)):=
 zBk rfl ty x y rfl cs zs hx hy (by rw [hcs];exact hk) (hz.trans hcs.symm) h1 h
theorem zDp {P:Program} {w:World} {ops:Array Oper} {rest:List Oper} {o:Oper} {a:Act} {Q:Exit→Act→World→Prop} (hgd:o.guard=none) (s x:Operand) (t:TypeId)
 (ho:o.op = .call { callee := .builtin .append,args := #[s,x],argTypes := #[t,t] })
 (e:TypeId) (z:Value) (size bytes:Nat) (hT:SliceTy P t e z size bytes) (base:Nat) (v:Value) (n:Nat) (xs:List Value) (hs:a.eval s=v) (hown:w.ownsRow base e size v n xs)
 (ad:Addr) (m c:Nat) (news:List Value) (hx:a.eval x = .slice (some ad) m c) (hl:news.length=m*size) (hnews : ∀ j u,news[j]?=some u→w.cell? (ad.add j)=some u) (h1 : ∀ u∈news,u.oneCell'=true)
 (h63:n+m≤9223372036854775807) (hbytes:(n+m)*bytes≤140737488355328) (w0:World) (hb:Below base w0 w) (hbase:base≤w.heap.size)
 (h : ∀ v' w',w'.ownsRow base e size v' (n+m) (xs++news)→Below base w0 w'→wpList P ops Q rest (a.put o.dst v') w'):wpList P ops Q (o::rest) a w:=
 wpList_plain hgd fun _ hK=>by
  obtain ⟨i,i1,i2,i3,i4⟩:=hT.hi
  refine wp_append_own w s x t ho base e i z size bytes hT.ht i1 i2 i3 i4 hT.hzs hT.hsz v n xs hs hown ad m c news hx hl hnews h1 h63 hbytes hbase ?_
  intro v' w' hown' hg _
  exact hK _ _ (h v' w' hown' (hb.grown hg hbase (fun k hk=>(World.ownsRow.lt hown k hk).1)))
end
section
def idC (l:Txt):List Value:=(u8s l).toList
def entC (e:EntL):List Value := .string (B e.name) :: .int .i64 e.kind::(u8s e.id).toList
def objC (o:ObjL) (ve vp:Value):List Value := .int .i64 o.kind :: .string (B o.data)::ve::((u8s o.tree).toList++(vp :: .int .u32 o.time :: .string (B o.text)::((u8s o.target).toList++[.int .i64 o.of_, .string (B o.name)])))
structure EntOk (e:EntL):Prop where
 id:e.id.length=32
 name:e.name.length≤9223372036854775807
 k1 : -9223372036854775808≤e.kind
 k2:e.kind≤9223372036854775807
structure ObjOk (o:ObjL):Prop where
 tree:o.tree.length=32
 target:o.target.length=32
 ents : ∀ e∈o.ents,EntOk e
 pars : ∀ p∈o.pars,p.length=32
 data:o.data.length≤9223372036854775807
 text:o.text.length≤9223372036854775807
 name:o.name.length≤9223372036854775807
 time:o.time<4294967296
 k1 : -9223372036854775808≤o.kind
 k2:o.kind≤9223372036854775807
 f1 : -9223372036854775808≤o.of_
 f2:o.of_≤9223372036854775807
theorem u8s_len (l:Txt):(u8s l).toList.length=l.length:=by simp [u8s]
theorem idC_len {l:Txt} (h:l.length=32):(idC l).length=32:=by unfold idC;rw [u8s_len,h]
theorem zBw {e:EntL} (h:EntOk e):(entC e).length=34:=by unfold entC;simp only [List.length_cons,u8s_len,h.id]
theorem zAv {o:ObjL} (h:ObjOk o) (ve vp:Value):(objC o ve vp).length=72:=by
 unfold objC
 simp only [List.length_cons,List.length_append,u8s_len,h.tree,h.target,List.length_nil]
abbrev Ents (w:World) (v:Value) (l:List EntL):Prop:=SliceAt w 34 entC v l
abbrev Ids (w:World) (v:Value) (l:List Txt):Prop:=SliceAt w 32 idC v l
structure ObjV (w:World) (ve vp:Value) (o:ObjL):Prop where
 ok:ObjOk o
 ents:Ents w ve o.ents
 pars:Ids w vp o.pars
theorem ObjV.below {w w':World} {ve vp:Value} {o:ObjL} (h:ObjV w ve vp o) (hb:Below w.heap.size w w'):ObjV w' ve vp o:=⟨h.ok,h.ents.below hb,h.pars.below hb⟩
structure ObjB (w:World) (g:Nat) (o:ObjL) (ve vp:Value):Prop where
 blk:Blk w g 59 (objC o ve vp).toArray
 tr:o.tree.length=32
 ta:o.target.length=32
section
variable {w:World} {g:Nat} {o:ObjL} {ve vp:Value}
theorem ObjB.drew (h:ObjB w g o ve vp):ObjB w.drew g o ve vp:=⟨h.blk.drew,h.tr,h.ta⟩
theorem ObjB.below {w':World} (h:ObjB w g o ve vp) (hb:Below w.heap.size w w'):ObjB w' g o ve vp:=⟨(hb.block g h.blk.lt).trans h.blk,h.tr,h.ta⟩
theorem ObjB.at_ (h:ObjB w g o ve vp) {i:Nat} {u:Value} (hu:(objC o ve vp)[i]?=some u):w.cell? ⟨g,i,none⟩=some u:=by
 rw [h.blk.cell]
 simpa using hu
theorem zB3 {α:Type} {a b:List α} {n i:Nat} (ha:a.length=n) (hi:n≤i):(a++b)[i]?=b[i-n]?:=by rw [List.getElem?_append_right (by omega),ha]
theorem obj_pars (h:o.tree.length=32):(objC o ve vp)[35]?=some vp:=by
 show ((u8s o.tree).toList++_)[32]?=_
 rw [zB3 (by rw [u8s_len,h]) (Nat.le_refl _)];rfl
theorem obj_time (h:o.tree.length=32):(objC o ve vp)[36]?=some (.int .u32 o.time):=by
 show ((u8s o.tree).toList++_)[33]?=_
 rw [zB3 (by rw [u8s_len,h]) (by omega)];rfl
theorem obj_text (h:o.tree.length=32):(objC o ve vp)[37]?=some (.string (B o.text)):=by
 show ((u8s o.tree).toList++_)[34]?=_
 rw [zB3 (by rw [u8s_len,h]) (by omega)];rfl
theorem obj_of (h:o.tree.length=32) (ht:o.target.length=32):(objC o ve vp)[70]?=some (.int .i64 o.of_):=by
 show ((u8s o.tree).toList++_)[67]?=_
 rw [zB3 (by rw [u8s_len,h]) (by omega)]
 show ((u8s o.target).toList++_)[32]?=_
 rw [zB3 (by rw [u8s_len,ht]) (by omega)];rfl
theorem obj_name (h:o.tree.length=32) (ht:o.target.length=32):(objC o ve vp)[71]?=some (.string (B o.name)):=by
 show ((u8s o.tree).toList++_)[68]?=_
 rw [zB3 (by rw [u8s_len,h]) (by omega)]
 show ((u8s o.target).toList++_)[33]?=_
 rw [zB3 (by rw [u8s_len,ht]) (by omega)];rfl
theorem ObjB.kind (h:ObjB w g o ve vp):w.cell? ⟨g,0,none⟩=some (.int .i64 o.kind):=h.at_ rfl
theorem ObjB.data (h:ObjB w g o ve vp):w.cell? ⟨g,1,none⟩=some (.string (B o.data)):=h.at_ rfl
theorem ObjB.ents (h:ObjB w g o ve vp):w.cell? ⟨g,2,none⟩=some ve:=h.at_ rfl
theorem ObjB.pars (h:ObjB w g o ve vp):w.cell? ⟨g,35,none⟩=some vp:=h.at_ (obj_pars h.tr)
theorem ObjB.time (h:ObjB w g o ve vp):w.cell? ⟨g,36,none⟩=some (.int .u32 o.time):=h.at_ (obj_time h.tr)
theorem ObjB.text (h:ObjB w g o ve vp):w.cell? ⟨g,37,none⟩=some (.string (B o.text)):=h.at_ (obj_text h.tr)
theorem ObjB.of_ (h:ObjB w g o ve vp):w.cell? ⟨g,70,none⟩=some (.int .i64 o.of_):=h.at_ (obj_of h.tr h.ta)
theorem ObjB.name (h:ObjB w g o ve vp):w.cell? ⟨g,71,none⟩=some (.string (B o.name)):=h.at_ (obj_name h.tr h.ta)
theorem ObjB.whole (h:ObjB w g o ve vp):w.rangeAt g 0 (objC o ve vp):=by
 have:=zAi h.blk
 simpa using this
theorem zEB {g o:Nat} {a b c:List Value} {n m:Nat} (h:w.rangeAt g o (a++(b++c))) (ha:a.length=n) (hm:o+n=m):w.rangeAt g m b:=fun j u hu=>by
 have hj:j<b.length:=(List.getElem?_eq_some_iff.1 hu).1
 have:=h (n+j) u (by
  rw [List.getElem?_append_right (by omega),ha,Nat.add_sub_cancel_left,List.getElem?_append_left hj]
  exact hu)
 rwa [←Nat.add_assoc,hm] at this
theorem ObjB.tree (h:ObjB w g o ve vp):w.rangeAt g 3 (u8s o.tree).toList:=zEB (a:=[.int .i64 o.kind, .string (B o.data),ve]) h.whole rfl rfl
theorem ObjB.target (h:ObjB w g o ve vp):w.rangeAt g 38 (u8s o.target).toList:=by
 have:=h.whole
 have e:objC o ve vp=(.int .i64 o.kind :: .string (B o.data)::ve::((u8s o.tree).toList++[vp, .int .u32 o.time, .string (B o.text)]))++((u8s o.target).toList++[.int .i64 o.of_, .string (B o.name)]):=by
  unfold objC
  simp
 rw [e] at this
 exact zEB this (n:=38) (by simp [zAj,h.tr]) (by omega)
end
def ldvO (p:Addr):Sem Value:=loadVar 59 p
theorem ldvO_eq (p:Addr):loadVar 59 p=ldvO p:=rfl
def ldvE (p:Addr):Sem Value:=loadVar 132 p
theorem ldvE_eq (p:Addr):loadVar 132 p=ldvE p:=rfl
theorem szObj : (Tryz.prog.info? 59).map (·.size)=some 72:=by kernel_rfl
theorem szEnt : (Tryz.prog.info? 132).map (·.size)=some 34:=by kernel_rfl
theorem zAb {w:World} {g o:Nat} {l:Txt} (h:w.rangeAt g o (u8s l).toList) (hl:l.length=32):(ldvI ⟨g,o,none⟩).run Tryz.prog w = .ok (.agg (u8s l)) w:=by
 have:=run_loadVar_mid (P:=Tryz.prog) w g o 46 (u8s l).toList _ h Tryz.underlying46 rfl (by rw [u8s_len,hl];exact sz32)
 rwa [Array.toArray_toList] at this
theorem run_ldvE {w:World} {g o:Nat} {x:EntL} (h:w.rangeAt g o (entC x)) (hx:EntOk x):(ldvE ⟨g,o,none⟩).run Tryz.prog w = .ok (.agg (entC x).toArray) w:=
 run_loadVar_mid (P:=Tryz.prog) w g o 132 (entC x) _ h Tryz.underlying132 rfl (by rw [zBw hx];exact szEnt)
theorem zAT {w:World} {g:Nat} {o:ObjL} {ve vp:Value} (h:ObjB w g o ve vp) (ho:ObjOk o):(ldvO ⟨g,0,none⟩).run Tryz.prog w = .ok (.agg (objC o ve vp).toArray) w:=
 run_loadVar_mid (P:=Tryz.prog) w g 0 59 (objC o ve vp) _ h.whole Tryz.underlying59 rfl (by rw [zAv ho];exact szObj)
end
theorem Tryz.idsTy : SliceTy Tryz.prog 34 46 (.agg (u8s noId)) 32 32:=⟨Tryz.underlying34,info_parts (by kernel_rfl),by decide,by omega⟩
theorem idC_one (l:Txt) : ∀ u∈idC l,u.oneCell'=true:=fun u hu=>u8v_one l u (by simpa [idC,u8s] using hu)
theorem idC_agg {l:Txt} {v:Value} (h:v = .agg (u8s l)):v = .agg (idC l).toArray:=by rw [h];simp [idC]
abbrev OwnIds (w:World) (base:Nat) (v:Value) (l:List Txt):Prop:=w.ownsRow base 46 32 v l.length (rowsOf idC l)
section
section
variable {P:Program} {ops:Array Oper} {a0:Act} {C:Array Bool→World→Prop} {R:Nat→Value→World→Prop} {Q:Exit→Act→World→Prop}
structure Left (ops:Array Oper) (a0:Act) (C:Array Bool→World→Prop) (R:Nat→Value→World→Prop) (listed:Array Bool) (a:Act) (w:World):Prop where
 cls:C listed w
 size:listed.size=ops.size
 closed : ∀ i o,ops[i]?=some o→listed.getD i false=true → ∀ e∈o.after,Region.binds .any e=true→listed.getD e.on false=true
 tsize:a.tmps.size=a0.tmps.size
 defers:a.defers=a0.defers
 old : ∀ t:Nat,(∀ (i:Nat) o,ops[i]?=some o→listed.getD i false=true→o.dst≠some t)→a.tmps[t]?=a0.tmps[t]?
 new : ∀ (i:Nat) o (t:Nat),ops[i]?=some o→listed.getD i false=true→o.dst=some t → ∃ v,a.tmps[t]?=some v∧R i v w
def acyc (ops:Array Oper):Bool:=(List.range ops.size).all fun i=>match ops[i]? with
 | some o=>o.after.all fun e => !Region.binds .any e||decide (e.on<i)
 | none=>true
def apartB (ops:Array Oper):Bool:=(List.range ops.size).all fun i=>(List.range ops.size).all fun j=>decide (i=j)||match ops[i]?,ops[j]? with
 | some o,some q=>match o.dst,q.dst with
   | some s,some t=>decide (s≠t)
   | _,_=>true
 | _,_=>true
theorem acyc_spec (h:acyc ops=true) {i:Nat} {o:Oper} (ho:ops[i]?=some o) {e:Edge} (he:e∈o.after) (hb:Region.binds .any e=true):e.on<i:=by
 have hi:=(Array.getElem?_eq_some_iff.1 ho).1
 have:=List.all_eq_true.1 h i (List.mem_range.2 hi)
 rw [ho] at this
 have:=Array.all_eq_true_iff_forall_mem.1 this e he
 rw [hb] at this
 simpa using this
theorem apart_spec (h:apartB ops=true) {i j:Nat} {o q:Oper} {t:Nat} (ho:ops[i]?=some o) (hq:ops[j]?=some q) (h1:o.dst=some t) (h2:q.dst=some t):i=j:=by
 have hi:=(Array.getElem?_eq_some_iff.1 ho).1
 have hj:=(Array.getElem?_eq_some_iff.1 hq).1
 have:=List.all_eq_true.1 (List.all_eq_true.1 h i (List.mem_range.2 hi)) j (List.mem_range.2 hj)
 rw [ho,hq] at this
 simp only [h1,h2] at this
 simpa using this
theorem zAt {listed:Array Bool} {i:Nat} (h:i∈Region.ready .any ops listed):i<ops.size∧listed.getD i true=false ∧ ∀ o,ops[i]?=some o → ∀ e∈o.after,Region.binds .any e=true→listed.getD e.on false=true:=by
 unfold Region.ready at h
 rw [List.mem_filter,List.mem_range,Bool.and_eq_true] at h
 obtain ⟨h1,h2,h3⟩:=h
 refine ⟨h1,by simpa using h2,fun o ho e he hb=>?_⟩
 rw [ho] at h3
 simp only [Option.map_some,Option.getD_some] at h3
 have:=Array.all_eq_true_iff_forall_mem.1 h3 e he
 simpa [hb] using this
theorem zAu {listed:Array Bool} {i:Nat} (h:i<listed.size):listed.getD i false=listed.getD i true:=by
 simp [Array.getD,h]
theorem all_listed (hac:acyc ops=true) {listed:Array Bool} (hs:listed.size=ops.size) (h:Region.ready .any ops listed=[]) : ∀ i,i<ops.size→listed.getD i false=true:=by
 intro i
 induction i using Nat.strongRecOn with
 | ind i ih=>
   intro hi
   cases hl:listed.getD i false with
   | true=>rfl
   | false=>
     have hmem:i∈Region.ready .any ops listed:=by
      unfold Region.ready
      rw [List.mem_filter,List.mem_range,Bool.and_eq_true]
      have ho:ops[i]?=some ops[i]:=Array.getElem?_eq_getElem hi
      refine ⟨hi,by rw [←zAu (by omega),hl];rfl,?_⟩
      rw [ho]
      simp only [Option.map_some,Option.getD_some]
      rw [Array.all_eq_true_iff_forall_mem]
      intro e he
      cases hb:Region.binds .any e with
      | false=>simp
      | true=>
        have h1:=acyc_spec hac ho he hb
        rw [ih e.on h1 (by omega)]
        simp
     rw [h] at hmem
     cases hmem
def zC1 (listed:Array Bool) (n:Nat):Nat:=((List.range n).filter fun i => !listed.getD i false).length
theorem unlisted_set {listed:Array Bool} {n i:Nat} (hi:i<n) (hs:listed.size=n) (hl:listed.getD i false=false):zC1 (listed.setIfInBounds i true) n<zC1 listed n:=by
 unfold zC1
 have hsub:((List.range n).filter fun j => !(listed.setIfInBounds i true).getD j false).Sublist ((List.range n).filter fun j => !listed.getD j false):=by
  have:((List.range n).filter fun j => !(listed.setIfInBounds i true).getD j false)=(((List.range n).filter fun j => !listed.getD j false).filter fun j=>decide (j≠i)):=by
   rw [List.filter_filter]
   apply List.filter_congr
   intro j hj
   have hj:=List.mem_range.1 hj
   by_cases hji:j=i
   ·subst hji
    simp [Array.getD,hs,hj]
   ·have:(listed.setIfInBounds i true).getD j false=listed.getD j false:=by
     simp [Array.getD,hs,hj,Array.getElem_setIfInBounds,Ne.symm hji]
    simp [this,hji]
  rw [this]
  exact List.filter_sublist
 rcases Nat.lt_or_ge ((List.range n).filter fun j => !(listed.setIfInBounds i true).getD j false).length ((List.range n).filter fun j => !listed.getD j false).length with h | h
 ·exact h
 ·exfalso
  have heq:=hsub.eq_of_length_le h
  have hm:i∈((List.range n).filter fun j => !listed.getD j false):=by
   rw [List.mem_filter,List.mem_range]
   exact ⟨hi,by rw [hl];rfl⟩
  rw [←heq,List.mem_filter] at hm
  have:=hm.2
  simp [Array.getD,hs,hi] at this
theorem zA0 {listed:Array Bool} {i j:Nat} (hi:i<listed.size):(listed.setIfInBounds i true).getD j false=if j=i then true else listed.getD j false:=by
 by_cases hj:j=i
 ·subst hj
  simp [Array.getD,hi]
 ·rw [if_neg hj]
  simp only [Array.getD,Array.size_setIfInBounds]
  split
  ·rename_i h
   simp only [Array.getInternal_eq_getElem]
   rw [Array.getElem_setIfInBounds_ne _ (Ne.symm hj)]
  ·rfl
theorem put_at {a:Act} {d:Option Tmp} {v:Value} {t:Nat} (h:d≠some t):(a.put d v).tmps[t]?=a.tmps[t]?:=by
 cases d with
 | none=>rfl
 | some s=>
   have:s≠t:=fun e=>h (by rw [e])
   simp [Act.put,Array.getElem?_setIfInBounds,this]
theorem zDb (a:Act) (d:Option Tmp) (v:Value):(a.put d v).tmps.size=a.tmps.size:=by
 cases d<;>simp [Act.put]
theorem zBr (a:Act) (d:Option Tmp) (v:Value):(a.put d v).defers=a.defers:=by
 cases d<;>simp [Act.put]
theorem Left.step {listed:Array Bool} {a:Act} {w w':World} {i:Nat} {o:Oper} {v:Value} (hd:apartB ops=true) (hsz : ∀ (i:Nat) o (t:Nat),ops[i]?=some o→o.dst=some t→t<a0.tmps.size)
 (h:Left ops a0 C R listed a w) (hi:i∈Region.ready .any ops listed) (ho:ops[i]?=some o) (hR:R i v w') (hC:C (listed.setIfInBounds i true) w') (hst : ∀ j u,listed.getD j false=true→R j u w→R j u w'):Left ops a0 C R (listed.setIfInBounds i true) (a.put o.dst v) w':=by
 obtain ⟨hin,hil,hdep⟩:=zAt hi
 have his:i<listed.size:=by rw [h.size];exact hin
 refine ⟨hC,by rw [Array.size_setIfInBounds];exact h.size,?_,by rw [zDb];exact h.tsize,by rw [zBr];exact h.defers,?_,?_⟩
 ·intro j q hq hj e he hb
  rw [zA0 his]
  split
  ·rfl
  ·rw [zA0 his] at hj
   by_cases hji:j=i
   ·subst hji
    rw [ho] at hq
    injection hq with hq
    subst hq
    exact hdep o ho e he hb
   ·rw [if_neg hji] at hj
    exact h.closed j q hq hj e he hb
 ·intro t ht
  have h1:o.dst≠some t:=ht i o ho (by rw [zA0 his,if_pos rfl])
  rw [put_at h1]
  refine h.old t fun j q hq hj=>ht j q hq ?_
  rw [zA0 his]
  split
  ·rfl
  ·exact hj
 ·intro j q t hq hj ht
  by_cases hji:j=i
  ·subst hji
   rw [ho] at hq
   injection hq with hq
   subst hq
   refine ⟨v,?_,hR⟩
   have hlt:=hsz j o t ho ht
   rw [ht]
   simp [Act.put,h.tsize,hlt]
  ·rw [zA0 his,if_neg hji] at hj
   obtain ⟨u,h1,h2⟩:=h.new j q t hq hj ht
   refine ⟨u,?_,hst j u hj h2⟩
   rw [put_at (fun e=>hji (apart_spec hd hq ho ht e))]
   exact h1
theorem wpAny_left (hac:acyc ops=true) (hd:apartB ops=true) (hsz : ∀ (i:Nat) o (t:Nat),ops[i]?=some o→o.dst=some t→t<a0.tmps.size)
 (hstep : ∀ i o listed a w,ops[i]?=some o→i∈Region.ready .any ops listed→Left ops a0 C R listed a w→wpOp P ops Q i (fun a' w' => ∃ v,a'=a.put o.dst v∧R i v w'∧C (listed.setIfInBounds i true) w' ∧ ∀ j u,listed.getD j false=true→R j u w→R j u w') a w)
 (hend : ∀ a w listed,Left ops a0 C R listed a w→(∀ i,i<ops.size→listed.getD i false=true)→Q .normal a w) :
 ∀ (fuel:Nat) (listed:Array Bool) (a:Act) (w:World),Left ops a0 C R listed a w→zC1 listed ops.size≤fuel→wpAny P .any ops Q fuel listed a w
 | 0,listed,a,w,h,hu=>by
   have hall : ∀ i,i<ops.size→listed.getD i false=true:=by
    intro i hi
    cases hl:listed.getD i false with
    | true=>rfl
    | false=>
      have hm:i∈((List.range ops.size).filter fun i => !listed.getD i false):=by
       rw [List.mem_filter,List.mem_range]
       exact ⟨hi,by rw [hl];rfl⟩
      have:=List.length_pos_of_mem hm
      unfold zC1 at hu
      omega
   refine ⟨?_,hend a w listed h hall⟩
   rw [List.eq_nil_iff_forall_not_mem]
   intro i hi
   obtain ⟨h1,h2,_⟩:=zAt hi
   rw [←zAu (by rw [h.size];exact h1),hall i h1] at h2
   cases h2
 | fuel+1,listed,a,w,h,hu=>by
   refine ⟨fun h0=>hend a w listed h (all_listed hac h.size h0),fun i hi=>?_⟩
   obtain ⟨h1,h2,_⟩:=zAt hi
   have ho:ops[i]?=some ops[i]:=Array.getElem?_eq_getElem h1
   refine wpOp_mono ?_ (hstep i _ listed a w ho hi h)
   rintro a' w' ⟨v,rfl,hR,hC,hst⟩
   refine wpAny_left hac hd hsz hstep hend fuel _ _ _ (h.step hd hsz hi ho hR hC hst) ?_
   have:=unlisted_set h1 h.size (by rw [zAu (by rw [h.size];exact h1)];exact h2)
   omega
theorem zA5 {id:Nat} {w0:World} (hm:P.follows .mixedOrders=true) (hac:acyc ops=true) (hd:apartB ops=true) (hsz : ∀ (i:Nat) o (t:Nat),ops[i]?=some o→o.dst=some t→t<a0.tmps.size)
 (hC:C (Array.replicate ops.size false) { w0 with drawn:=w0.drawn+1 })
 (hstep : ∀ i o listed a w,ops[i]?=some o→i∈Region.ready .any ops listed→Left ops a0 C R listed a w→wpOp P ops Q i (fun a' w' => ∃ v,a'=a.put o.dst v∧R i v w'∧C (listed.setIfInBounds i true) w' ∧ ∀ j u,listed.getD j false=true→R j u w→R j u w') a w)
 (hend : ∀ a w listed,Left ops a0 C R listed a w→(∀ i,i<ops.size→listed.getD i false=true)→Q .normal a w):(Code.region id ops true).wp P Q a0 w0:=by
 refine wp_region_any hm (wpAny_left hac hd hsz hstep hend _ _ _ _ ⟨hC,by simp,?_,rfl,rfl,fun _ _=>rfl,?_⟩ ?_)
 ·intro i o ho hl
  exfalso
  have hi:=(Array.getElem?_eq_some_iff.1 ho).1
  simp [Array.getD,hi] at hl
 ·intro i o t ho hl
  exfalso
  have hi:=(Array.getElem?_eq_some_iff.1 ho).1
  simp [Array.getD,hi] at hl
 ·unfold zC1
  exact Nat.le_trans (List.length_filter_le _ _) (by simp)
def oldB (ops:Array Oper) (i t:Nat):Bool:=(List.range ops.size).all fun j=>match ops[j]? with
 | some q=>decide (q.dst≠some t)||decide (j=i)||q.after.any fun e=>Region.binds .any e&&decide (e.on=i)
 | none=>true
def newB (ops:Array Oper) (i j t:Nat):Bool:=match ops[i]?,ops[j]? with
 | some o,some q=>decide (q.dst=some t)&&o.after.any fun e=>Region.binds .any e&&decide (e.on=j)
 | _,_=>false
theorem Left.get_old {listed:Array Bool} {a:Act} {w:World} {i t:Nat} (h:Left ops a0 C R listed a w) (hi:i∈Region.ready .any ops listed) (hb:oldB ops i t=true):a.eval (.tmp t)=a0.eval (.tmp t):=by
 obtain ⟨hin,hil,_⟩:=zAt hi
 have key:a.tmps[t]?=a0.tmps[t]?:=by
  refine h.old t fun j q hq hj ht=>?_
  have hjn:=(Array.getElem?_eq_some_iff.1 hq).1
  have h1:=List.all_eq_true.1 hb j (List.mem_range.2 hjn)
  rw [hq] at h1
  simp only [Bool.or_eq_true,decide_eq_true_eq] at h1
  rcases h1 with (h1 | h1) | h1
  ·exact h1 ht
  ·subst h1
   rw [zAu (by rw [h.size];exact hin),hil] at hj
   cases hj
  ·rw [Array.any_eq_true'] at h1
   obtain ⟨e,he,h2⟩:=h1
   simp only [Bool.and_eq_true,decide_eq_true_eq] at h2
   have:=h.closed j q hq hj e he h2.1
   rw [h2.2,zAu (by rw [h.size];exact hin),hil] at this
   cases this
 simp only [Act.eval,Array.getD_eq_getD_getElem?,key]
theorem Left.get_new {listed:Array Bool} {a:Act} {w:World} {i j t:Nat} (h:Left ops a0 C R listed a w) (hi:i∈Region.ready .any ops listed) (hb:newB ops i j t=true):R j (a.eval (.tmp t)) w:=by
 obtain ⟨hin,hil,hdep⟩:=zAt hi
 unfold newB at hb
 split at hb
 ·rename_i o q ho hq
  simp only [Bool.and_eq_true,decide_eq_true_eq] at hb
  obtain ⟨h1,h2⟩:=hb
  rw [Array.any_eq_true'] at h2
  obtain ⟨e,he,h3⟩:=h2
  simp only [Bool.and_eq_true,decide_eq_true_eq] at h3
  have hj:=hdep o ho e he h3.1
  rw [h3.2] at hj
  obtain ⟨v,h4,h5⟩:=h.new j q t hq hj h1
  simp only [Act.eval,Array.getD_eq_getD_getElem?,h4,Option.getD_some]
  exact h5
 ·cases hb
def waitsB (ops:Array Oper) (j i:Nat):Bool:=match ops[j]? with
 | some q=>q.after.any fun e=>Region.binds .any e&&decide (e.on=i)
 | none=>false
theorem Left.later {listed:Array Bool} {a:Act} {w:World} {i j:Nat} (h:Left ops a0 C R listed a w) (hi:i∈Region.ready .any ops listed) (hb:waitsB ops j i=true):listed.getD j false=false:=by
 obtain ⟨hin,hil,_⟩:=zAt hi
 cases hj:listed.getD j false with
 | false=>rfl
 | true=>
   exfalso
   unfold waitsB at hb
   split at hb
   ·rename_i q hq
    rw [Array.any_eq_true'] at hb
    obtain ⟨e,he,h2⟩:=hb
    simp only [Bool.and_eq_true,decide_eq_true_eq] at h2
    have:=h.closed j q hq hj e he h2.1
    rw [h2.2,zAu (by rw [h.size];exact hin),hil] at this
    cases this
   ·cases hb
theorem step_wp {i:Nat} {o:Oper} {a:Act} {w:World} {K:Act→World→Prop} (ho:ops[i]?=some o) (hg:o.guard=none) (h:o.wp P a w K Q):wpOp P ops Q i K a w:=by
 unfold wpOp
 rw [ho]
 simp only
 rw [if_pos (by simp [Region.wanted,hg])]
 exact .inl h
def putAll (vs:Nat→Value):List Oper→Nat→Act→Act
 | [],_,a=>a
 | o::l,k,a=>putAll vs l (k+1) (a.put o.dst (vs k))
theorem zDr (vs:Nat→Value) : ∀ (l:List Oper) (k:Nat) (a:Act),(putAll vs l k a).defers=a.defers
 | [],_,_=>rfl
 | o::l,k,a=>by rw [putAll,zDr vs l,zBr]
theorem zEa (vs:Nat→Value) {t:Nat} : ∀ (l:List Oper) (k:Nat) (a:Act),(∀ o∈l,o.dst≠some t)→(putAll vs l k a).tmps[t]?=a.tmps[t]?
 | [],_,_,_=>rfl
 | o::l,k,a,h=>by rw [putAll,zEa vs l _ _ (fun q hq=>h q (by simp [hq])),put_at (h o (by simp))]
theorem putAll_new (vs:Nat→Value) {t:Nat} : ∀ (l:List Oper) (k:Nat) (a:Act) (i:Nat) (o:Oper),l[i]?=some o→o.dst=some t→t<a.tmps.size→(∀ j q,l[j]?=some q→q.dst=some t→j=i)→(putAll vs l k a).tmps[t]?=some (vs (k+i))
 | [],_,_,i,o,h,_,_,_=>by simp at h
 | q::l,k,a,0,o,h,ht,hlt,hu=>by
   simp only [List.getElem?_cons_zero,Option.some.injEq] at h
   subst h
   rw [putAll,zEa vs l]
   ·rw [ht];simp [Act.put,hlt]
   ·intro r hr hrt
    obtain ⟨j,hj⟩:=List.getElem?_of_mem hr
    have:=hu (j+1) r (by simpa using hj) hrt
    omega
 | q::l,k,a,i+1,o,h,ht,hlt,hu=>by
   rw [putAll,putAll_new vs l (k+1) _ i o (by simpa using h) ht (by rw [zDb];exact hlt) (fun j r hj hr=>by have:=hu (j+1) r (by simpa using hj) hr;omega)]
   congr 2
   omega
theorem act_ext {a b:Act} (h1:a.tmps=b.tmps) (h2:a.defers=b.defers):a=b:=by
 cases a;cases b;simp only at h1 h2;rw [h1,h2]
theorem Left.frame {l:List Oper} {listed:Array Bool} {a:Act} {w:World} (hd:apartB l.toArray=true) (hsz : ∀ (i:Nat) o (t:Nat),l.toArray[i]?=some o→o.dst=some t→t<a0.tmps.size)
 (h:Left l.toArray a0 C R listed a w) (hall : ∀ i,i<l.toArray.size→listed.getD i false=true) :
 ∃ vs:Nat→Value,a=putAll vs l 0 a0 ∧ ∀ (i:Nat) o (t:Nat),l[i]?=some o→o.dst=some t→R i (vs i) w:=by
 refine ⟨fun i=>match l[i]? with | some o=>(match o.dst with | some t=>a.tmps.getD t undef | none=>undef) | none=>undef,?_,?_⟩
 ·have h1:a.defers=(putAll (fun i=>match l[i]? with | some o=>(match o.dst with | some t=>a.tmps.getD t undef | none=>undef) | none=>undef) l 0 a0).defers:=by rw [zDr,h.defers]
  have h2:a.tmps=(putAll (fun i=>match l[i]? with | some o=>(match o.dst with | some t=>a.tmps.getD t undef | none=>undef) | none=>undef) l 0 a0).tmps:=by
   apply Array.ext_getElem?
   intro t
   by_cases ht : ∃ (i:Nat) (o:Oper),l[i]?=some o∧o.dst=some t
   ·obtain ⟨i,o,hl,hdst⟩:=ht
    have hla:l.toArray[i]?=some o:=by simpa using hl
    have hin:=(List.getElem?_eq_some_iff.1 hl).1
    obtain ⟨v,hv,_⟩:=h.new i o t hla (hall i (by simpa using hin)) hdst
    rw [putAll_new _ l 0 a0 i o hl hdst (hsz i o t hla hdst) (fun j q hj hq=>apart_spec hd (by simpa using hj) hla hq hdst),hv]
    simp [hl,hdst,Array.getD_eq_getD_getElem?,hv]
   ·rw [zEa _ l 0 a0 (fun o ho hdst=>by
     obtain ⟨i,hi⟩:=List.getElem?_of_mem ho
     exact ht ⟨i,o,hi,hdst⟩)]
    exact h.old t fun i o hl _ hdst=>ht ⟨i,o,by simpa using hl,hdst⟩
  exact act_ext h2 h1
 ·intro i o t hl hdst
  have hla:l.toArray[i]?=some o:=by simpa using hl
  have hin:=(List.getElem?_eq_some_iff.1 hl).1
  obtain ⟨v,hv,hR⟩:=h.new i o t hla (hall i (by simpa using hin)) hdst
  simp only [hl,hdst,Array.getD_eq_getD_getElem?,hv,Option.getD_some]
  exact hR
def sizesB (ops:Array Oper) (n:Nat):Bool:=ops.all fun o=>match o.dst with
 | some t=>decide (t<n)
 | none=>true
theorem zA7 {n:Nat} (h:sizesB ops n=true) (i:Nat) (o:Oper) (t:Nat) (ho:ops[i]?=some o) (hd:o.dst=some t):t<n:=by
 obtain ⟨hi,he⟩:=Array.getElem?_eq_some_iff.1 ho
 have:=Array.all_eq_true_iff_forall_mem.1 h o (by rw [←he];exact Array.getElem_mem hi)
 rw [hd] at this
 simpa using this
end
end
section
theorem zAk (a:Act) (t:Nat):a.tmps[t]?.getD undef=a.eval (.tmp t):=by simp [Act.eval]
theorem wp_val' {P:Program} {o:Oper} {a:Act} {w w':World} {v:Value} {K:Act→World→Prop} {Q:Exit→Act→World→Prop} (hrun:(execOp a.eval o).run P w = .ok (.value v) w') (hK:K (a.put o.dst v) w'):o.wp P a w K Q:=by
 unfold Oper.wp
 rw [hrun]
 exact hK
theorem wp_val {P:Program} {o:Oper} {a:Act} {w:World} {v:Value} {K:Act→World→Prop} {Q:Exit→Act→World→Prop} (hrun:(execOp a.eval o).run P w = .ok (.value v) w) (hK:K (a.put o.dst v) w):o.wp P a w K Q:=wp_val' hrun hK
section
variable {P:Program} {ops:Array Oper} {a0:Act} {C:Array Bool→World→Prop} {R:Nat→Value→World→Prop} {listed:Array Bool} {a:Act} {w:World} {i j k:Nat}
theorem Left.earlier (h:Left ops a0 C R listed a w) (hl:listed.getD j false=true) (hb:waitsB ops j k=true):listed.getD k false=true:=by
 unfold waitsB at hb
 split at hb
 ·rename_i q hq
  rw [Array.any_eq_true'] at hb
  obtain ⟨e,he,h2⟩:=hb
  simp only [Bool.and_eq_true,decide_eq_true_eq] at h2
  have:=h.closed j q hq hl e he h2.1
  rwa [h2.2] at this
 ·cases hb
theorem Left.later2 (h:Left ops a0 C R listed a w) (hl:listed.getD k false=false) (hb:waitsB ops j k=true):listed.getD j false=false:=by
 cases hj:listed.getD j false with
 | false=>rfl
 | true=>have:=h.earlier hj hb;rw [hl] at this;cases this
theorem Left.before (_:Left ops a0 C R listed a w) (hi:i∈Region.ready .any ops listed) (hb:waitsB ops i j=true):listed.getD j false=true:=by
 unfold waitsB at hb
 split at hb
 ·rename_i q hq
  rw [Array.any_eq_true'] at hb
  obtain ⟨e,he,h2⟩:=hb
  simp only [Bool.and_eq_true,decide_eq_true_eq] at h2
  have:=(zAt hi).2.2 q hq e he h2.1
  rwa [h2.2] at this
 ·cases hb
end
end
theorem zDR {P:Program} {w:World} {ops:Array Oper} {rest:List Oper} {a:Act} {Q:Exit→Act→World→Prop} {d:Option Tmp} {T rt:TypeId} {pos:String} {af:Array Edge} {fs:Array (Nat×Operand)} (vals:List (Nat×Value)) (cs:Array Value) (hb:P.built T vals=some cs)
 (hv:(fs.map fun (i,x)=>(i,a.eval x)).toList=vals) (h:wpList P ops Q rest (a.put d (.agg cs)) w):wpList P ops Q ({ dst:=d,op := .build T fs,type:=rt,pos:=pos,after:=af,guard:=none }::rest) a w:=
 wpList_plain rfl fun _ hK=>wp_build _ _ rfl (by rw [hv,hb];rfl) (by rw [hv,hb];exact hK _ _ h)
theorem zAL {P:Program} {w:World} {ops:Array Oper} {rest:List Oper} {a:Act} {Q:Exit→Act→World→Prop} {d:Option Tmp} {T rt:TypeId} {pos:String} {af:Array Edge} {i0:Nat} {x0:Operand} {v0:Value} {cs:Array Value} (hb:P.built T [(i0,v0)]=some cs)
 (h0:a.eval x0=v0) (h:wpList P ops Q rest (a.put d (.agg cs)) w):wpList P ops Q ({ dst:=d,op := .build T #[(i0,x0)],type:=rt,pos:=pos,after:=af,guard:=none }::rest) a w:=
 zDR [(i0,v0)] cs hb (by simp [h0]) h
theorem lit_build2 {P:Program} {w:World} {ops:Array Oper} {rest:List Oper} {a:Act} {Q:Exit→Act→World→Prop} {d:Option Tmp} {T rt:TypeId} {pos:String} {af:Array Edge} {i0 i1:Nat} {x0 x1:Operand} {v0 v1:Value} {cs:Array Value} (hb:P.built T [(i0,v0),(i1,v1)]=some cs)
 (h0:a.eval x0=v0) (h1:a.eval x1=v1) (h:wpList P ops Q rest (a.put d (.agg cs)) w):wpList P ops Q ({ dst:=d,op := .build T #[(i0,x0),(i1,x1)],type:=rt,pos:=pos,after:=af,guard:=none }::rest) a w:=
 zDR [(i0,v0),(i1,v1)] cs hb (by simp [h0,h1]) h
theorem lit_build3 {P:Program} {w:World} {ops:Array Oper} {rest:List Oper} {a:Act} {Q:Exit→Act→World→Prop} {d:Option Tmp} {T rt:TypeId} {pos:String} {af:Array Edge} {i0 i1 i2:Nat} {x0 x1 x2:Operand} {v0 v1 v2:Value} {cs:Array Value} (hb:P.built T [(i0,v0),(i1,v1),(i2,v2)]=some cs)
 (h0:a.eval x0=v0) (h1:a.eval x1=v1) (h2:a.eval x2=v2) (h:wpList P ops Q rest (a.put d (.agg cs)) w):wpList P ops Q ({ dst:=d,op := .build T #[(i0,x0),(i1,x1),(i2,x2)],type:=rt,pos:=pos,after:=af,guard:=none }::rest) a w:=
 zDR [(i0,v0),(i1,v1),(i2,v2)] cs hb (by simp [h0,h1,h2]) h
theorem zC2 {P:Program} {w:World} {ops:Array Oper} {rest:List Oper} {a:Act} {Q:Exit→Act→World→Prop} {d:Option Tmp} {T rt:TypeId} {pos:String} {af:Array Edge} {i0 i1 i2 i3:Nat} {x0 x1 x2 x3:Operand} {v0 v1 v2 v3:Value} {cs:Array Value} (hb:P.built T [(i0,v0),(i1,v1),(i2,v2),(i3,v3)]=some cs)
 (h0:a.eval x0=v0) (h1:a.eval x1=v1) (h2:a.eval x2=v2) (h3:a.eval x3=v3) (h:wpList P ops Q rest (a.put d (.agg cs)) w):wpList P ops Q ({ dst:=d,op := .build T #[(i0,x0),(i1,x1),(i2,x2),(i3,x3)],type:=rt,pos:=pos,after:=af,guard:=none }::rest) a w:=
 zDR [(i0,v0),(i1,v1),(i2,v2),(i3,v3)] cs hb (by simp [h0,h1,h2,h3]) h
theorem zAC {P:Program} {w:World} {ops:Array Oper} {rest:List Oper} {a:Act} {Q:Exit→Act→World→Prop} {d:Option Tmp} {rt:TypeId} {pos:String} {af:Array Edge} (x:Operand) {t e:TypeId} {z:Value} {size bytes:Nat} (hT:SliceTy P t e z size bytes) (cs:Array Value) (hcs:cs.size=size) (hsm:size≤1000) (hx:a.eval x = .agg cs)
 (h:wpList P ops Q rest (a.put d (.slice (some ⟨w.heap.size,0,none⟩) 1 1)) (w.alloc (.cells cs e))) :
 wpList P ops Q ({ dst:=d,op := .buildSlice t 1 #[(0,x)],type:=rt,pos:=pos,after:=af,guard:=none }::rest) a w:=
 wpList_plain rfl fun _ hK=>by
  have e1:((#[(0,x)]:Array (Nat×Operand)).map fun (i,x)=>(i,a.eval x)) = #[(0, .agg cs)]:=by simp [hx]
  have hrun:(Instr.buildSlice t 1 #[(0, .agg cs)]).run P w = .ok (.slice (some ⟨w.heap.size,0,none⟩) 1 1) (w.alloc (.cells cs e)):=by
   obtain ⟨it,hi,hz,hs,hb⟩:=hT.hi
   have h0:=hT.hsz
   refine run_buildSlice w _ _ 1 _ _ it _ hT.ht hi hz (by rw [hs];omega) (by rw [hs];omega) ?_
   rw [hs]
   have:=Great.fill_whole (s:=size) (by omega) [Value.agg cs] ((Array.range (1*size)).map (z.cells[· % z.cells.size]!)) (by
    intro v hv
    simp at hv
    subst hv
    exact hcs) (by simp)
   simpa [Value.cells] using this
  unfold Oper.wp execOp
  simp only [Sem.run_bind,e1,hrun,Result.andThen_ok]
  exact hK _ _ h
theorem zAp {P:Program} {ops:Array Oper} {rest:List Oper} {a:Act} {W:World} {Q:Exit→Act→World→Prop} {d:Option Tmp} {rt:TypeId} {pos:String} {af:Array Edge}
 (s x:Operand) (c:Nat) (t:TypeId) {e:TypeId} {z:Value} {size bytes:Nat} (hT:SliceTy P t e z size bytes) {base n:Nat} {v:Value} {xs:List Value} (hown:W.ownsRow base e size v n xs)
 (cs:Array Value) {t':TypeId} (hl:cs.size=1*size) (h1 : ∀ u∈cs.toList,u.oneCell'=true) (h63:n+1≤9223372036854775807) (hbytes:(n+1)*bytes≤140737488355328) (hbase:base≤W.heap.size)
 (hs:a.eval s=v) (hx:a.eval x = .slice (some ⟨W.heap.size,0,none⟩) 1 c)
 (h : ∀ v' w',w'.ownsRow base e size v' (n+1) (xs++cs.toList)→Below base W w'→W.grownBy w' v.ownBlock→Newer W v v'→wpList P ops Q rest (a.put d v') w') :
 wpList P ops Q ({ dst:=d,op := .call { callee := .builtin .append,args := #[s,x],argTypes := #[t,t] },type:=rt,pos:=pos,after:=af,guard:=none }::rest) a (W.alloc (.cells cs t')):=by
 have hb0:Below W.heap.size W (W.alloc (.cells cs t')):=(Below.refl _ _).alloc (Nat.le_refl _) _
 have hown':=zAf hown hb0
 refine zCF s x c t hT hown' (Blk.new W t' cs) hl h1 h63 hbytes (Nat.le_trans hbase hb0.size) hs hx ?_
 intro v' w' ho hg hn
 have hbel:Below base W w':=(hb0.mono hbase).grown hg (Nat.le_trans hbase hb0.size) (fun k hk=>(World.ownsRow.lt hown' k hk).1)
 have hg':W.grownBy w' v.ownBlock:=⟨hbel.os,hbel.tape,hbel.output,hbel.size,fun k hk hne=>(hg.block k (Nat.lt_of_lt_of_le hk hb0.size) hne).trans (hb0.block k hk)⟩
 exact h v' w' ho hbel hg' ((Newer.refl W v).then_ hn hb0.size)
end Go.Proofs.YtbhdfaadedlcfaaGreatDoor
