/- Texts of this claim, laid together: Base, Post, Txt, VarintP, Varint, Quiet, Inv, InvW, Own, Elem, Rowk, Id, Far, LitB, Stage, InvA. -/
import Derived.Test.YtodebknbchaccaaGreatDoorProg
import Derived.Test.YtodebknbchaccaaGreatDoorRows
import Derived.WalkKit
import Derived.WalkSpells
import Derived.WalkLawsBesides
import Derived.Lib.Hide
import Derived.Lib.AppendStr
import Derived.Deep.AppendLies
import Derived.Deep.Draws
import Derived.Deep.QuietTactic
import Derived.BigQuiet
import Derived.BigGuardPart
import Derived.Deep.DeepMust
import Derived.ProofKit
import Derived.ChangeSame
import Derived.Deep.Slices
import Derived.Deep.Fields
import Derived.Below
import Derived.Deep.Quiet
import Derived.Deep.MidRow
import Derived.Orders
import Derived.Deep.RegionLaw
import Derived.Lib.AppendZerosOnto
import Derived.ChangeKeysEq
import Derived.Laws.Tables
import Derived.Maps.AppendAt
import Derived.Great.BuildSlice
namespace Go.Proofs.YtodebknbchaccaaGreatDoor
open Go.RowKit
theorem zA {α : Type} (l : List α) (i : Nat) (a : α) : l.toArray.setIfInBounds i a = (l.set i a).toArray := List.setIfInBounds_toArray ..
theorem zB {α : Type} {a : α} {l : List α} {b : α} : (a :: l).set 0 b = b :: l := rfl
theorem zC {α : Type} {a : α} {l : List α} {i : Nat} {b : α} : (a :: l).set (i + 1) b = a :: l.set i b := rfl
section
def B (l:List UInt8):ByteArray:=⟨l.toArray⟩
theorem size_B (l:List UInt8):(B l).size=l.length:=rfl
theorem toList_B (l:List UInt8):(B l).toList=l:=ByteArray.toList_mk l
theorem getElem_B (l:List UInt8) (i:Nat) (h:i<(B l).size):(B l)[i]'h=l[i]'(by rw [size_B] at h;exact h):=rfl
theorem append_B (a b:List UInt8):B a++B b=B (a++b):=ByteArray.mk_append_mk a b
theorem zAR (l:List UInt8) (a b:Nat):(B l).extract a b=B ((l.drop a).take (b-a)):=ByteArray.extract_mk l a b
theorem zB5 (l:List UInt8) (a:Nat):(B l).extract a l.length=B (l.drop a):=by
 rw [zAR,List.take_of_length_le (by simp)]
theorem zCy (l:List UInt8) (b:Nat):(B l).extract 0 b=B (l.take b):=by
 rw [zAR];simp
theorem append_B_mk (a b:List UInt8):B a++ByteArray.mk b.toArray=B (a++b):=append_B a b
theorem append_mk_B (a b:List UInt8):ByteArray.mk a.toArray++B b=B (a++b):=append_B a b
theorem B_mk (s:ByteArray) : ∃ l,s=B l:=⟨s.data.toList,rfl⟩
theorem take_drop_all (l:List UInt8) (a:Nat):(l.drop a).take (l.length-a)=l.drop a:=List.take_of_length_le (by simp)
attribute [go_sem] size_B toList_B getElem_B append_B zAR take_drop_all append_B_mk append_mk_B
def strOf : Value→List UInt8 | .string s=>s.data.toList | _=>[]
theorem strOf_B (l:List UInt8):strOf (.string (B l))=l:=rfl
def u8v (c:UInt8):Value := .int .u8 c.toNat
theorem u8v_one (l:List UInt8) : ∀ u∈l.map u8v,u.oneCell'=true:=by
 intro u hu
 simp only [List.mem_map] at hu
 obtain ⟨b,_,rfl⟩:=hu
 rfl
theorem strCells_B (l:List UInt8):Lib.strCells (B l)=l.map u8v:=by
 simp [Lib.strCells,B,u8v]
structure SliceTy (P:Program) (t e:TypeId) (z:Value) (size bytes:Nat):Prop where
 ht:P.underlying t=some (.slice e)
 hi : ∃ i,P.info? e=some i∧i.zero=some z∧i.size=size∧i.bytes=bytes
 hzs:z.cells.size=size
 hsz:0<size
def OwnB (w:World) (base:Nat) (e:TypeId) (v:Value) (l:List UInt8):Prop:=w.ownsRow base e 1 v l.length (l.map u8v)
theorem OwnB.nil (w:World) (base:Nat) (e:TypeId):OwnB w base e (.slice none 0 0) []:=World.ownsRow_nil w base e 1
theorem OwnB.alloc {w:World} {base:Nat} {e:TypeId} {v:Value} {l:List UInt8} (h:OwnB w base e v l) (o:Obj):OwnB (w.alloc o) base e v l:=World.ownsRow.alloc h o
theorem OwnB.drew {w:World} {base:Nat} {e:TypeId} {v:Value} {l:List UInt8} (h:OwnB w base e v l):OwnB w.drew base e v l:=h
theorem OwnB.drewN {w:World} {base:Nat} {e:TypeId} {v:Value} {l:List UInt8} (h:OwnB w base e v l) (n:Nat):OwnB (w.drewN n) base e v l:=h
theorem OwnB.lt {w:World} {base:Nat} {e:TypeId} {v:Value} {l:List UInt8} (h:OwnB w base e v l) : ∀ k,v.ownBlock=some k→base≤k∧k<w.heap.size:=World.ownsRow.lt h
theorem OwnB.kept {w w':World} {base:Nat} {e:TypeId} {v:Value} {l:List UInt8} {row:Option Nat} (h:OwnB w base e v l) (hg:w.grownBy w' row) (hne:v.ownBlock=none∨v.ownBlock≠row):OwnB w' base e v l:=World.ownsRow.kept h hg hne
theorem OwnB.below {w w':World} {base:Nat} {e:TypeId} {v:Value} {l:List UInt8} (h:OwnB w base e v l) (hb:Below w.heap.size w w'):OwnB w' base e v l:=
 h.kept (row:=none) ⟨hb.os,hb.tape,hb.output,hb.size,fun k hk _=>hb.block k hk⟩ (by
  cases hv:v.ownBlock with
  | none=>exact .inl rfl
  | some k=>exact .inr (by simp))
theorem OwnB.form {w:World} {base:Nat} {e:TypeId} {v:Value} {l:List UInt8} (h:OwnB w base e v l):(v = .slice none 0 0∧l=[]) ∨ ∃ g cap,v = .slice (some ⟨g,0,none⟩) l.length cap∧base≤g∧g<w.heap.size∧l.length≤cap:=by
 rcases h.2 with ⟨h1,h2⟩ | ⟨g,cap,cur,h1,h2,h3,h4,_⟩
 ·exact .inl ⟨h1,List.eq_nil_of_length_eq_zero h2⟩
 ·refine .inr ⟨g,cap,h1,h2,?_,h4⟩
  rcases Nat.lt_or_ge g w.heap.size with hlt | hge
  ·exact hlt
  ·rw [Array.getElem?_eq_none hge] at h3;cases h3
theorem OwnB.form' {w:World} {base:Nat} {e:TypeId} {v:Value} {l:List UInt8} (h:OwnB w base e v l) : ∃ A cap,v = .slice A l.length cap:=by
 rcases h.form with ⟨rfl,rfl⟩ | ⟨g,cap,rfl,_⟩
 ·exact ⟨_,_,rfl⟩
 ·exact ⟨_,_,rfl⟩
theorem OwnB.cell {w:World} {base:Nat} {e:TypeId} {A:Option Addr} {n cap:Nat} {l:List UInt8} (h:OwnB w base e (.slice A n cap) l) {j:Nat} (hj:j<l.length) :
 ∃ g,A=some ⟨g,0,none⟩∧n=l.length∧g<w.heap.size∧w.cell? ⟨g,j,none⟩=some (.int .u8 (l[j]'hj).toNat):=by
 rcases h.form with ⟨_,rfl⟩ | ⟨g,cap',hv,_,hg,_⟩
 ·simp at hj
 ·injection hv with h1 h2 h3
  subst h1 h2 h3
  refine ⟨g,rfl,rfl,hg,?_⟩
  have:=World.ownsRow.cellAt (h:w.ownsRow base e 1 _ _ _) j (by simpa using hj)
  rw [this,List.getElem?_map,List.getElem?_eq_getElem hj]
  rfl
theorem OwnB.one {w:World} {base:Nat} {e:TypeId} (hb:base≤w.heap.size) (c:UInt8):OwnB (w.alloc (.cells #[u8v c] e)) base e (.slice (some ⟨w.heap.size,0,none⟩) 1 1) [c]:=
 World.ownsRow_lit (size:=1) w #[u8v c] 1 hb (by simp [maxLen]) rfl
theorem zBy (n:Nat) (h:n<256):(UInt8.ofNat n).toNat=n:=by
 simp [Nat.mod_eq_of_lt h]
theorem cell_new1 (w:World) (u:Value) (t:TypeId):(w.alloc (.cells #[u] t)).cell? ⟨w.heap.size,0,none⟩=some u:=by
 rw [World.cell?_alloc_new];rfl
theorem ofNat_add_u8 (a b:Nat):UInt8.ofNat (a+b)=UInt8.ofNat a+UInt8.ofNat b:=by simp
theorem zCe (n:Nat) (h:n<256):u8v (UInt8.ofNat n) = .int .u8 n:=by rw [u8v,zBy n h]
section
variable {P:Program}
theorem zDG (w:World) (t e d:TypeId) (ht:P.underlying t=some (.slice e)) (he:P.underlying e=some (.int .u8)) (hd:P.underlying d=some .string)
 {base:Nat} {v:Value} {l:List UInt8} (h:OwnB w base e v l):(convert t d v).run P w = .ok (.string (B l)) w:=by
 rcases h.form with ⟨rfl,rfl⟩ | ⟨g,cap,rfl,_,hg,_⟩
 ·exact run_convert_bytes_nil w t e ht he 0 0 d hd
 ·rw [run_convert_bytes_arg w t e ht he g 0 l.length cap (l.map fun c=>(c.toNat:Int)) (by simp) (fun i hi=>by
   obtain ⟨g',h1,_,_,h4⟩:=OwnB.cell h hi
   injection h1 with h1
   injection h1 with h1
   subst h1
   rw [Nat.zero_add,h4]
   simp [List.getD,List.getElem?_map,List.getElem?_eq_getElem hi]) d hd]
  have hl:(l.map fun c=>(c.toNat:Int)).map (fun n=>UInt8.ofNat n.toNat)=l:=by
   rw [List.map_map]
   exact (List.map_congr_left (g:=id) (fun c _=>by simp)).trans (List.map_id l)
  rw [strOfNums,hl]
  rfl
theorem zDu {w:World} {ops:Array Oper} {rest:List Oper} {o:Oper} {a:Act} {Q:Exit→Act→World→Prop} (hgd:o.guard=none) (s x:Operand) (t:TypeId)
 (ho:o.op = .call { callee := .builtin .append,args := #[s,x],argTypes := #[t,t] })
 (e:TypeId) (hT:SliceTy P t e (.int .u8 0) 1 1) (base:Nat) (v:Value) (l:List UInt8) (hs:a.eval s=v) (hown:OwnB w base e v l)
 (k:Nat) (n:Int) (hx:a.eval x = .slice (some ⟨k,0,none⟩) 1 1) (hcell:w.cell? ⟨k,0,none⟩=some (.int .u8 n)) (hn0:0≤n) (hn1:n<256) (hlen:l.length≤70368744177664)
 (w0:World) (hb:Below base w0 w) (hbase:base≤w.heap.size)
 (h : ∀ v' w',OwnB w' base e v' (l++[UInt8.ofNat n.toNat])→Below base w0 w'→w.grownBy w' v.ownBlock→wpList P ops Q rest (a.put o.dst v') w'):wpList P ops Q (o::rest) a w:=by
 have hc:((UInt8.ofNat n.toNat).toNat:Int)=n:=by rw [zBy _ (by omega)];omega
 generalize UInt8.ofNat n.toNat=c at hc h
 obtain ⟨i,h1,h2,h3,h4⟩:=hT.hi
 refine wpList_append_own w hgd s x t ho base e i (.int .u8 0) 1 1 hT.ht h1 h2 h3 h4 rfl (by omega) v l.length (l.map u8v) hs hown ⟨k,0,none⟩ 1 1 [u8v c] hx rfl ?_ (by simp [u8v];rfl)
  (by simp only [maxLen];omega) (by omega) hbase ?_
 ·intro j u hu
  match j,hu with
  | 0,hu=>
    injection hu with hu
    subst hu
    rw [u8v,hc]
    exact hcell
 ·intro v' w' hown' hg _
  refine h v' w' ?_ (hb.grown hg hbase (fun k hk=>(hown.lt k hk).1)) hg
  simpa [OwnB] using hown'
theorem zCW {w:World} {ops:Array Oper} {rest:List Oper} {o:Oper} {a:Act} {Q:Exit→Act→World→Prop} (hgd:o.guard=none) (s x:Operand) (t u:TypeId)
 (ho:o.op = .call { callee := .builtin .append,args := #[s,x],argTypes := #[t,u] })
 (e:TypeId) (hT:SliceTy P t e (.int .u8 0) 1 1) (hu:P.underlying u=some .string) (base:Nat) (v:Value) (l:List UInt8) (hs:a.eval s=v) (hown:OwnB w base e v l)
 (m:List UInt8) (hx:a.eval x = .string (B m)) (hlen:l.length+m.length≤70368744177664)
 (w0:World) (hb:Below base w0 w) (hbase:base≤w.heap.size)
 (h : ∀ v' w',OwnB w' base e v' (l++m)→Below base w0 w'→w.grownBy w' v.ownBlock→wpList P ops Q rest (a.put o.dst v') w'):wpList P ops Q (o::rest) a w:=by
 obtain ⟨i,h1,h2,h3,h4⟩:=hT.hi
 refine Lib.wpList_append_own_string w hgd s x t u ho base e i hT.ht hu h1 h2 h3 h4 v l.length (l.map u8v) hs hown (B m) hx
  (by rw [size_B];simp only [maxLen];omega) (by rw [size_B];omega) hbase ?_
 intro v' w' hown' hg _
 refine h v' w' ?_ (hb.grown hg hbase (fun k hk=>(hown.lt k hk).1)) hg
 rw [strCells_B,size_B] at hown'
 simpa [OwnB] using hown'
end
def Blk (w:World) (g:Nat) (t:TypeId) (cs:Array Value):Prop:=w.heap[g]?=some (.cells cs t (0,0))
section
variable {w w':World} {g:Nat} {t:TypeId} {cs:Array Value}
theorem Blk.lt (h:Blk w g t cs):g<w.heap.size:=by
 rcases Nat.lt_or_ge g w.heap.size with hlt | hge
 ·exact hlt
 ·unfold Blk at h;rw [Array.getElem?_eq_none hge] at h;cases h
theorem Blk.cell (h:Blk w g t cs) (i:Nat):w.cell? ⟨g,i,none⟩=cs[i]?:=cell_of_row w g i cs t (0,0) h
theorem Blk.frozen (h:Blk w g t cs) (i:Nat):w.frozen? ⟨g,i,none⟩=false:=by
 unfold Blk at h
 simp [World.frozen?,h]
theorem Blk.new (w:World) (t:TypeId) (cs:Array Value):Blk (w.alloc (.cells cs t)) w.heap.size t cs:=heap_alloc_new w _
theorem Blk.drew (h:Blk w g t cs):Blk w.drew g t cs:=h
theorem Blk.drewN (h:Blk w g t cs) (n:Nat):Blk (w.drewN n) g t cs:=h
theorem Blk.alloc (h:Blk w g t cs) (o:Obj):Blk (w.alloc o) g t cs:=(Below.heap_alloc w o g h.lt).trans h
theorem Blk.set_ (h:Blk w g t cs) (i:Nat) (u:Value):Blk (w.setCell ⟨g,i,none⟩ u) g t (cs.setIfInBounds i u):=by
 unfold Blk at h ⊢
 simp [World.setCell,Array.getElem?_modify,h]
theorem Blk.far (h:Blk w g t cs) {p:Addr} (hp:g≠p.block) (u:Value):Blk (w.setCell p u) g t cs:=(Below.heap_setCell w p u g hp).trans h
theorem Blk.below {B0:Nat} (h:Blk w g t cs) (hb:Below B0 w w') (hg:g<B0):Blk w' g t cs:=(hb.block g hg).trans h
theorem Blk.grown {row:Option Nat} (h:Blk w g t cs) (hb:w.grownBy w' row) (hg:some g≠row):Blk w' g t cs:=(hb.block g h.lt hg).trans h
theorem Blk.ne_ {g':Nat} {t':TypeId} {cs':Array Value} (h:Blk w g t cs) (h':Blk w g' t' cs') (hne:t≠t'):g≠g':=by
 rintro rfl
 unfold Blk at h h'
 rw [h] at h'
 injection h' with h'
 injection h' with _ ht
 exact hne ht
theorem zAD {base:Nat} {e:TypeId} {size n:Nat} {v:Value} {xs:List Value} (h:w.ownsRow base e size v n xs) (hg:Blk w g t cs) (hne:e≠t):some g≠v.ownBlock:=by
 rcases h.2 with ⟨rfl,_⟩ | ⟨g',cap,cur,rfl,_,hh,_⟩
 ·simp [Value.ownBlock]
 ·intro he
  have:g'=g:=by simpa [Value.ownBlock] using he.symm
  subst this
  exact Blk.ne_ (t:=e) hh hg hne rfl
end
theorem bdrewN {B0:Nat} {a w:World} (h:Below B0 a w) (n:Nat):Below B0 a (w.drewN n):=⟨h.os,h.tape,h.output,h.size,h.block⟩
theorem bthen {a b c:World} {B0:Nat} (h:Below B0 a b) (hB:B0≤b.heap.size) (k:Below b.heap.size b c):Below B0 a c:=h.trans (k.mono hB)
theorem Tryz.bytesTy : SliceTy Tryz.prog 24 5 (.int .u8 0) 1 1:=⟨Tryz.underlying24,info_parts (by kernel_rfl),rfl,by omega⟩
theorem Tryz.str_of_own (w:World) {base:Nat} {v:Value} {l:List UInt8} (h:OwnB w base 5 v l):(convert 24 9 v).run Tryz.prog w = .ok (.string (B l)) w:=
 zDG w 24 5 9 Tryz.underlying24 Tryz.underlying5 Tryz.underlying9 h
theorem Tryz.str_of_one (w:World) (x:Int):(convert 24 9 (.slice (some ⟨w.heap.size,0,none⟩) 1 1)).run Tryz.prog (w.alloc (.cells #[.int .u8 x] 5)) =
 .ok (.string (B [UInt8.ofNat x.toNat])) (w.alloc (.cells #[.int .u8 x] 5)):=by
 rw [run_convert_bytes_arg _ 24 5 Tryz.underlying24 Tryz.underlying5 w.heap.size 0 1 1 [x] rfl (fun i hi=>by
  have:i=0:=by omega
  subst this
  rw [World.cell?_alloc_new];rfl) 9 Tryz.underlying9]
 rfl
theorem Tryz.str_of_oneAt (w:World) (k:Nat) (x:Int) (h:k=w.heap.size):(convert 24 9 (.slice (some ⟨k,0,none⟩) 1 1)).run Tryz.prog (w.alloc (.cells #[.int .u8 x] 5)) =
 .ok (.string (B [UInt8.ofNat x.toNat])) (w.alloc (.cells #[.int .u8 x] 5)):=by
 subst h
 exact Tryz.str_of_one w x
end
end Go.Proofs.YtodebknbchaccaaGreatDoor
namespace Go.Proofs.YtodebknbchaccaaGreatDoor
open Go.RowKit Go.WideShapes Go.ChangeShapes Go.ChangeAt
section
variable {H:Type} {enc:TypeId×Value→H} {P:Program}
theorem post_of_below {f:Func} {s:ChangeSpec} {apart fresh handsOn again:Bool} {W W':World} {args:Array Value} {v:Value} {ds gs:List (DataW H)} {before pa pv:List MemPlace}
 (hW:DataW.Whole enc P f.params.toList s.vars apart W args.toList ds gs before)
 (hres : ∀ (b:Nat) (sp:Nat→Bool) (hd:Bool),DataW.TrodAll enc P W' b sp hd f.resultTypes.toList (v.resultList f.resultTypes.size) (s.fn H (ds++gs)).results [])
 (hargs : ∀ sp:Nat→Bool,(∀ p∈before,sp p.block=true)→DataW.TrodAll enc P W' 0 sp true f.params.toList args.toList (s.fn H (ds++gs)).args pa)
 (hvars : ∀ sp:Nat→Bool,(∀ p∈before,sp p.block=true)→DataW.TrodVars enc P W' sp s.vars (s.fn H (ds++gs)).vars pv)
 (hps:before=pa++pv) (hb:Below W.heap.size W W')
 (hok : ∀ (j:Nat) (t:TypeId) (r:Value),f.resultTypes[j]?=some t→(v.resultList f.resultTypes.size)[j]?=some r→Value.okWide P W' .any 0 t r) :
 s.post enc P f apart fresh handsOn again W args v W':=by
 have hlt : ∀ p∈before,p.block<W.heap.size:=fun p hp=>hW.lt p hp
 have hold : ∀ p∈before,(fun b=>decide (b<W.heap.size)) p.block=true:=fun p hp=>by simpa using hlt p hp
 refine ⟨ds,gs,before,[],pa,pv,hW,hres _ _ _,hargs _ hold,hvars _ hold,World.keptBut_mono (fun p hp=>⟨hp,?_⟩) (hb.frame (· ∈ before)),fun _=>?_⟩
 ·rw [hps,List.mem_append] at hp
  exact Or.inr hp
 ·obtain ⟨_,_,_,_,_,hz,hn⟩:=hW
  refine ⟨hok,_,_,([]++pa)++pv,⟨[]++pa,pv,trodAll_append (hargs _ (fun _ _=>rfl)) (hres _ _ _),hvars _ (fun _ _=>rfl),rfl,?_,?_⟩,?_⟩
  ·intro b off hp
   have hin:MemPlace.cell b off∈before:=by rw [hps];simpa using hp
   rw [hb.frozen (hlt _ hin)]
   exact hz b off hin
  ·intro ha
   have:=hn ha
   rw [hps] at this
   simpa using this
  ·intro p hp _
   rw [hps]
   simpa using hp
end
section
variable {H:Type} {enc:TypeId×Value→H} {P:Program}
theorem zDe (hl:laidOutB P=true) {W W':World} {sp':Nat→Bool} (hb:Below W.heap.size W W') :
 ∀ (ts:List TypeId) (vs:List Value) (ds:List (DataW H)) (ps:List MemPlace),(ts.all fun t=>P.readableRec t&&decide (t<P.types.size))=true →
  DataW.TrodAll enc P W 0 (fun _=>true) true ts vs ds ps→(∀ p∈ps,p.block<W.heap.size)→(∀ p∈ps,sp' p.block=true)→DataW.TrodAll enc P W' 0 sp' true ts vs ds ps
 | [],[],[],_,_,h,_,_=>h
 | t::ts,v::vs,d::ds,ps,hr,h,hlt,hs=>by
   obtain ⟨p,q,h1,h2,rfl⟩:=h
   simp only [List.all_cons,Bool.and_eq_true,decide_eq_true_eq] at hr
   exact ⟨p,q,WideElems.Trod_stays hl hr.1.1 hr.1.2 h1 (fun x hx=>hb.same (hlt x (List.mem_append_left _ hx))) (fun x hx=>hs x (List.mem_append_left _ hx)),
    zDe hl hb ts vs ds q hr.2 h2 (fun x hx=>hlt x (List.mem_append_right _ hx)) (fun x hx=>hs x (List.mem_append_right _ hx)),rfl⟩
 | [],[],_::_,_,_,h,_,_=>h
 | [],_::_,[],_,_,h,_,_=>h
 | [],_::_,_::_,_,_,h,_,_=>h
 | _::_,[],[],_,_,h,_,_=>h
 | _::_,[],_::_,_,_,h,_,_=>h
 | _::_,_::_,[],_,_,h,_,_=>h
theorem post_law {f:Func} {s:ChangeSpec} {T:TypeId} {apart fresh handsOn again:Bool} {W W':World} {args:Array Value} {ds:List (DataW H)} {before:List MemPlace}
 (hl:laidOutB P=true) (hR:(f.params.toList.all fun t=>P.readableRec t&&decide (t<P.types.size))=true) (hres:f.resultTypes = #[T]) (hT:P.underlying T=some .bool) (hvars:s.vars=[])
 (hfn:(s.fn H (ds++[])).results=[.lit (.bool true)]∧(s.fn H (ds++[])).args=ds∧(s.fn H (ds++[])).vars=[]) (hW:DataW.Whole enc P f.params.toList s.vars apart W args.toList ds [] before) (hb:Below W.heap.size W W') :
 s.post enc P f apart fresh handsOn again W args (.bool true) W':=by
 have hW':=hW
 obtain ⟨p,q,hA,hV,hpq,hfz,hnd⟩:=hW
 rw [hvars] at hV
 have hq:q=[]:=hV
 subst hq
 rw [List.append_nil] at hpq
 subst hpq
 have hlt : ∀ x∈before,x.block<W.heap.size:=fun x hx=>hW'.lt x hx
 refine post_of_below (pa:=before) (pv:=[]) hW' ?_ ?_ ?_ (by simp) hb ?_
 ·intro b sp hd
  rw [hfn.1,hres]
  exact trodAll_mk1 (shut_bool hT _)
 ·intro sp hsp
  rw [hfn.2.1]
  exact zDe hl hb _ _ _ _ hR hA hlt hsp
 ·intro sp hsp
  rw [hfn.2.2,hvars]
  rfl
 ·exact ok_one hres rfl (okWide_bool_mk hT _)
end
section
variable {H:Type} {enc:TypeId×Value→H} {P:Program} {w:World} {base:Nat} {spare:Nat→Bool} {held:Bool}
end
theorem addr_form {w:World} {a:Addr} {v:Value} (h:w.cell? a=some v):a=⟨a.block,a.off,none⟩∧a.block<w.heap.size:=by
 refine ⟨?_,World.block_lt_of_cell? w a h⟩
 obtain ⟨b,o,s⟩:=a
 cases s with
 | none=>rfl
 | some k=>
   unfold World.cell? at h
   simp only [Option.isSome_some,if_true] at h
   split at h<;>cases h
theorem addr_add (b o k:Nat):(⟨b,o,none⟩:Addr).add k=⟨b,o+k,none⟩:=by
 unfold Addr.add
 split<;>simp_all
theorem list_of {α:Type} (n:Nat) (p:Nat→α→Prop) (h : ∀ i,i<n → ∃ x,p i x) : ∃ l:List α,l.length=n ∧ ∀ (i:Nat) (hi:i<l.length),p i l[i]:=by
 induction n with
 | zero=>exact ⟨[],rfl,fun i hi=>absurd hi (by simp)⟩
 | succ n ih=>
   obtain ⟨l,h1,h2⟩:=ih fun i hi=>h i (by omega)
   obtain ⟨x,hx⟩:=h n (by omega)
   refine ⟨l++[x],by simp [h1],fun i hi=>?_⟩
   rcases Nat.lt_or_ge i l.length with hl | hl
   ·rw [List.getElem_append_left hl];exact h2 i hl
   ·have hi':i<l.length+1:=by simpa using hi
    obtain rfl:i=l.length:=by omega
    rw [List.getElem_concat_length]
    ·rw [h1];exact hx
    ·rfl
theorem bounds_i64 {n:Int} (h:(Lit.int .i64 n).wf=true) : -9223372036854775808≤n∧n≤9223372036854775807:=by
 simp [Lit.wf,IntKind.min,IntKind.max,IntKind.signed,IntKind.bits] at h;omega
theorem zB6 {n:Int} (h:(Lit.int .u8 n).wf=true):0≤n∧n<256:=by
 simp [Lit.wf,IntKind.min,IntKind.max,IntKind.signed,IntKind.bits] at h;omega
theorem bounds_u16 {n:Int} (h:(Lit.int .u16 n).wf=true):0≤n∧n<65536:=by
 simp [Lit.wf,IntKind.min,IntKind.max,IntKind.signed,IntKind.bits] at h;omega
theorem Tryz.laidOut : laidOutB Tryz.prog=true:=by kernel_rfl
theorem Tryz.own : ownKnob Tryz.prog.godebug=none:=by kernel_rfl
end Go.Proofs.YtodebknbchaccaaGreatDoor
namespace Go.Proofs.YtodebknbchaccaaGreatDoor
abbrev Txt := List UInt8
end Go.Proofs.YtodebknbchaccaaGreatDoor
namespace Go.Proofs.YtodebknbchaccaaGreatDoor
open Go.RowKit
def putF : Nat→Nat→List UInt8
 | 0,n=>[UInt8.ofNat n]
 | f+1,n=>if n<128 then [UInt8.ofNat n] else UInt8.ofNat (128+n%128)::putF f (n / 128)
def put (n:Nat):List UInt8:=putF 9 n
theorem zBu (f n:Nat) (h:n<128):putF f n=[UInt8.ofNat n]:=by cases f<;>simp [putF,h]
theorem zDm (f n:Nat) (h:128≤n):putF (f+1) n=UInt8.ofNat (128+n%128)::putF f (n / 128):=by rw [putF,if_neg (by omega)]
theorem putF_length (f n:Nat):(putF f n).length≤f+1:=by
 induction f generalizing n with
 | zero=>simp [putF]
 | succ f ih=>
   rw [putF]
   split
   ·simp
   ·simp only [List.length_cons];have:=ih (n / 128);omega
theorem zAn (n:Nat):(put n).length≤10:=putF_length 9 n
theorem putF_pos (f n:Nat):0<(putF f n).length:=by
 cases f with
 | zero=>simp [putF]
 | succ f=>rw [putF];split<;>simp
def Fits (f k:Nat):Prop:=k<2 ^ (7*f+1)
theorem Fits.of64 {n:Nat} (h:n≤18446744073709551615):Fits 9 n:=by unfold Fits;omega
theorem Fits.le {f n:Nat} (h:Fits f n) (hf:f≤9):n≤18446744073709551615:=by
 have h1:n<2 ^ (7*f+1):=h
 have h2:2 ^ (7*f+1)≤2 ^ 64:=Nat.pow_le_pow_right (by omega) (by omega)
 omega
theorem Fits.zero {k:Nat} (h:Fits 0 k):k<128:=by unfold Fits at h;omega
theorem Fits.next {f k:Nat} (h:Fits (f+1) k):Fits f (k / 128):=by
 unfold Fits at h ⊢
 rw [show 7*(f+1)+1=(7*f+1)+7 from by omega,Nat.pow_add] at h
 exact Nat.div_lt_of_lt_mul (by rw [Nat.mul_comm];exact h)
theorem Fits.pos {f k:Nat} (h:Fits f k) (hk:128≤k) : ∃ g,f=g+1:=by
 cases f with
 | zero=>have:=h.zero;omega
 | succ g=>exact ⟨g,rfl⟩
def lead : List UInt8→Nat
 | []=>0
 | c::r=>if 128≤c.toNat then lead r+1 else 0
def val7 : List UInt8→Nat
 | []=>0
 | c::r=>c.toNat%128+128*val7 r
def get (l:List UInt8):Option (Nat×Nat):=
 if lead l<l.length∧lead l<10 ∧ ¬ (lead l=9∧1<(l.getD 9 0).toNat) ∧ ¬ (0<lead l∧l.getD (lead l) 0=0) then some (val7 (l.take (lead l+1)),lead l+1) else none
theorem lead_big : ∀ (l:List UInt8) (i:Nat) (h:i<l.length),i<lead l→128≤(l[i]).toNat
 | [],i,h,_=>by simp at h
 | c::r,0,_,hi=>by
   rw [lead] at hi
   split at hi
   ·simpa
   ·omega
 | c::r,i+1,h,hi=>by
   rw [lead] at hi
   split at hi
   ·have:=lead_big r i (by simpa using h) (by omega)
    simpa
   ·omega
theorem zDH : ∀ (l:List UInt8) (h:lead l<l.length),(l[lead l]).toNat<128
 | [],h=>by simp at h
 | c::r,h=>by
   by_cases hc:128≤c.toNat
   ·have e:lead (c::r)=lead r+1:=by rw [lead,if_pos hc]
    have:=zDH r (by rw [e] at h;simpa using h)
    simp only [e,List.getElem_cons_succ]
    exact this
   ·have e:lead (c::r)=0:=by rw [lead,if_neg hc]
    simp only [e,List.getElem_cons_zero]
    omega
theorem lead_next {l:List UInt8} {e:Nat} (he:e≤lead l) (h:e<l.length) (hc:128≤(l[e]).toNat):e+1≤lead l:=by
 rcases Nat.lt_or_ge e (lead l) with hlt | hge
 ·exact hlt
 ·have:e=lead l:=by omega
  subst this
  have:=zDH l h
  omega
theorem zDa {l:List UInt8} {e:Nat} (he:e≤lead l) (h:e<l.length) (hc:(l[e]).toNat<128):lead l=e:=by
 rcases Nat.lt_or_ge e (lead l) with hlt | hge
 ·have:=lead_big l e h hlt
  omega
 ·omega
theorem val7_append (a b:List UInt8):val7 (a++b)=val7 a+128 ^ a.length*val7 b:=by
 induction a with
 | nil=>simp [val7]
 | cons c r ih=>
   simp only [List.cons_append,val7,ih,List.length_cons,Nat.pow_succ]
   rw [Nat.mul_add,Nat.mul_comm (128 ^ r.length) 128,Nat.mul_assoc]
   omega
theorem zCU (l:List UInt8) (i:Nat) (h:i<l.length):val7 (l.take (i+1))=val7 (l.take i)+128 ^ i*((l[i]).toNat%128):=by
 rw [List.take_succ_eq_append_getElem h,val7_append,List.length_take,Nat.min_eq_left (by omega)]
 simp [val7]
theorem val7_drop (l:List UInt8) (i:Nat) (h:i<l.length):val7 (l.drop i)=(l[i]).toNat%128+128*val7 (l.drop (i+1)):=by
 rw [List.drop_eq_getElem_cons h,val7]
theorem val7_lt (l:List UInt8):val7 l<128 ^ l.length:=by
 induction l with
 | nil=>simp [val7]
 | cons c r ih=>
   simp only [val7,List.length_cons,Nat.pow_succ]
   omega
theorem val7_drop_le (l:List UInt8) (i:Nat):val7 (l.drop i)≤val7 l:=by
 induction i generalizing l with
 | zero=>simp
 | succ i ih=>
   cases l with
   | nil=>simp
   | cons c r=>
     simp only [List.drop_succ_cons,val7]
     have:=ih r
     omega
theorem getD_lt {l:List UInt8} {i:Nat} (h:i<l.length):l.getD i 0=l[i]:=by simp [List.getD,List.getElem?_eq_getElem h]
theorem get_end {l:List UInt8} (h:l.length≤lead l):get l=none:=by
 rw [get,if_neg];omega
theorem get_ten {l:List UInt8} (h:10≤lead l):get l=none:=by
 rw [get,if_neg];omega
theorem get_nine {l:List UInt8} (h9:9<l.length) (h:lead l=9) (hc:1<(l[9]).toNat):get l=none:=by
 rw [get,if_neg]
 intro hh
 refine hh.2.2.1 ⟨h,?_⟩
 rw [getD_lt h9]
 exact hc
theorem get_zero {l:List UInt8} {e:Nat} (he:e<l.length) (h:lead l=e) (h0:0<e) (hc:(l[e]).toNat=0):get l=none:=by
 rw [get,if_neg]
 subst h
 intro hh
 refine hh.2.2.2 ⟨h0,?_⟩
 rw [getD_lt he]
 exact UInt8.toNat_inj.1 (by simpa using hc)
theorem get_yes {l:List UInt8} {e:Nat} (he:e<l.length) (h:lead l=e) (ht:e<10) (h9:e=9→(l[e]).toNat≤1) (h0:0<e→(l[e]).toNat≠0):get l=some (val7 (l.take (e+1)),e+1):=by
 subst h
 rw [get,if_pos]
 refine ⟨he,ht,?_,?_⟩
 ·rintro ⟨h1,h2⟩
  rw [getD_lt (by omega)] at h2
  have:=h9 h1
  simp only [h1] at this
  omega
 ·rintro ⟨h1,h2⟩
  rw [getD_lt he] at h2
  exact h0 h1 (by rw [h2];rfl)
theorem get_fits {l:List UInt8} {e:Nat} (he:e<l.length) (h:lead l=e) (ht:e<10) (h9:e=9→(l[e]).toNat≤1):val7 (l.take (e+1))≤18446744073709551615:=by
 rcases Nat.lt_or_ge e 9 with h8 | h8
 ·have h1:=val7_lt (l.take (e+1))
  have h2:128 ^ (l.take (e+1)).length≤128 ^ 9:=Nat.pow_le_pow_right (by omega) (by rw [List.length_take];omega)
  omega
 ·obtain rfl:e=9:=by omega
  rw [zCU l 9 he]
  have h1:=val7_lt (l.take 9)
  have h2:128 ^ (l.take 9).length≤128 ^ 9:=Nat.pow_le_pow_right (by omega) (by rw [List.length_take];omega)
  have h3:=h9 rfl
  have h4:(l[9]).toNat%128≤1:=by omega
  have h5:128 ^ 9*((l[9]).toNat%128)≤128 ^ 9*1:=Nat.mul_le_mul_left _ h4
  omega
theorem get_seq {l:List UInt8} {e:Nat} (he:e<l.length) (h:lead l=e) (ht:e<10) (h9:e=9→(l[e]).toNat≤1) (h0:0<e→(l[e]).toNat≠0) :
 ∃ V:Nat→Nat,get l=some (V 0,e+1)∧V (e+1)=0∧(∀ m (hm:m<l.length),m≤e→V m=(l[m]).toNat%128+128*V (m+1)) ∧ ∀ m,V m≤18446744073709551615:=by
 have hlt:(l.take (e+1)).length=e+1:=by rw [List.length_take];omega
 refine ⟨fun m=>val7 ((l.take (e+1)).drop m),by simpa using get_yes he h ht h9 h0,?_,?_,?_⟩
 ·simp only
  rw [List.drop_of_length_le (by omega)]
  rfl
 ·intro m hm hme
  simp only
  rw [val7_drop _ m (by omega)]
  simp
 ·intro m
  exact Nat.le_trans (val7_drop_le _ m) (get_fits he h ht h9)
def getPair : Option (Nat×Nat)→Value
 | some (n,k) => .tuple #[.int .u64 n, .int .i64 k]
 | none => .tuple #[.int .u64 0, .int .i64 0]
def getTriple (l:List UInt8):Option (Nat×Nat)→Value
 | some (n,k) => .tuple #[.int .u64 n, .string (B (l.drop k)), .int .i64 0]
 | none => .tuple #[.int .u64 0, .string (B []), .int .i64 2]
theorem or128 (k:Nat):bits .or .u8 ((k:Int)%256) 128=128+(k:Int)%128:=by
 have h : ∀ m:Fin 256,bits .or .u8 ((m.val:Nat):Int) 128=128+((m.val:Nat):Int)%128:=by decide +kernel
 have:=h ⟨k%256,by omega⟩
 simp only at this
 rw [show ((k%256:Nat):Int)=(k:Int)%256 from by omega] at this
 rw [this]
 omega
set_option maxRecDepth 100000 in
set_option maxHeartbeats 400000 in
theorem zAX (n:Nat) (hn:n≤18446744073709551615) (w:World) :
 Calls Tryz.prog 44 #[.int .u64 n] w fun e w'=>e = .returned (.string (B (put n)))∧Below w.heap.size w w':=by
 have hc:=fun (wx:World) (x:Int)=>Tryz.str_of_one wx x
 go_enter Tryz.func44,Tryz.ntmps44
 go_wp2
 go_loopw [0,3] (fun m s wr => ∃ (f k:Nat) (acc:List UInt8),m = .int .u64 k∧s = .string (B acc)∧Hid (acc++putF f k=put n)∧acc.length≤9∧acc.length+f≤9∧Hid (Fits f k)∧Below w.heap.size w wr) (fun m _ _=>(intOf m).toNat)
 case atStart=>exact ⟨9,n,[],rfl,rfl,rfl,by simp,by simp,Lib.hid (Fits.of64 hn),Below.refl _ _⟩
 case round=>
  obtain ⟨f,k,acc,rfl,rfl,h1,h3,h4,h2,hb⟩:=hrel
  have hle:=h2.out.le (by omega)
  go_wp2
  ·have hk:128≤k:=by omega
   obtain ⟨f,rfl⟩:=h2.out.pos hk
   go_roundw
   case rel=>exact ⟨f,k / 128,acc++[UInt8.ofNat (128+k%128)],by go_num,by rw [ofNat_add_u8];rfl,Lib.hid (by rw [←h1.out,zDm f k hk];simp),by simp;omega,by simp;omega,Lib.hid h2.out.next,hb.alloc hb.size _⟩
   case measure=>simp [intOf];omega
  ·have hk:k<128:=by omega
   go_ret
   refine ⟨?_,hb.alloc hb.size _⟩
   rw [←h1.out,zBu f k hk]
   rfl
set_option maxRecDepth 100000 in
set_option maxHeartbeats 400000 in
theorem zCw (n:Nat) (hn:n≤18446744073709551615) (w:World) :
 Calls Tryz.prog 61 #[.int .u64 n] w fun e w'=>e = .returned (.string (B (put n)))∧Below w.heap.size w w':=by
 go_enter Tryz.func61,Tryz.ntmps61
 go_wp2
 go_loopw [0,3] (fun m v wr => ∃ (f k:Nat) (acc:List UInt8),m = .int .u64 k∧OwnB wr w.heap.size 5 v acc∧Hid (acc++putF f k=put n)∧acc.length≤9∧acc.length+f≤9∧Hid (Fits f k)∧Below w.heap.size w wr) (fun m _ _=>(intOf m).toNat)
 case atStart=>exact ⟨9,n,[],rfl,OwnB.nil _ _ _,rfl,by simp,by simp,Lib.hid (Fits.of64 hn),Below.refl _ _⟩
 case round=>
  obtain ⟨f,k,acc,rfl,hown,h1,h3,h4,h2,hb⟩:=hrel
  have hor:=or128 k
  have hle:=h2.out.le (by omega)
  go_wp2_with (at_builtin;go_must (refine zDu rfl _ _ _ rfl _ Tryz.bytesTy w.heap.size _ _ rfl (hown.alloc _) wr.heap.size _ rfl (cell_new1 _ _ _) (by omega) (by omega) (by omega) w (hb.alloc hb.size _) (by simp;have:=hb.size;omega) ?_);intro v1 w1 hown1 hb1 _;have hcv:=Tryz.str_of_own w1 hown1)
  ·have hk:128≤k:=by omega
   obtain ⟨f,rfl⟩:=h2.out.pos hk
   rw [show (128+(k:Int)%128).toNat=128+k%128 from by omega] at hown1
   go_roundw
   case rel=>exact ⟨f,k / 128,_,by go_num,hown1,Lib.hid (by rw [←h1.out,zDm f k hk];simp),by simp;omega,by simp;omega,Lib.hid h2.out.next,hb1⟩
   case measure=>simp [intOf];omega
  ·have hk:k<128:=by omega
   go_ret
   refine ⟨?_,hb1⟩
   rw [←h1.out,zBu f k hk]
   rfl
set_option maxRecDepth 100000 in
set_option maxHeartbeats 800000 in
theorem zBC (l:List UInt8) (hl:l.length≤4611686018427387904) (w:World) :
 Calls Tryz.prog 51 #[.string (B l)] w fun e w'=>e = .returned (getPair (get l))∧w'=w:=by
 go_enter Tryz.func51,Tryz.ntmps51
 go_wp2
 go_loop [4] (fun e => ∃ k:Nat,e = .int .i64 k∧k≤10∧k≤l.length∧Hid (k≤lead l)) (fun e=>10-(intOf e).toNat)
 case atStart=>exact ⟨0,rfl,by omega,by omega,Nat.zero_le _⟩
 case round=>
  obtain ⟨e,rfl,h1,h2,h3⟩:=hrel
  by_cases ha:e<l.length
  ·by_cases hb:e<10
   ·obtain ⟨c,hc⟩ : ∃ c,l[e]=c:=⟨_,rfl⟩
    by_cases hd:128≤c.toNat
    ·have hn:Hid (e+1≤lead l):=lead_next h3.out ha (by rw [hc];exact hd)
     go_wp2
     go_round
     case rel=>exact ⟨e+1,by go_num,by omega,by omega,hn⟩
     case measure=>simp [intOf];omega
    ·have hle:Hid (lead l=e):=zDa h3.out ha (by rw [hc];omega)
     by_cases h9:e=9∧1<c.toNat
     ·obtain ⟨rfl,h9'⟩:=h9
      have hfin:Hid (get l=none):=get_nine ha hle.out (by rw [hc];exact h9')
      go_wp2
      all_goals first | (exfalso;omega) | (go_ret2;exact ⟨by rw [hfin.out];rfl,rfl⟩)
     ·by_cases h0:0<e∧c.toNat=0
      ·obtain ⟨h0',h0c⟩:=h0
       have hfin:Hid (get l=none):=get_zero ha hle.out h0' (by rw [hc];exact h0c)
       have h0d:((c.toNat:Int)==0)=true:=by simp [h0c]
       have h9' : ¬ 1<c.toNat:=by omega
       have h0c':=Lib.hid h0c
       clear h9 h0c
       by_cases he9:e=9
       ·subst he9
        go_wp2
        all_goals first | (exfalso;omega) | (go_ret2;exact ⟨by rw [hfin.out];rfl,rfl⟩)
       ·go_wp2
        all_goals first | (exfalso;omega) | (go_ret2;exact ⟨by rw [hfin.out];rfl,rfl⟩)
      ·obtain ⟨V,hfin0,hV00,hVs0,hVb⟩:=get_seq ha hle.out hb (fun h=>by rw [hc];omega) (fun h=>by rw [hc];omega)
       have hfin:=Lib.hid hfin0
       have hV0:=Lib.hid hV00
       have hVs:=Lib.hid hVs0
       clear hfin0 hV00 hVs0
       have hVb':=Lib.hid hVb
       clear hVb
       have hcz:0<e→((c.toNat:Int)==0)=false:=by intro h;simp;omega
       by_cases he9:e=9
       ·subst he9
        have hcz':=hcz (by omega)
        have hc1 : ¬ 1<c.toNat:=by omega
        clear hcz
        go_wp2
        all_goals first | (exfalso;omega) | (exfalso;simp at ha;done) | (exfalso;rename_i hnil _;subst hnil;simp at ha;done) | skip
        all_goals
         go_loop [5,6] (fun n i => ∃ j:Nat,j≤9+1∧i = .int .i64 ((j:Int)-1)∧n = .int .u64 (V j)) (fun _ i=>(intOf i+1).toNat)
         case atStart=>exact ⟨9+1,by omega,by go_num,by rw [hV0.out];rfl⟩
         case round=>
          obtain ⟨j,hj,rfl,rfl⟩:=hrel
          cases j with
          | zero=>
            go_wp2
            all_goals first | (exfalso;omega) | skip
            go_ret2
            exact ⟨by rw [hfin.out];rfl,rfl⟩
          | succ m=>
            have hm:m<l.length:=by omega
            have hs:=hVs.out m hm (by omega)
            have hb1:=hVb'.out m
            have hji:((m+1:Nat):Int)-1=(m:Int):=by omega
            have hx:128*(V (m+1):Int)+((l[m]).toNat:Int)%128≤18446744073709551615:=by omega
            have hs':Hid ((V m:Int)=128*(V (m+1):Int)+((l[m]).toNat:Int)%128):=by rw [hs];show (_:Int)=_;omega
            clear hs
            rw [hji]
            generalize V (m+1)=N at *
            go_wp2
            all_goals first | (exfalso;omega) | skip
            go_round
            case rel=>exact ⟨m,by omega,by go_num,by rw [hs'.out]⟩
            case measure=>simp [intOf]
       ·by_cases he0:e=0
        ·subst he0
         clear hcz
         go_wp2
         all_goals first | (exfalso;omega) | (exfalso;simp at ha;done) | (exfalso;rename_i hnil _;subst hnil;simp at ha;done) | skip
         all_goals
          go_loop [5,6] (fun n i => ∃ j:Nat,j≤0+1∧i = .int .i64 ((j:Int)-1)∧n = .int .u64 (V j)) (fun _ i=>(intOf i+1).toNat)
          case atStart=>exact ⟨0+1,by omega,by go_num,by rw [hV0.out];rfl⟩
          case round=>
           obtain ⟨j,hj,rfl,rfl⟩:=hrel
           cases j with
           | zero=>
             go_wp2
             all_goals first | (exfalso;omega) | skip
             go_ret2
             exact ⟨by rw [hfin.out];rfl,rfl⟩
           | succ m=>
             have hm:m<l.length:=by omega
             have hs:=hVs.out m hm (by omega)
             have hb1:=hVb'.out m
             have hji:((m+1:Nat):Int)-1=(m:Int):=by omega
             have hx:128*(V (m+1):Int)+((l[m]).toNat:Int)%128≤18446744073709551615:=by omega
             have hs':Hid ((V m:Int)=128*(V (m+1):Int)+((l[m]).toNat:Int)%128):=by rw [hs];show (_:Int)=_;omega
             clear hs
             rw [hji]
             generalize V (m+1)=N at *
             go_wp2
             all_goals first | (exfalso;omega) | skip
             go_round
             case rel=>exact ⟨m,by omega,by go_num,by rw [hs'.out]⟩
             case measure=>simp [intOf]
        ·have hcz':=hcz (by omega)
         clear hcz
         go_wp2
         all_goals first | (exfalso;omega) | (exfalso;simp at ha;done) | (exfalso;rename_i hnil _;subst hnil;simp at ha;done) | skip
         all_goals
          go_loop [5,6] (fun n i => ∃ j:Nat,j≤e+1∧i = .int .i64 ((j:Int)-1)∧n = .int .u64 (V j)) (fun _ i=>(intOf i+1).toNat)
          case atStart=>exact ⟨e+1,by omega,by go_num,by rw [hV0.out];rfl⟩
          case round=>
           obtain ⟨j,hj,rfl,rfl⟩:=hrel
           cases j with
           | zero=>
             go_wp2
             all_goals first | (exfalso;omega) | skip
             go_ret2
             exact ⟨by rw [hfin.out];rfl,rfl⟩
           | succ m=>
             have hm:m<l.length:=by omega
             have hs:=hVs.out m hm (by omega)
             have hb1:=hVb'.out m
             have hji:((m+1:Nat):Int)-1=(m:Int):=by omega
             have hx:128*(V (m+1):Int)+((l[m]).toNat:Int)%128≤18446744073709551615:=by omega
             have hs':Hid ((V m:Int)=128*(V (m+1):Int)+((l[m]).toNat:Int)%128):=by rw [hs];show (_:Int)=_;omega
             clear hs
             rw [hji]
             generalize V (m+1)=N at *
             go_wp2
             all_goals first | (exfalso;omega) | skip
             go_round
             case rel=>exact ⟨m,by omega,by go_num,by rw [hs'.out]⟩
             case measure=>simp [intOf]
   ·have hfin:Hid (get l=none):=get_ten (by have:=h3.out;omega)
    have hb':e=10:=by omega
    subst hb'
    go_wp2
    all_goals first | (exfalso;omega) | (go_ret2;exact ⟨by rw [hfin.out];rfl,rfl⟩)
  ·have hfin:Hid (get l=none):=get_end (by have:=h3.out;omega)
   go_wp2
   all_goals first | (exfalso;omega) | (go_ret2;exact ⟨by rw [hfin.out];rfl,rfl⟩)
section
section
variable {P:Program} {ops:Array Oper} {C:World→Prop} {Q:Act→Prop} {a:Act} {o:Oper} {rest:List Oper}
theorem wpQuiet_go {v:Value} (hw:Region.wanted o (yielded ops a.tmps)=true) (hv : ∀ w,C w→Oper.quietUpon P C w v ((execOp a.eval o).run P w)) (h:wpQuiet P ops C Q rest (a.put o.dst v)):wpQuiet P ops C Q (o::rest) a:=by
 unfold wpQuiet
 rw [if_pos hw]
 exact ⟨v,hv,h⟩
theorem zAs (hw:Region.wanted o (yielded ops a.tmps)=true) (h : ∃ v,(∀ w,C w→Oper.quietUpon P C w v ((execOp a.eval o).run P w))∧wpQuiet P ops C Q rest (a.put o.dst v)):wpQuiet P ops C Q (o::rest) a:=by
 obtain ⟨v,h1,h2⟩:=h
 exact wpQuiet_go hw h1 h2
theorem zAk (hw:Region.wanted o (yielded ops a.tmps)=false) (h:wpQuiet P ops C Q rest (a.put o.dst undef)):wpQuiet P ops C Q (o::rest) a:=by
 unfold wpQuiet
 rw [if_neg (by rw [hw];simp)]
 exact h
theorem zAA {w:World} {v:Value} (ty:TypeId) (x:Operand) (ho:o.op = .load ty x) (b i:Nat) (hx:a.eval x = .pointer (some ⟨b,i,none⟩)) (cs:List Value) (d:TypeDesc) (hc:w.rangeAt b i cs)
 (hu:P.underlying ty=some d) (hd:d.isRow=true) (hi:(P.info? ty).map (·.size)=some cs.length) (hv:v = .agg cs.toArray):Oper.quietUpon P C w v ((execOp a.eval o).run P w):=by
 subst hv
 unfold execOp
 simp only [ho,hx,Instr.loadAt,Instr.sureAddr,Sem.run_bind,Sem.run_pure,Result.andThen_ok,run_loadVar_mid w b i ty cs d hc hu hd hi]
 exact ⟨rfl,rfl⟩
end
theorem zAg {P:Program} {C:World→Prop} {id:Nat} {Q:Exit→Act→World→Prop} {a:Act} {w:World} {l:List Oper} (hm:P.follows .mixedOrders=true) (hB:Region.lexB .any l.toArray=true) (hC:C { w with drawn:=w.drawn+1 })
 (h:wpQuiet P l.toArray C (fun a' => ∀ w',C w'→Q .normal a' w') l a):(Code.region id l.toArray true).wp P Q a w:=
 wp_region_quiet (C:=C) hm hB hC (by simpa using h)
theorem zAj {w:World} {g:Nat} {t:TypeId} {cs:Array Value} (h:Blk w g t cs):World.rangeAt w g 0 cs.toList:=fun j v hv=>by
 rw [Nat.zero_add,h.cell]
 simpa using hv
end
section
section
variable {P:Program} {ops:Array Oper} {a0:Act} {C:Array Bool→World→Prop} {R:Nat→Value→World→Prop} {Q:Exit→Act→World→Prop}
structure Left (ops:Array Oper) (a0:Act) (C:Array Bool→World→Prop) (R:Nat→Value→World→Prop) (listed:Array Bool) (a:Act) (w:World):Prop where
 cls:C listed w
 size:listed.size=ops.size
 closed : ∀ i o,ops[i]?=some o→listed.getD i false=true → ∀ e∈o.after,Region.binds .any e=true→listed.getD e.on false=true
 tsize:a.tmps.size=a0.tmps.size
 defers:a.defers=a0.defers
 old : ∀ t:Nat,(∀ (i:Nat) o,ops[i]?=some o→listed.getD i false=true→o.dst≠some t)→a.tmps[t]?=a0.tmps[t]?
 new : ∀ (i:Nat) o (t:Nat),ops[i]?=some o→listed.getD i false=true→o.dst=some t → ∃ v,a.tmps[t]?=some v∧R i v w
def acyc (ops:Array Oper):Bool:=(List.range ops.size).all fun i=>match ops[i]? with
 | some o=>o.after.all fun e => !Region.binds .any e||decide (e.on<i)
 | none=>true
def apartB (ops:Array Oper):Bool:=(List.range ops.size).all fun i=>(List.range ops.size).all fun j=>decide (i=j)||match ops[i]?,ops[j]? with
 | some o,some q=>match o.dst,q.dst with
   | some s,some t=>decide (s≠t)
   | _,_=>true
 | _,_=>true
theorem acyc_spec (h:acyc ops=true) {i:Nat} {o:Oper} (ho:ops[i]?=some o) {e:Edge} (he:e∈o.after) (hb:Region.binds .any e=true):e.on<i:=by
 have hi:=(Array.getElem?_eq_some_iff.1 ho).1
 have:=List.all_eq_true.1 h i (List.mem_range.2 hi)
 rw [ho] at this
 have:=Array.all_eq_true_iff_forall_mem.1 this e he
 rw [hb] at this
 simpa using this
theorem apart_spec (h:apartB ops=true) {i j:Nat} {o q:Oper} {t:Nat} (ho:ops[i]?=some o) (hq:ops[j]?=some q) (h1:o.dst=some t) (h2:q.dst=some t):i=j:=by
 have hi:=(Array.getElem?_eq_some_iff.1 ho).1
 have hj:=(Array.getElem?_eq_some_iff.1 hq).1
 have:=List.all_eq_true.1 (List.all_eq_true.1 h i (List.mem_range.2 hi)) j (List.mem_range.2 hj)
 rw [ho,hq] at this
 simp only [h1,h2] at this
 simpa using this
theorem zAq {listed:Array Bool} {i:Nat} (h:i∈Region.ready .any ops listed):i<ops.size∧listed.getD i true=false ∧ ∀ o,ops[i]?=some o → ∀ e∈o.after,Region.binds .any e=true→listed.getD e.on false=true:=by
 unfold Region.ready at h
 rw [List.mem_filter,List.mem_range,Bool.and_eq_true] at h
 obtain ⟨h1,h2,h3⟩:=h
 refine ⟨h1,by simpa using h2,fun o ho e he hb=>?_⟩
 rw [ho] at h3
 simp only [Option.map_some,Option.getD_some] at h3
 have:=Array.all_eq_true_iff_forall_mem.1 h3 e he
 simpa [hb] using this
theorem zAr {listed:Array Bool} {i:Nat} (h:i<listed.size):listed.getD i false=listed.getD i true:=by
 simp [Array.getD,h]
theorem all_listed (hac:acyc ops=true) {listed:Array Bool} (hs:listed.size=ops.size) (h:Region.ready .any ops listed=[]) : ∀ i,i<ops.size→listed.getD i false=true:=by
 intro i
 induction i using Nat.strongRecOn with
 | ind i ih=>
   intro hi
   cases hl:listed.getD i false with
   | true=>rfl
   | false=>
     have hmem:i∈Region.ready .any ops listed:=by
      unfold Region.ready
      rw [List.mem_filter,List.mem_range,Bool.and_eq_true]
      have ho:ops[i]?=some ops[i]:=Array.getElem?_eq_getElem hi
      refine ⟨hi,by rw [←zAr (by omega),hl];rfl,?_⟩
      rw [ho]
      simp only [Option.map_some,Option.getD_some]
      rw [Array.all_eq_true_iff_forall_mem]
      intro e he
      cases hb:Region.binds .any e with
      | false=>simp
      | true=>
        have h1:=acyc_spec hac ho he hb
        rw [ih e.on h1 (by omega)]
        simp
     rw [h] at hmem
     cases hmem
def zCB (listed:Array Bool) (n:Nat):Nat:=((List.range n).filter fun i => !listed.getD i false).length
theorem unlisted_set {listed:Array Bool} {n i:Nat} (hi:i<n) (hs:listed.size=n) (hl:listed.getD i false=false):zCB (listed.setIfInBounds i true) n<zCB listed n:=by
 unfold zCB
 have hsub:((List.range n).filter fun j => !(listed.setIfInBounds i true).getD j false).Sublist ((List.range n).filter fun j => !listed.getD j false):=by
  have:((List.range n).filter fun j => !(listed.setIfInBounds i true).getD j false)=(((List.range n).filter fun j => !listed.getD j false).filter fun j=>decide (j≠i)):=by
   rw [List.filter_filter]
   apply List.filter_congr
   intro j hj
   have hj:=List.mem_range.1 hj
   by_cases hji:j=i
   ·subst hji
    simp [Array.getD,hs,hj]
   ·have:(listed.setIfInBounds i true).getD j false=listed.getD j false:=by
     simp [Array.getD,hs,hj,Array.getElem_setIfInBounds,Ne.symm hji]
    simp [this,hji]
  rw [this]
  exact List.filter_sublist
 rcases Nat.lt_or_ge ((List.range n).filter fun j => !(listed.setIfInBounds i true).getD j false).length ((List.range n).filter fun j => !listed.getD j false).length with h | h
 ·exact h
 ·exfalso
  have heq:=hsub.eq_of_length_le h
  have hm:i∈((List.range n).filter fun j => !listed.getD j false):=by
   rw [List.mem_filter,List.mem_range]
   exact ⟨hi,by rw [hl];rfl⟩
  rw [←heq,List.mem_filter] at hm
  have:=hm.2
  simp [Array.getD,hs,hi] at this
theorem zA1 {listed:Array Bool} {i j:Nat} (hi:i<listed.size):(listed.setIfInBounds i true).getD j false=if j=i then true else listed.getD j false:=by
 by_cases hj:j=i
 ·subst hj
  simp [Array.getD,hi]
 ·rw [if_neg hj]
  simp only [Array.getD,Array.size_setIfInBounds]
  split
  ·rename_i h
   simp only [Array.getInternal_eq_getElem]
   rw [Array.getElem_setIfInBounds_ne _ (Ne.symm hj)]
  ·rfl
theorem put_at {a:Act} {d:Option Tmp} {v:Value} {t:Nat} (h:d≠some t):(a.put d v).tmps[t]?=a.tmps[t]?:=by
 cases d with
 | none=>rfl
 | some s=>
   have:s≠t:=fun e=>h (by rw [e])
   simp [Act.put,Array.getElem?_setIfInBounds,this]
theorem zCH (a:Act) (d:Option Tmp) (v:Value):(a.put d v).tmps.size=a.tmps.size:=by
 cases d<;>simp [Act.put]
theorem zBq (a:Act) (d:Option Tmp) (v:Value):(a.put d v).defers=a.defers:=by
 cases d<;>simp [Act.put]
theorem Left.step {listed:Array Bool} {a:Act} {w w':World} {i:Nat} {o:Oper} {v:Value} (hd:apartB ops=true) (hsz : ∀ (i:Nat) o (t:Nat),ops[i]?=some o→o.dst=some t→t<a0.tmps.size)
 (h:Left ops a0 C R listed a w) (hi:i∈Region.ready .any ops listed) (ho:ops[i]?=some o) (hR:R i v w') (hC:C (listed.setIfInBounds i true) w') (hst : ∀ j u,listed.getD j false=true→R j u w→R j u w'):Left ops a0 C R (listed.setIfInBounds i true) (a.put o.dst v) w':=by
 obtain ⟨hin,hil,hdep⟩:=zAq hi
 have his:i<listed.size:=by rw [h.size];exact hin
 refine ⟨hC,by rw [Array.size_setIfInBounds];exact h.size,?_,by rw [zCH];exact h.tsize,by rw [zBq];exact h.defers,?_,?_⟩
 ·intro j q hq hj e he hb
  rw [zA1 his]
  split
  ·rfl
  ·rw [zA1 his] at hj
   by_cases hji:j=i
   ·subst hji
    rw [ho] at hq
    injection hq with hq
    subst hq
    exact hdep o ho e he hb
   ·rw [if_neg hji] at hj
    exact h.closed j q hq hj e he hb
 ·intro t ht
  have h1:o.dst≠some t:=ht i o ho (by rw [zA1 his,if_pos rfl])
  rw [put_at h1]
  refine h.old t fun j q hq hj=>ht j q hq ?_
  rw [zA1 his]
  split
  ·rfl
  ·exact hj
 ·intro j q t hq hj ht
  by_cases hji:j=i
  ·subst hji
   rw [ho] at hq
   injection hq with hq
   subst hq
   refine ⟨v,?_,hR⟩
   have hlt:=hsz j o t ho ht
   rw [ht]
   simp [Act.put,h.tsize,hlt]
  ·rw [zA1 his,if_neg hji] at hj
   obtain ⟨u,h1,h2⟩:=h.new j q t hq hj ht
   refine ⟨u,?_,hst j u hj h2⟩
   rw [put_at (fun e=>hji (apart_spec hd hq ho ht e))]
   exact h1
theorem wpAny_left (hac:acyc ops=true) (hd:apartB ops=true) (hsz : ∀ (i:Nat) o (t:Nat),ops[i]?=some o→o.dst=some t→t<a0.tmps.size)
 (hstep : ∀ i o listed a w,ops[i]?=some o→i∈Region.ready .any ops listed→Left ops a0 C R listed a w→wpOp P ops Q i (fun a' w' => ∃ v,a'=a.put o.dst v∧R i v w'∧C (listed.setIfInBounds i true) w' ∧ ∀ j u,listed.getD j false=true→R j u w→R j u w') a w)
 (hend : ∀ a w listed,Left ops a0 C R listed a w→(∀ i,i<ops.size→listed.getD i false=true)→Q .normal a w) :
 ∀ (fuel:Nat) (listed:Array Bool) (a:Act) (w:World),Left ops a0 C R listed a w→zCB listed ops.size≤fuel→wpAny P .any ops Q fuel listed a w
 | 0,listed,a,w,h,hu=>by
   have hall : ∀ i,i<ops.size→listed.getD i false=true:=by
    intro i hi
    cases hl:listed.getD i false with
    | true=>rfl
    | false=>
      have hm:i∈((List.range ops.size).filter fun i => !listed.getD i false):=by
       rw [List.mem_filter,List.mem_range]
       exact ⟨hi,by rw [hl];rfl⟩
      have:=List.length_pos_of_mem hm
      unfold zCB at hu
      omega
   refine ⟨?_,hend a w listed h hall⟩
   rw [List.eq_nil_iff_forall_not_mem]
   intro i hi
   obtain ⟨h1,h2,_⟩:=zAq hi
   rw [←zAr (by rw [h.size];exact h1),hall i h1] at h2
   cases h2
 | fuel+1,listed,a,w,h,hu=>by
   refine ⟨fun h0=>hend a w listed h (all_listed hac h.size h0),fun i hi=>?_⟩
   obtain ⟨h1,h2,_⟩:=zAq hi
   have ho:ops[i]?=some ops[i]:=Array.getElem?_eq_getElem h1
   refine wpOp_mono ?_ (hstep i _ listed a w ho hi h)
   rintro a' w' ⟨v,rfl,hR,hC,hst⟩
   refine wpAny_left hac hd hsz hstep hend fuel _ _ _ (h.step hd hsz hi ho hR hC hst) ?_
   have:=unlisted_set h1 h.size (by rw [zAr (by rw [h.size];exact h1)];exact h2)
   omega
theorem zA3 {id:Nat} {w0:World} (hm:P.follows .mixedOrders=true) (hac:acyc ops=true) (hd:apartB ops=true) (hsz : ∀ (i:Nat) o (t:Nat),ops[i]?=some o→o.dst=some t→t<a0.tmps.size)
 (hC:C (Array.replicate ops.size false) { w0 with drawn:=w0.drawn+1 })
 (hstep : ∀ i o listed a w,ops[i]?=some o→i∈Region.ready .any ops listed→Left ops a0 C R listed a w→wpOp P ops Q i (fun a' w' => ∃ v,a'=a.put o.dst v∧R i v w'∧C (listed.setIfInBounds i true) w' ∧ ∀ j u,listed.getD j false=true→R j u w→R j u w') a w)
 (hend : ∀ a w listed,Left ops a0 C R listed a w→(∀ i,i<ops.size→listed.getD i false=true)→Q .normal a w):(Code.region id ops true).wp P Q a0 w0:=by
 refine wp_region_any hm (wpAny_left hac hd hsz hstep hend _ _ _ _ ⟨hC,by simp,?_,rfl,rfl,fun _ _=>rfl,?_⟩ ?_)
 ·intro i o ho hl
  exfalso
  have hi:=(Array.getElem?_eq_some_iff.1 ho).1
  simp [Array.getD,hi] at hl
 ·intro i o t ho hl
  exfalso
  have hi:=(Array.getElem?_eq_some_iff.1 ho).1
  simp [Array.getD,hi] at hl
 ·unfold zCB
  exact Nat.le_trans (List.length_filter_le _ _) (by simp)
def oldB (ops:Array Oper) (i t:Nat):Bool:=(List.range ops.size).all fun j=>match ops[j]? with
 | some q=>decide (q.dst≠some t)||decide (j=i)||q.after.any fun e=>Region.binds .any e&&decide (e.on=i)
 | none=>true
def newB (ops:Array Oper) (i j t:Nat):Bool:=match ops[i]?,ops[j]? with
 | some o,some q=>decide (q.dst=some t)&&o.after.any fun e=>Region.binds .any e&&decide (e.on=j)
 | _,_=>false
theorem Left.get_old {listed:Array Bool} {a:Act} {w:World} {i t:Nat} (h:Left ops a0 C R listed a w) (hi:i∈Region.ready .any ops listed) (hb:oldB ops i t=true):a.eval (.tmp t)=a0.eval (.tmp t):=by
 obtain ⟨hin,hil,_⟩:=zAq hi
 have key:a.tmps[t]?=a0.tmps[t]?:=by
  refine h.old t fun j q hq hj ht=>?_
  have hjn:=(Array.getElem?_eq_some_iff.1 hq).1
  have h1:=List.all_eq_true.1 hb j (List.mem_range.2 hjn)
  rw [hq] at h1
  simp only [Bool.or_eq_true,decide_eq_true_eq] at h1
  rcases h1 with (h1 | h1) | h1
  ·exact h1 ht
  ·subst h1
   rw [zAr (by rw [h.size];exact hin),hil] at hj
   cases hj
  ·rw [Array.any_eq_true'] at h1
   obtain ⟨e,he,h2⟩:=h1
   simp only [Bool.and_eq_true,decide_eq_true_eq] at h2
   have:=h.closed j q hq hj e he h2.1
   rw [h2.2,zAr (by rw [h.size];exact hin),hil] at this
   cases this
 simp only [Act.eval,Array.getD_eq_getD_getElem?,key]
theorem Left.get_new {listed:Array Bool} {a:Act} {w:World} {i j t:Nat} (h:Left ops a0 C R listed a w) (hi:i∈Region.ready .any ops listed) (hb:newB ops i j t=true):R j (a.eval (.tmp t)) w:=by
 obtain ⟨hin,hil,hdep⟩:=zAq hi
 unfold newB at hb
 split at hb
 ·rename_i o q ho hq
  simp only [Bool.and_eq_true,decide_eq_true_eq] at hb
  obtain ⟨h1,h2⟩:=hb
  rw [Array.any_eq_true'] at h2
  obtain ⟨e,he,h3⟩:=h2
  simp only [Bool.and_eq_true,decide_eq_true_eq] at h3
  have hj:=hdep o ho e he h3.1
  rw [h3.2] at hj
  obtain ⟨v,h4,h5⟩:=h.new j q t hq hj h1
  simp only [Act.eval,Array.getD_eq_getD_getElem?,h4,Option.getD_some]
  exact h5
 ·cases hb
def waitsB (ops:Array Oper) (j i:Nat):Bool:=match ops[j]? with
 | some q=>q.after.any fun e=>Region.binds .any e&&decide (e.on=i)
 | none=>false
theorem Left.later {listed:Array Bool} {a:Act} {w:World} {i j:Nat} (h:Left ops a0 C R listed a w) (hi:i∈Region.ready .any ops listed) (hb:waitsB ops j i=true):listed.getD j false=false:=by
 obtain ⟨hin,hil,_⟩:=zAq hi
 cases hj:listed.getD j false with
 | false=>rfl
 | true=>
   exfalso
   unfold waitsB at hb
   split at hb
   ·rename_i q hq
    rw [Array.any_eq_true'] at hb
    obtain ⟨e,he,h2⟩:=hb
    simp only [Bool.and_eq_true,decide_eq_true_eq] at h2
    have:=h.closed j q hq hj e he h2.1
    rw [h2.2,zAr (by rw [h.size];exact hin),hil] at this
    cases this
   ·cases hb
theorem step_wp {i:Nat} {o:Oper} {a:Act} {w:World} {K:Act→World→Prop} (ho:ops[i]?=some o) (hg:o.guard=none) (h:o.wp P a w K Q):wpOp P ops Q i K a w:=by
 unfold wpOp
 rw [ho]
 simp only
 rw [if_pos (by simp [Region.wanted,hg])]
 exact .inl h
def putAll (vs:Nat→Value):List Oper→Nat→Act→Act
 | [],_,a=>a
 | o::l,k,a=>putAll vs l (k+1) (a.put o.dst (vs k))
theorem zDc (vs:Nat→Value) : ∀ (l:List Oper) (k:Nat) (a:Act),(putAll vs l k a).defers=a.defers
 | [],_,_=>rfl
 | o::l,k,a=>by rw [putAll,zDc vs l,zBq]
theorem zDP (vs:Nat→Value) {t:Nat} : ∀ (l:List Oper) (k:Nat) (a:Act),(∀ o∈l,o.dst≠some t)→(putAll vs l k a).tmps[t]?=a.tmps[t]?
 | [],_,_,_=>rfl
 | o::l,k,a,h=>by rw [putAll,zDP vs l _ _ (fun q hq=>h q (by simp [hq])),put_at (h o (by simp))]
theorem putAll_new (vs:Nat→Value) {t:Nat} : ∀ (l:List Oper) (k:Nat) (a:Act) (i:Nat) (o:Oper),l[i]?=some o→o.dst=some t→t<a.tmps.size→(∀ j q,l[j]?=some q→q.dst=some t→j=i)→(putAll vs l k a).tmps[t]?=some (vs (k+i))
 | [],_,_,i,o,h,_,_,_=>by simp at h
 | q::l,k,a,0,o,h,ht,hlt,hu=>by
   simp only [List.getElem?_cons_zero,Option.some.injEq] at h
   subst h
   rw [putAll,zDP vs l]
   ·rw [ht];simp [Act.put,hlt]
   ·intro r hr hrt
    obtain ⟨j,hj⟩:=List.getElem?_of_mem hr
    have:=hu (j+1) r (by simpa using hj) hrt
    omega
 | q::l,k,a,i+1,o,h,ht,hlt,hu=>by
   rw [putAll,putAll_new vs l (k+1) _ i o (by simpa using h) ht (by rw [zCH];exact hlt) (fun j r hj hr=>by have:=hu (j+1) r (by simpa using hj) hr;omega)]
   congr 2
   omega
theorem act_ext {a b:Act} (h1:a.tmps=b.tmps) (h2:a.defers=b.defers):a=b:=by
 cases a;cases b;simp only at h1 h2;rw [h1,h2]
theorem Left.frame {l:List Oper} {listed:Array Bool} {a:Act} {w:World} (hd:apartB l.toArray=true) (hsz : ∀ (i:Nat) o (t:Nat),l.toArray[i]?=some o→o.dst=some t→t<a0.tmps.size)
 (h:Left l.toArray a0 C R listed a w) (hall : ∀ i,i<l.toArray.size→listed.getD i false=true) :
 ∃ vs:Nat→Value,a=putAll vs l 0 a0 ∧ ∀ (i:Nat) o (t:Nat),l[i]?=some o→o.dst=some t→R i (vs i) w:=by
 refine ⟨fun i=>match l[i]? with | some o=>(match o.dst with | some t=>a.tmps.getD t undef | none=>undef) | none=>undef,?_,?_⟩
 ·have h1:a.defers=(putAll (fun i=>match l[i]? with | some o=>(match o.dst with | some t=>a.tmps.getD t undef | none=>undef) | none=>undef) l 0 a0).defers:=by rw [zDc,h.defers]
  have h2:a.tmps=(putAll (fun i=>match l[i]? with | some o=>(match o.dst with | some t=>a.tmps.getD t undef | none=>undef) | none=>undef) l 0 a0).tmps:=by
   apply Array.ext_getElem?
   intro t
   by_cases ht : ∃ (i:Nat) (o:Oper),l[i]?=some o∧o.dst=some t
   ·obtain ⟨i,o,hl,hdst⟩:=ht
    have hla:l.toArray[i]?=some o:=by simpa using hl
    have hin:=(List.getElem?_eq_some_iff.1 hl).1
    obtain ⟨v,hv,_⟩:=h.new i o t hla (hall i (by simpa using hin)) hdst
    rw [putAll_new _ l 0 a0 i o hl hdst (hsz i o t hla hdst) (fun j q hj hq=>apart_spec hd (by simpa using hj) hla hq hdst),hv]
    simp [hl,hdst,Array.getD_eq_getD_getElem?,hv]
   ·rw [zDP _ l 0 a0 (fun o ho hdst=>by
     obtain ⟨i,hi⟩:=List.getElem?_of_mem ho
     exact ht ⟨i,o,hi,hdst⟩)]
    exact h.old t fun i o hl _ hdst=>ht ⟨i,o,by simpa using hl,hdst⟩
  exact act_ext h2 h1
 ·intro i o t hl hdst
  have hla:l.toArray[i]?=some o:=by simpa using hl
  have hin:=(List.getElem?_eq_some_iff.1 hl).1
  obtain ⟨v,hv,hR⟩:=h.new i o t hla (hall i (by simpa using hin)) hdst
  simp only [hl,hdst,Array.getD_eq_getD_getElem?,hv,Option.getD_some]
  exact hR
def sizesB (ops:Array Oper) (n:Nat):Bool:=ops.all fun o=>match o.dst with
 | some t=>decide (t<n)
 | none=>true
theorem zA7 {n:Nat} (h:sizesB ops n=true) (i:Nat) (o:Oper) (t:Nat) (ho:ops[i]?=some o) (hd:o.dst=some t):t<n:=by
 obtain ⟨hi,he⟩:=Array.getElem?_eq_some_iff.1 ho
 have:=Array.all_eq_true_iff_forall_mem.1 h o (by rw [←he];exact Array.getElem_mem hi)
 rw [hd] at this
 simpa using this
end
end
section
theorem zAd (a:Act) (t:Nat):a.tmps[t]?.getD undef=a.eval (.tmp t):=by simp [Act.eval]
theorem wp_val' {P:Program} {o:Oper} {a:Act} {w w':World} {v:Value} {K:Act→World→Prop} {Q:Exit→Act→World→Prop} (hrun:(execOp a.eval o).run P w = .ok (.value v) w') (hK:K (a.put o.dst v) w'):o.wp P a w K Q:=by
 unfold Oper.wp
 rw [hrun]
 exact hK
theorem wp_val {P:Program} {o:Oper} {a:Act} {w:World} {v:Value} {K:Act→World→Prop} {Q:Exit→Act→World→Prop} (hrun:(execOp a.eval o).run P w = .ok (.value v) w) (hK:K (a.put o.dst v) w):o.wp P a w K Q:=wp_val' hrun hK
section
variable {P:Program} {ops:Array Oper} {a0:Act} {C:Array Bool→World→Prop} {R:Nat→Value→World→Prop} {listed:Array Bool} {a:Act} {w:World} {i j k:Nat}
theorem Left.earlier (h:Left ops a0 C R listed a w) (hl:listed.getD j false=true) (hb:waitsB ops j k=true):listed.getD k false=true:=by
 unfold waitsB at hb
 split at hb
 ·rename_i q hq
  rw [Array.any_eq_true'] at hb
  obtain ⟨e,he,h2⟩:=hb
  simp only [Bool.and_eq_true,decide_eq_true_eq] at h2
  have:=h.closed j q hq hl e he h2.1
  rwa [h2.2] at this
 ·cases hb
theorem Left.later2 (h:Left ops a0 C R listed a w) (hl:listed.getD k false=false) (hb:waitsB ops j k=true):listed.getD j false=false:=by
 cases hj:listed.getD j false with
 | false=>rfl
 | true=>have:=h.earlier hj hb;rw [hl] at this;cases this
theorem Left.before (_:Left ops a0 C R listed a w) (hi:i∈Region.ready .any ops listed) (hb:waitsB ops i j=true):listed.getD j false=true:=by
 unfold waitsB at hb
 split at hb
 ·rename_i q hq
  rw [Array.any_eq_true'] at hb
  obtain ⟨e,he,h2⟩:=hb
  simp only [Bool.and_eq_true,decide_eq_true_eq] at h2
  have:=(zAq hi).2.2 q hq e he h2.1
  rwa [h2.2] at this
 ·cases hb
end
end
section
section
variable {P:Program}
theorem own_form {w:World} {base:Nat} {e:TypeId} {size n:Nat} {v:Value} {xs:List Value} (h:w.ownsRow base e size v n xs) :
 (v = .slice none 0 0∧n=0∧xs=[]) ∨ ∃ g cap,v = .slice (some ⟨g,0,none⟩) n cap∧base≤g∧g<w.heap.size∧n≤cap:=by
 have hx:=h.1
 rcases h.2 with ⟨h1,h2⟩ | ⟨g,cap,cur,h1,h2,h3,h4,_⟩
 ·subst h2;exact .inl ⟨h1,rfl,List.eq_nil_of_length_eq_zero (by simpa using hx)⟩
 ·refine .inr ⟨g,cap,h1,h2,?_,h4⟩
  rcases Nat.lt_or_ge g w.heap.size with hlt | hge
  ·exact hlt
  ·rw [Array.getElem?_eq_none hge] at h3;cases h3
theorem zAm {w:World} {base:Nat} {e:TypeId} {size n:Nat} {v:Value} {xs:List Value} (h:w.ownsRow base e size v n xs) : ∃ A cap,v = .slice A n cap:=by
 rcases own_form h with ⟨rfl,rfl,_⟩ | ⟨g,cap,rfl,_⟩
 ·exact ⟨_,_,rfl⟩
 ·exact ⟨_,_,rfl⟩
theorem zAE {w:World} {base base' n size:Nat} {e:TypeId} {v:Value} {xs:List Value} (h:w.ownsRow base e size v n xs) (hb:base'≤base):w.ownsRow base' e size v n xs:=by
 refine ⟨h.1,?_⟩
 rcases h.2 with h1 | ⟨g,cap,cur,h1,h2,h3⟩
 ·exact .inl h1
 ·exact .inr ⟨g,cap,cur,h1,Nat.le_trans hb h2,h3⟩
theorem zAf {w w':World} {base:Nat} {e:TypeId} {size n:Nat} {v:Value} {xs:List Value} (h:w.ownsRow base e size v n xs) (hb:Below w.heap.size w w'):w'.ownsRow base e size v n xs:=
 World.ownsRow.kept h (row:=none) ⟨hb.os,hb.tape,hb.output,hb.size,fun k hk _=>hb.block k hk⟩ (by
  cases hv:v.ownBlock with
  | none=>exact .inl rfl
  | some k=>exact .inr (by simp))
theorem zCV {w:World} {k:Nat} {t:TypeId} {cs:Array Value} (h:Blk w k t cs) : ∀ j u,cs.toList[j]?=some u→w.cell? ((⟨k,0,none⟩:Addr).add j)=some u:=World.news_of_block h
theorem wp_append_blk {w:World} {o:Oper} {a:Act} {K:Act→World→Prop} {Q:Exit→Act→World→Prop} (s x:Operand) (t:TypeId)
 (ho:o.op = .call { callee := .builtin .append,args := #[s,x],argTypes := #[t,t] })
 (e:TypeId) (z:Value) (size bytes:Nat) (hT:SliceTy P t e z size bytes) (base:Nat) (v:Value) (n:Nat) (xs:List Value) (hs:a.eval s=v) (hown:w.ownsRow base e size v n xs)
 (k m c:Nat) (t':TypeId) (cs:Array Value) (hx:a.eval x = .slice (some ⟨k,0,none⟩) m c) (hcs:Blk w k t' cs) (hl:cs.size=m*size) (h1 : ∀ u∈cs.toList,u.oneCell'=true)
 (h63:n+m≤9223372036854775807) (hbytes:(n+m)*bytes≤140737488355328) (w0:World) (hb:Below base w0 w) (hbase:base≤w.heap.size)
 (h : ∀ v' w',w'.ownsRow base e size v' (n+m) (xs++cs.toList)→Below base w0 w'→w.grownBy w' v.ownBlock→K (a.put o.dst v') w'):o.wp P a w K Q:=by
 obtain ⟨i,i1,i2,i3,i4⟩:=hT.hi
 refine wp_append_own w s x t ho base e i z size bytes hT.ht i1 i2 i3 i4 hT.hzs hT.hsz v n xs hs hown ⟨k,0,none⟩ m c cs.toList hx (by simpa using hl) (zCV hcs) h1 h63 hbytes hbase ?_
 intro v' w' hown' hg _
 exact h v' w' hown' (hb.grown hg hbase (fun k hk=>(World.ownsRow.lt hown k hk).1)) hg
end
end
section
section
variable {α:Type}
def SliceAt (w:World) (k:Nat) (enc:α→List Value) (v:Value) (l:List α):Prop:=
 ∃ A cap,v = .slice A l.length cap∧l.length≤cap∧cap≤9223372036854775807 ∧
  (0<l.length → ∃ g o,A=some ⟨g,o,none⟩∧g<w.heap.size ∧ ∀ i x,l[i]?=some x→w.rangeAt g (o+i*k) (enc x))
variable {w w':World} {k:Nat} {enc:α→List Value} {v:Value} {l:List α}
theorem SliceAt.below (h:SliceAt w k enc v l) (hb:Below w.heap.size w w'):SliceAt w' k enc v l:=by
 obtain ⟨A,cap,h1,h2,h3,h4⟩:=h
 refine ⟨A,cap,h1,h2,h3,fun h0=>?_⟩
 obtain ⟨g,o,e,hg,hc⟩:=h4 h0
 exact ⟨g,o,e,Nat.lt_of_lt_of_le hg hb.size,fun i x hx j u hu=>(hb.cell (p:=⟨g,o+i*k+j,none⟩) hg).trans (hc i x hx j u hu)⟩
theorem SliceAt.len (h:SliceAt w k enc v l):l.length≤9223372036854775807:=by
 obtain ⟨A,cap,h1,h2,h3,h4⟩:=h
 omega
theorem SliceAt.nil : SliceAt w k enc (.slice none 0 0) ([]:List α):=⟨none,0,rfl,by simp,by omega,fun h=>absurd h (by simp)⟩
theorem SliceAt.at_ (h:SliceAt w k enc v l) {i:Nat} (hi:i<l.length) :
 ∃ g o cap,v = .slice (some ⟨g,o,none⟩) l.length cap∧g<w.heap.size∧w.rangeAt g (o+i*k) (enc l[i]):=by
 obtain ⟨A,cap,h1,h2,h3,h4⟩:=h
 obtain ⟨g,o,rfl,hg,hc⟩:=h4 (by omega)
 exact ⟨g,o,cap,h1,hg,hc i _ (List.getElem?_eq_getElem hi)⟩
theorem zAb {g o:Nat} {cs:List Value} (h:w.rangeAt g o cs) (hg:g<w.heap.size) (hb:Below w.heap.size w w'):w'.rangeAt g o cs:=
 fun j u hu=>(hb.cell (p:=⟨g,o+j,none⟩) hg).trans (h j u hu)
def rowsOf (enc:α→List Value) (l:List α):List Value:=l.flatMap enc
theorem zAJ (hk : ∀ x∈l,(enc x).length=k):(rowsOf enc l).length=l.length*k:=by
 induction l with
 | nil=>simp [rowsOf]
 | cons x l ih=>
   have:=ih (fun y hy=>hk y (by simp [hy]))
   simp only [rowsOf,List.flatMap_cons,List.length_append,List.length_cons] at *
   rw [this,hk x (by simp),Nat.succ_mul]
   omega
theorem zAo (a b:List α):rowsOf enc (a++b)=rowsOf enc a++rowsOf enc b:=by simp [rowsOf]
theorem zAx (x:α):rowsOf enc [x]=enc x:=by simp [rowsOf]
theorem zCG (hk : ∀ x∈l,(enc x).length=k) {i:Nat} {x:α} (hx:l[i]?=some x) {j:Nat} {u:Value} (hu:(enc x)[j]?=some u):(rowsOf enc l)[i*k+j]?=some u:=by
 induction l generalizing i with
 | nil=>simp at hx
 | cons y l ih=>
   have hy:=hk y (by simp)
   have hj:j<k:=by
    have:=(List.getElem?_eq_some_iff.1 hu).1
    rw [hk x (List.mem_of_getElem? hx)] at this
    exact this
   cases i with
   | zero=>
     simp only [List.getElem?_cons_zero,Option.some.injEq] at hx
     subst hx
     rw [Nat.zero_mul,Nat.zero_add]
     simp only [rowsOf,List.flatMap_cons]
     rw [List.getElem?_append_left (by omega)]
     exact hu
   | succ i=>
     simp only [List.getElem?_cons_succ] at hx
     have:=ih (fun z hz=>hk z (by simp [hz])) hx
     simp only [rowsOf,List.flatMap_cons] at *
     rw [List.getElem?_append_right (by rw [hy,Nat.succ_mul];omega),hy,show (i+1)*k+j-k=i*k+j from by rw [Nat.succ_mul];omega]
     exact this
theorem SliceAt.of_own {base:Nat} {e:TypeId} (hk : ∀ x∈l,(enc x).length=k) (h:w.ownsRow base e k v l.length (rowsOf enc l)):SliceAt w k enc v l:=by
 rcases own_form h with ⟨rfl,h0,_⟩ | ⟨g,cap,rfl,h1,h2,h3⟩
 ·obtain rfl:=List.eq_nil_of_length_eq_zero h0
  exact SliceAt.nil
 ·have hcap:cap≤9223372036854775807:=by
   rcases h.2 with ⟨hv,_⟩ | ⟨g',cap',cur,hv,_,_,_,hm,_⟩
   ·cases hv
   ·injection hv with _ _ hv
    subst hv
    simpa [maxLen] using hm
  refine ⟨_,cap,rfl,h3,hcap,fun _=>⟨g,0,rfl,h2,fun i x hx j u hu=>?_⟩⟩
  have hrow:=zCG hk hx hu
  have hlt:i*k+j<(rowsOf enc l).length:=(List.getElem?_eq_some_iff.1 hrow).1
  rw [zAJ hk] at hlt
  have hc:=World.ownsRow.cellAt h (i*k+j) hlt
  rw [Nat.zero_add]
  rw [hrow] at hc
  exact hc
end
end
section
section
variable {P:Program} {w w':World} {g:Nat} {e:TypeId}
theorem Blk.setCells : ∀ (vs:List Value) (o:Nat) (w:World) (cur:Array Value),Blk w g e cur → ∃ cur',Blk (w.setCells g o vs) g e cur'∧cur'.size=cur.size
 | [],_,_,cur,h=>⟨cur,h,rfl⟩
 | v::r,o,w,cur,h=>by
   obtain ⟨cur',h1,h2⟩:=Blk.setCells r (o+1) _ _ (h.set_ o v)
   exact ⟨cur',h1,by rw [h2,Array.size_setIfInBounds]⟩
theorem Blk.setCells_far {g':Nat} (hne:g'≠g) : ∀ (vs:List Value) (o:Nat) (w:World) {cur:Array Value},Blk w g' e cur→Blk (w.setCells g o vs) g' e cur
 | [],_,_,_,h=>h
 | v::r,o,w,_,h=>Blk.setCells_far hne r (o+1) _ (h.far (p:=⟨g,o,none⟩) hne v)
theorem zB3 : ∀ (vs:List Value) (o:Nat) (w0 w:World) {base:Nat},Below base w0 w→base≤g→Below base w0 (w.setCells g o vs)
 | [],_,_,_,_,h,_=>h
 | v::r,o,w0,w,base,h,hg=>zB3 r (o+1) w0 _ (h.setCell (p:=⟨g,o,none⟩) hg v) hg
theorem zC4 : ∀ (vs:List Value) (o:Nat) (w:World),(w.setCells g o vs).heap.size=w.heap.size
 | [],_,_=>rfl
 | v::r,o,w=>by rw [World.setCells,zC4 r];exact World.size_setCell _ _ _
end
section
variable {α:Type} {P:Program} {w w':World} {g:Nat} {e:TypeId} {k:Nat} {enc:α→List Value} {cap:Nat} {s t:List α}
structure Row (w:World) (g:Nat) (e:TypeId) (k:Nat) (enc:α→List Value) (cap:Nat) (s:List α):Prop where
 blk : ∃ cur,Blk w g e cur∧cur.size=cap*k
 at_ : ∀ i x,s[i]?=some x→w.rangeAt g (i*k) (enc x)
 le:s.length≤cap
 top:cap≤maxLen
theorem Row.lt (h:Row w g e k enc cap s):g<w.heap.size:=by obtain ⟨cur,hb,_⟩:=h.blk;exact hb.lt
theorem Row.drew (h:Row w g e k enc cap s):Row w.drew g e k enc cap s:=⟨h.blk,h.at_,h.le,h.top⟩
theorem Row.below (h:Row w g e k enc cap s) (hb:Below w.heap.size w w'):Row w' g e k enc cap s:=by
 have hlt:=h.lt
 obtain ⟨cur,hc,hs⟩:=h.blk
 exact ⟨⟨cur,hc.below hb hlt,hs⟩,fun i x hx=>zAb (h.at_ i x hx) hlt hb,h.le,h.top⟩
theorem Row.alloc (h:Row w g e k enc cap s) (o:Obj):Row (w.alloc o) g e k enc cap s:=h.below ((Below.refl _ _).alloc (Nat.le_refl _) _)
theorem Row.cut (h:Row w g e k enc cap s) (n:Nat):Row w g e k enc cap (s.take n):=
 ⟨h.blk,fun i x hx=>h.at_ i x (by rw [List.getElem?_take] at hx;split at hx;exact hx;cases hx),by have:=h.le;simp;omega,h.top⟩
theorem Row.there (h:Row w g e k enc cap s) {o n:Nat} (hn:o+n≤cap*k):w.there g o n:=by
 obtain ⟨cur,hc,hs⟩:=h.blk
 intro j hj
 refine ⟨?_,hc.frozen _⟩
 rw [hc.cell,Array.getElem?_eq_getElem (by omega)]
 rfl
theorem Row.top63 (h:Row w g e k enc cap s):cap≤9223372036854775807:=by have:=h.top;simpa [maxLen] using this
theorem Row.slice (h:Row w g e k enc cap s):SliceAt w k enc (.slice (some ⟨g,0,none⟩) s.length cap) s:=
 ⟨_,cap,rfl,h.le,h.top63,fun _=>⟨g,0,rfl,h.lt,fun i x hx=>by rw [Nat.zero_add];exact h.at_ i x hx⟩⟩
theorem Row.put (hk : ∀ x∈s,(enc x).length=k) (hkt : ∀ x∈t,(enc x).length=k) (h:Row w g e k enc cap s) {i:Nat} (hi:i≤s.length) (ht:i+t.length≤cap) :
 Row (w.setCells g (i*k) (rowsOf enc t)) g e k enc cap (s.take i++t++s.drop (i+t.length)):=by
 have hlen:=zAJ hkt
 obtain ⟨cur,hc,hs⟩:=h.blk
 obtain ⟨cur',hc',hs'⟩:=hc.setCells (rowsOf enc t) (i*k)
 have hroom:i*k+(rowsOf enc t).length≤cap*k:=by
  rw [hlen,←Nat.add_mul]
  exact Nat.mul_le_mul_right _ ht
 have hth:w.there g (i*k) (rowsOf enc t).length:=h.there hroom
 refine ⟨⟨cur',hc',hs'.trans hs⟩,fun j x hx=>?_,?_,h.top⟩
 ·by_cases h1:j<i
  ·have hx':s[j]?=some x:=by
    rw [List.append_assoc,List.getElem?_append_left (by simp;omega),List.getElem?_take,if_pos h1] at hx
    exact hx
   refine World.rangeAt_setCells_apart (h.at_ j x hx') _ _ _ (.inr (.inl ?_))
   rw [hk x (List.mem_of_getElem? hx'),←Nat.succ_mul]
   exact Nat.mul_le_mul_right _ h1
  ·by_cases h2:j<i+t.length
   ·have hx':t[j-i]?=some x:=by
     rw [List.append_assoc,List.getElem?_append_right (by simp;omega),List.getElem?_append_left (by simp;omega)] at hx
     simpa [List.length_take,Nat.min_eq_left hi] using hx
    intro q u hu
    have hq:=zCG hkt hx' hu
    have:=World.rangeAt_setCells_same w g (i*k) (rowsOf enc t) hth _ u hq
    have e1:i*k+((j-i)*k+q)=j*k+q:=by
     rw [←Nat.add_assoc,←Nat.add_mul,show i+(j-i)=j from by omega]
    rwa [e1] at this
   ·have hx':s[j]?=some x:=by
     rw [List.getElem?_append_right (by simp;omega),List.getElem?_drop] at hx
     rw [←hx]
     congr 1
     simp
     omega
    refine World.rangeAt_setCells_apart (h.at_ j x hx') _ _ _ (.inr (.inr ?_))
    rw [hlen,←Nat.add_mul]
    exact Nat.mul_le_mul_right _ (by omega)
 ·have:=h.le
  simp
  omega
theorem Row.set (hk : ∀ x∈s,(enc x).length=k) (h:Row w g e k enc cap s) {i:Nat} (hi:i<s.length) {x:α} (hx:(enc x).length=k):Row (w.setCells g (i*k) (enc x)) g e k enc cap (s.set i x):=by
 have:=h.put hk (t:=[x]) (fun y hy=>by simp at hy;subst hy;exact hx) (i:=i) (by omega) (by have:=h.le;simp;omega)
 rw [zAx] at this
 rw [List.set_eq_take_append_cons_drop,if_pos hi]
 simpa using this
theorem take_of_ranges (hk : ∀ x∈s,(enc x).length=k) {c:List Value} (hc:s.length*k≤c.length) (h : ∀ i x,s[i]?=some x → ∀ j u,(enc x)[j]?=some u→c[i*k+j]?=some u):c.take (s.length*k)=rowsOf enc s:=by
 induction s generalizing c with
 | nil=>simp [rowsOf]
 | cons x s ih=>
   have hx:=hk x (by simp)
   have h1:c.take k=enc x:=by
    refine List.ext_getElem? fun j=>?_
    rw [List.getElem?_take]
    split
    ·rename_i hj
     have:=h 0 x (by simp) j (enc x)[j] (List.getElem?_eq_getElem (by omega))
     rw [Nat.zero_mul,Nat.zero_add] at this
     rw [this,List.getElem?_eq_getElem (by omega)]
    ·rw [List.getElem?_eq_none (by omega)]
   have h2:=ih (fun y hy=>hk y (by simp [hy])) (c:=c.drop k) (by simp only [List.length_cons,Nat.succ_mul] at hc;rw [List.length_drop];omega) (fun i y hy j u hu=>by
    rw [List.getElem?_drop]
    have:=h (i+1) y (by simpa using hy) j u hu
    rw [←this]
    congr 1
    rw [Nat.succ_mul]
    omega)
   simp only [List.length_cons,Nat.succ_mul,rowsOf,List.flatMap_cons] at *
   rw [Nat.add_comm,List.take_add,h1,h2]
theorem Row.own (hk : ∀ x∈s,(enc x).length=k) (h:Row w g e k enc cap s) {base:Nat} (hg:base≤g):w.ownsRow base e k (.slice (some ⟨g,0,none⟩) s.length cap) s.length (rowsOf enc s):=by
 obtain ⟨cur,hc,hs⟩:=h.blk
 have hle:s.length*k≤cap*k:=Nat.mul_le_mul_right _ h.le
 refine ⟨zAJ hk, .inr ⟨g,cap,cur,rfl,hg,hc,h.le,h.top,hs,take_of_ranges hk (by simpa [hs] using hle) fun i x hx j u hu=>?_⟩⟩
 have:=h.at_ i x hx j u hu
 rw [hc.cell] at this
 rw [Array.getElem?_toList]
 exact this
theorem Row.of_own {base:Nat} {v:Value} (hk : ∀ x∈s,(enc x).length=k) (h:w.ownsRow base e k v s.length (rowsOf enc s)) :
 (v = .slice none 0 0∧s=[]) ∨ ∃ g cap,v = .slice (some ⟨g,0,none⟩) s.length cap∧base≤g∧Row w g e k enc cap s:=by
 rcases h.2 with ⟨h1,h2⟩ | ⟨g,cap,cur,h1,h2,h3,h4,h5,h6,h7⟩
 ·exact .inl ⟨h1,List.eq_nil_of_length_eq_zero h2⟩
 ·refine .inr ⟨g,cap,h1,h2,⟨cur,h3,h6⟩,fun i x hx j u hu=>?_,h4,h5⟩
  have hrow:=zCG hk hx hu
  have hb:Blk w g e cur:=h3
  rw [hb.cell,←Array.getElem?_toList]
  rw [←h7,List.getElem?_take] at hrow
  split at hrow
  ·exact hrow
  ·cases hrow
theorem Row.of_new (hk : ∀ x∈s,(enc x).length=k) (w:World) (zs:Array Value) (hs:s.length*k+zs.size=cap*k) (hle:s.length≤cap) (htop:cap≤maxLen) :
 Row (w.alloc (.cells ((rowsOf enc s).toArray++zs) e)) w.heap.size e k enc cap s:=by
 have hb:=Blk.new w e ((rowsOf enc s).toArray++zs)
 refine ⟨⟨_,hb,by rw [Array.size_append,List.size_toArray,zAJ hk];exact hs⟩,fun i x hx j u hu=>?_,hle,htop⟩
 have hrow:=zCG hk hx hu
 have hlt:i*k+j<(rowsOf enc s).length:=(List.getElem?_eq_some_iff.1 hrow).1
 rw [hb.cell,Array.getElem?_append_left (by simpa using hlt)]
 simpa using hrow
theorem zBE (w:World) (dT sT ty elem:TypeId) (b o dLen dCap:Nat) (a:Addr) (sLen sCap n:Nat) (cs:List Value)
 (hu:P.underlying dT=some (.slice elem)) (hs:(P.info? elem).map (·.size)=some k) (hn:n=Nat.min sLen dLen) (hl:cs.length=n*k)
 (hsrc : ∀ j v,cs[j]?=some v→w.cell? (a.add j)=some v) (ht:w.there b o cs.length) (h1 : ∀ v∈cs,v.oneCell'=true) :
 (Builtin.copy_ #[dT,sT] ty #[.slice (some ⟨b,o,none⟩) dLen dCap, .slice (some a) sLen sCap]).run P w = .ok (goInt n) (w.setCells b o cs):=by
 have hl':=run_loadCells_list (P:=P) w a cs hsrc
 have hst:=run_storeCells_cells (P:=P) b o cs 0 w (fun j hj=>(ht j hj).1) (fun j hj=>(ht j hj).2) h1
 cases hq:P.info? elem with
 | none=>simp [hq] at hs
 | some i=>
   have hi:i.size=k:=by simpa [hq] using hs
   rw [hl] at hl'
   simp [Builtin.copy_,run_underlying hu,Builtin.lenOf,Builtin.firstCells,sizeOf,typeInfo,hq,hi,←hn,hl',hst]
theorem rowsOf_find (hk : ∀ x∈s,(enc x).length=k) {j:Nat} {u:Value} (h:(rowsOf enc s)[j]?=some u) : ∃ i x q,s[i]?=some x∧(enc x)[q]?=some u∧j=i*k+q:=by
 induction s generalizing j with
 | nil=>simp [rowsOf] at h
 | cons y s ih=>
   have hy:=hk y (by simp)
   simp only [rowsOf,List.flatMap_cons] at h
   by_cases hj:j<k
   ·rw [List.getElem?_append_left (by omega)] at h
    exact ⟨0,y,j,rfl,h,by omega⟩
   ·rw [List.getElem?_append_right (by omega),hy] at h
    obtain ⟨i,x,q,h1,h2,h3⟩:=ih (fun z hz=>hk z (by simp [hz])) h
    exact ⟨i+1,x,q,by simpa using h1,h2,by rw [Nat.succ_mul];omega⟩
theorem rowsOf_one' (ho : ∀ x∈s, ∀ u∈enc x,u.oneCell'=true) : ∀ u∈rowsOf enc s,u.oneCell'=true:=by
 intro u hu
 obtain ⟨x,hx,hux⟩:=List.mem_flatMap.1 hu
 exact ho x hx u hux
theorem wp_copy_run (w:World) {o:Oper} {a:Act} {K:Act→World→Prop} {Q:Exit→Act→World→Prop} (d x:Operand) (t t':TypeId)
 (ho:o.op = .call { callee := .builtin .copy,args := #[d,x],argTypes := #[t,t'] }) (v u:Value) (hd:a.eval d=v) (hs:a.eval x=u) {v':Value} {w':World}
 (hr:(Builtin.copy_ #[t,t'] o.type #[v,u]).run P w = .ok v' w') (h:K (a.put o.dst v') w'):o.wp P a w K Q:=by
 unfold Oper.wp execOp
 simp only [ho,resolve,invoke,builtin,Sem.run_bind,Sem.run_pure,Result.andThen_ok,List.map_toArray,List.map_cons,List.map_nil,hd,hs,hr]
 exact h
theorem zCA (w:World) {ops:Array Oper} {rest:List Oper} {o:Oper} {a:Act} {Q:Exit→Act→World→Prop} (hgd:o.guard=none) (d x:Operand) (t t':TypeId)
 (ho:o.op = .call { callee := .builtin .copy,args := #[d,x],argTypes := #[t,t'] }) (v u:Value) (hd:a.eval d=v) (hs:a.eval x=u) {v':Value} {w':World}
 (hr:(Builtin.copy_ #[t,t'] o.type #[v,u]).run P w = .ok v' w') (h:wpList P ops Q rest (a.put o.dst v') w'):wpList P ops Q (o::rest) a w:=
 wpList_plain hgd fun _ hK=>wp_copy_run w d x t t' ho v u hd hs hr (hK _ _ h)
theorem zC2 {ops:Array Oper} {o:Oper} {a:Act} {w:World} {K:Act→World→Prop} {Q:Exit→Act→World→Prop} {E:Prop}
 (hg:o.guard=none) (d x:Operand) (dT sT:TypeId) (hop:o.op=Op.call { callee:=Callee.builtin Builtin.copy,args := #[d,x],argTypes := #[dT,sT] })
 (v u:Value) (hd:a.eval d=v) (hx:a.eval x=u) {v':Value} {w':World} (hr:(Builtin.copy_ #[dT,sT] o.type #[v,u]).run P w = .ok v' w') (hK:K (a.put o.dst v') w') :
 if Region.wanted o (yielded ops a.tmps)=true then Oper.wp P o a w K Q else E:=by
 have hw:Region.wanted o (yielded ops a.tmps)=true:=by simp [Region.wanted,hg]
 rw [if_pos hw]
 exact wp_copy_run w d x dT sT hop v u hd hx hr hK
end
end
section
def u8s (l:List UInt8):Array Value:=(l.map u8v).toArray
theorem zAh (l:List UInt8):(u8s l).size=l.length:=by simp [u8s]
theorem u8s_get (l:List UInt8) (i:Nat) (h:i<l.length):(u8s l)[i]?=some (.int .u8 ((l.getD i 0).toNat:Nat)):=by
 simp [u8s,u8v,List.getD,List.getElem?_eq_getElem h]
theorem u8s_set (l:List UInt8) (i n:Nat) (h:n<256):(u8s l).setIfInBounds i (.int .u8 (n:Nat))=u8s (l.set i n.toUInt8):=by
 apply Array.ext'
 simp only [u8s,Array.toList_setIfInBounds,List.map_set]
 rw [show u8v n.toUInt8 = .int .u8 (n:Nat) from zCe n h]
theorem u8s_one (l:List UInt8):(u8s l).all (·.oneCell')=true:=
 Array.all_eq_true_iff_forall_mem.2 fun v hv=>u8v_one l v (by simpa [u8s] using hv)
theorem sz32 : (Tryz.prog.info? 28).map (·.size)=some 32:=by kernel_rfl
theorem zAa {B g:Nat} {a w:World} (h:Below B a w) (hB:B≤g) (cs:Array Value):Below B a (w.setRow g cs):=
 h.trans ⟨rfl,rfl,rfl,by simp,fun k hk=>setRow_other _ _ _ _ (by omega)⟩
theorem zBk (w:World) (o:Obj):(w.alloc o).heap.size=w.heap.size+1:=by simp
section
variable {P:Program}
theorem zC3 (w:World) {e:TypeId} (he:P.plainKey e=true) (l:List UInt8) (i:Nat) (h:i<l.length):(part e (u8s l) i).run P w = .ok (u8v (l.getD i 0)) w:=
 run_part_plain w he (by rw [u8s_get l i h];rfl)
theorem zCd (w:World) (d:Nat) {e:TypeId} (he:P.plainKey e=true) (hu:P.underlying e=some (.int .u8)) (hc:P.cellsOf e=1) (a b:List UInt8) :
 ∀ is:List Nat,(∀ i∈is,i<a.length∧i<b.length)→(Op.eqItems (d+1) e (P.cellsOf e) (u8s a) (u8s b) is).run P w = .ok (decide (∀ i∈is,a.getD i 0=b.getD i 0)) w
 | [],_=>by simp [Op.eqItems]
 | i::is,h=>by
   obtain ⟨ha,hb⟩:=h i (by simp)
   have ih:=zCd w d he hu hc a b is (fun j hj=>h j (by simp [hj]))
   simp only [Op.eqItems,Sem.run_bind,hc,Nat.mul_one,zC3 w he a i ha,zC3 w he b i hb,Result.andThen_ok]
   rw [u8v,u8v,run_equalIn_int w d e .u8 .u8 _ _ hu]
   simp only [Result.andThen_ok]
   have e1:(((a.getD i 0).toNat:Int)==((b.getD i 0).toNat:Int))=decide (a.getD i 0=b.getD i 0):=by
    rw [Bool.eq_iff_iff]
    simp only [beq_iff_eq,decide_eq_true_eq]
    exact ⟨fun h=>UInt8.toNat_inj.1 (by omega),fun h=>by rw [h]⟩
   rw [e1]
   by_cases hi:a.getD i 0=b.getD i 0
   ·simp only [hi,decide_true,Bool.not_true,Bool.false_eq_true,if_false]
    rw [hc] at ih
    rw [ih]
    simp only [List.forall_mem_cons,hi,true_and]
   ·simp only [List.forall_mem_cons,hi,false_and,decide_false,Bool.not_false,if_true,Sem.run_pure]
theorem zBw (w:World) (d:Nat) {t e:TypeId} {n:Nat} (ht:P.underlying t=some (.array n e)) (he:P.plainKey e=true) (hu:P.underlying e=some (.int .u8)) (hc:P.cellsOf e=1) (hi : ∃ i,P.info? e=some i)
 (a b:List UInt8) (ha:a.length=n) (hb:b.length=n):(Op.equalIn (d+2) t (.agg (u8s a)) (.agg (u8s b))).run P w = .ok (decide (a=b)) w:=by
 obtain ⟨i,hi⟩:=hi
 rw [run_equalIn_array w (d+1) _ _ ht hi,zCd w d he hu hc a b _ (fun j hj=>by rw [List.mem_range] at hj;omega)]
 congr 1
 rw [Bool.eq_iff_iff]
 simp only [decide_eq_true_eq,List.mem_range]
 constructor
 ·intro h
  apply List.ext_getElem (by omega)
  intro j h1 h2
  have:=h j (by omega)
  simpa [List.getD,List.getElem?_eq_getElem h1,List.getElem?_eq_getElem h2] using this
 ·intro h j _
  rw [h]
end
theorem run_eql_id (w:World) (a b:List UInt8) (ha:a.length=32) (hb:b.length=32) :
 (binOp .eql 28 (.agg (u8s a)) (.agg (u8s b))).run Tryz.prog w = .ok (.bool (decide (a=b))) w:=by
 rw [run_eql_struct,zBw w 9998 Tryz.underlying28 (by kernel_rfl) Tryz.underlying5 (by kernel_rfl) (Option.isSome_iff_exists.1 (by kernel_rfl)) a b ha hb]
 rfl
theorem run_neq_id (w:World) (a b:List UInt8) (ha:a.length=32) (hb:b.length=32) :
 (binOp .neq 28 (.agg (u8s a)) (.agg (u8s b))).run Tryz.prog w = .ok (.bool (!decide (a=b))) w:=by
 rw [run_neq_struct,zBw w 9998 Tryz.underlying28 (by kernel_rfl) Tryz.underlying5 (by kernel_rfl) (Option.isSome_iff_exists.1 (by kernel_rfl)) a b ha hb]
 rfl
def RowOf (w:World) (g:Nat):Array Value:=match w.heap[g]? with | some (.cells cs _ _)=>cs | _ => #[]
def HasRow (w:World) (g:Nat) (t:TypeId) (n:Nat):Prop := ∃ cs,cs.size=n∧Blk w g t cs
theorem zBU {w:World} {g:Nat} {t:TypeId} {cs:Array Value} (h:Blk w g t cs):RowOf w g=cs:=by
 unfold Blk at h
 simp [RowOf,h]
theorem zB7 {w:World} {g:Nat} {t:TypeId} {cs:Array Value} {n:Nat} (h:Blk w g t cs) (hn:cs.size=n):HasRow w g t n:=⟨cs,hn,h⟩
def ldvI (p:Addr):Sem Value:=loadVar 28 p
def stvI (p:Addr) (v:Value):Sem Unit:=storeVar 28 p v
theorem ldvI_eq (p:Addr):loadVar 28 p=ldvI p:=rfl
theorem stvI_eq (p:Addr) (v:Value):storeVar 28 p v=stvI p v:=rfl
section
variable {P:Program}
theorem zBD {W:World} {ops:Array Oper} {rest:List Oper} {o:Oper} {a:Act} {Q:Exit→Act→World→Prop} (hgd:o.guard=none) (ty:TypeId) (x y:Operand) (ho:o.op = .store ty x y)
 (cells zs:Array Value) (hx:a.eval x = .pointer (some ⟨W.heap.size,0,none⟩)) (hy:a.eval y = .agg cells) (hi:(P.info? ty).map (·.size)=some cells.size) (hold:zs.size=cells.size) (h1:cells.all (·.oneCell')=true)
 (h : ∀ W1,Blk W1 W.heap.size ty cells→Below W.heap.size W W1→wpList P ops Q rest (a.put o.dst undef) W1):wpList P ops Q (o::rest) a (W.alloc (.cells zs ty)):=
 wpList_store_row hgd ty x y ho W.heap.size cells hx hy ty zs (Blk.new W ty zs) hi hold h1
  (h _ (setRow_heap _ _ _ _ _ _ (Blk.new W ty zs)) (zAa ((Below.refl _ _).alloc (Nat.le_refl _) _) (Nat.le_refl _) _))
end
theorem zDy {W:World} {ops:Array Oper} {rest:List Oper} {o:Oper} {a:Act} {Q:Exit→Act→World→Prop} (hgd:o.guard=none) (x y:Operand) (ho:o.op = .store 28 x y)
 (u:List UInt8) (lu:u.length=32) (zs:Array Value) (hx:a.eval x = .pointer (some ⟨W.heap.size,0,none⟩)) (hy:a.eval y = .agg (u8s u)) (hz:zs.size=32)
 (h : ∀ W1,Blk W1 W.heap.size 28 (u8s u)→Below W.heap.size W W1→wpList Tryz.prog ops Q rest (a.put o.dst undef) W1):wpList Tryz.prog ops Q (o::rest) a (W.alloc (.cells zs 28)):=
 zBD hgd _ x y ho (u8s u) zs hx hy (by rw [zAh,lu];exact sz32) (by rw [zAh,lu];exact hz) (u8s_one u) h
end
section
structure Far (S:List (Option Nat)) (w w':World):Prop where
 os:w'.os=w.os
 tape:w'.tape=w.tape
 output:w'.output=w.output
 size:w.heap.size≤w'.heap.size
 block : ∀ k,k<w.heap.size→some k ∉ S→w'.heap[k]?=w.heap[k]?
def Newer (w:World) (v v':Value):Prop:=v'.ownBlock=v.ownBlock ∨ ∀ k,v'.ownBlock=some k→w.heap.size≤k
section
variable {S T:List (Option Nat)} {w w0 w1 w2 w':World} {g B:Nat} {t:TypeId} {cs:Array Value}
theorem Far.refl (S:List (Option Nat)) (w:World):Far S w w:=⟨rfl,rfl,rfl,Nat.le_refl _,fun _ _ _=>rfl⟩
theorem Far.of_below (h:Below w.heap.size w w'):Far S w w':=⟨h.os,h.tape,h.output,h.size,fun k hk _=>h.block k hk⟩
theorem Far.of_grown {row:Option Nat} (h:w.grownBy w' row):Far [row] w w':=⟨h.os,h.tape,h.output,h.size,fun k hk hn=>h.block k hk (fun e=>hn (by simp [e]))⟩
theorem Far.grown {row:Option Nat} (h:Far S w w') (hs : ∀ k,some k∈S→some k=row):w.grownBy w' row:=⟨h.os,h.tape,h.output,h.size,fun k hk hn=>h.block k hk (fun e=>hn (hs k e))⟩
theorem Far.mono (h:Far S w w') (hs : ∀ k,some k∈S→some k∈T):Far T w w':=⟨h.os,h.tape,h.output,h.size,fun k hk hn=>h.block k hk (fun e=>hn (hs k e))⟩
theorem Far.then_ (h:Far S w w1) (h2:Far T w1 w2) (hT : ∀ k,some k∈T→some k∈S∨w.heap.size≤k):Far S w w2:=
 ⟨h2.os.trans h.os,h2.tape.trans h.tape,h2.output.trans h.output,Nat.le_trans h.size h2.size,fun k hk hn=>by
  refine (h2.block k (Nat.lt_of_lt_of_le hk h.size) fun e=>?_).trans (h.block k hk hn)
  rcases hT k e with h3 | h3
  ·exact hn h3
  ·omega⟩
theorem Far.trans (h:Far S w w1) (h2:Far S w1 w2):Far S w w2:=h.then_ h2 fun _ hk => .inl hk
theorem Far.more (h:Far S w w1) (h2:Below w1.heap.size w1 w2):Far S w w2:=h.trans (Far.of_below h2)
theorem Far.blk (h:Far S w w') (hb:Blk w g t cs) (hg:some g ∉ S):Blk w' g t cs:=(h.block g hb.lt hg).trans hb
theorem Far.own {base size n:Nat} {e:TypeId} {v:Value} {xs:List Value} (h:Far S w w') (ho:w.ownsRow base e size v n xs) (hv : ∀ k,v.ownBlock=some k→some k ∉ S):w'.ownsRow base e size v n xs:=by
 have hlt:=World.ownsRow.lt ho
 refine ⟨ho.1,?_⟩
 rcases ho.2 with hn | ⟨g,cap,cur,rfl,hb,hgg,rest⟩
 ·exact .inl hn
 ·exact .inr ⟨g,cap,cur,rfl,hb,(h.block g (hlt g rfl).2 (hv g rfl)).trans hgg,rest⟩
theorem Far.range {o:Nat} {cs:List Value} (h:Far S w w') (hr:w.rangeAt g o cs) (hlt:g<w.heap.size) (hg:some g ∉ S):w'.rangeAt g o cs:=fun j u hu=>by
 rw [World.cell?_of_block (w:=w) (h.block g hlt hg)]
 exact hr j u hu
theorem Far.below (h:Far S w w') (hB:B≤w.heap.size) (hS : ∀ k,some k∈S→B≤k):Below B w w':=
 ⟨h.os,h.tape,h.output,h.size,fun k hk=>h.block k (Nat.lt_of_lt_of_le hk hB) fun e=>by have:=hS k e;omega⟩
theorem Far.drew (h:Far S w w'):Far S w w'.drew:=⟨h.os,h.tape,h.output,h.size,h.block⟩
theorem Far.drewN (h:Far S w w') (n:Nat):Far S w (w'.drewN n):=⟨h.os,h.tape,h.output,h.size,h.block⟩
theorem Far.alloc (h:Far S w w') (o:Obj):Far S w (w'.alloc o):=h.more ((Below.refl _ _).alloc (Nat.le_refl _) o)
theorem Far.set_ (h:Far S w w') {p:Addr} (hp:some p.block∈S∨w.heap.size≤p.block) (v:Value):Far S w (w'.setCell p v):=
 ⟨h.os,h.tape,h.output,by rw [World.size_setCell];exact h.size,fun k hk hn=>by
  refine (Below.heap_setCell w' p v k fun e=>?_).trans (h.block k hk hn)
  rcases hp with hp | hp
  ·exact hn (e▸hp)
  ·omega⟩
theorem Far.cells (hg:some g∈S∨w.heap.size≤g) : ∀ (vs:List Value) (o:Nat) (w':World),Far S w w'→Far S w (w'.setCells g o vs)
 | [],_,_,h=>h
 | v::r,o,w',h=>Far.cells hg r (o+1) _ (h.set_ (p:=⟨g,o,none⟩) hg v)
theorem Newer.refl (w:World) (v:Value):Newer w v v := .inl rfl
theorem Newer.then_ {v v1 v2:Value} (h:Newer w v v1) (h2:Newer w1 v1 v2) (hs:w.heap.size≤w1.heap.size):Newer w v v2:=by
 rcases h2 with h2 | h2
 ·rcases h with h | h
  ·exact .inl (h2.trans h)
  ·exact .inr fun k hk=>h k (h2▸hk)
 ·exact .inr fun k hk=>Nat.le_trans hs (h2 k hk)
theorem Newer.ne {v v':Value} (h:Newer w v v') (hg:g<w.heap.size) (hne:v.ownBlock≠some g):v'.ownBlock≠some g:=by
 rcases h with h | h
 ·rwa [h]
 ·intro e
  have:=h g e
  omega
end
theorem zDw {P:Program} {ops:Array Oper} {rest:List Oper} {a:Act} {w:World} {Q:Exit→Act→World→Prop} {d:Option Tmp} {rt:TypeId} {pos:String} {af:Array Edge}
 (s x:Operand) (c:Nat) (t:TypeId) {e:TypeId} {z:Value} {size bytes:Nat} (hT:SliceTy P t e z size bytes) {base n:Nat} {v:Value} {xs:List Value} (hown:w.ownsRow base e size v n xs)
 {k m:Nat} {t':TypeId} {cs:Array Value} (hcs:Blk w k t' cs) (hl:cs.size=m*size) (h1 : ∀ u∈cs.toList,u.oneCell'=true)
 (h63:n+m≤9223372036854775807) (hbytes:(n+m)*bytes≤140737488355328) (hbase:base≤w.heap.size) (hs:a.eval s=v) (hx:a.eval x = .slice (some ⟨k,0,none⟩) m c)
 (h : ∀ v' w',w'.ownsRow base e size v' (n+m) (xs++cs.toList)→w.grownBy w' v.ownBlock→Newer w v v'→wpList P ops Q rest (a.put d v') w') :
 wpList P ops Q ({ dst:=d,op := .call { callee := .builtin .append,args := #[s,x],argTypes := #[t,t] },type:=rt,pos:=pos,after:=af,guard:=none }::rest) a w:=by
 obtain ⟨i,i1,i2,i3,i4⟩:=hT.hi
 refine wpList_append_own_at w rfl s x t rfl base e i z size bytes hT.ht i1 i2 i3 i4 hT.hzs hT.hsz v n xs hs hown ⟨k,0,none⟩ m c cs.toList hx (by simpa using hl) (zCV hcs) h1 (by simp only [maxLen];omega) hbytes hbase ?_
 intro v' w' hown' hg _ hat
 refine h v' w' hown' hg ?_
 rcases hat with hat | hat
 ·exact .inl hat
 ·refine .inr fun k hk=>?_
  rw [hat] at hk
  injection hk with hk
  omega
theorem grown_of_below {w w':World} (h:Below w.heap.size w w') (row:Option Nat):w.grownBy w' row:=⟨h.os,h.tape,h.output,h.size,fun k hk _=>h.block k hk⟩
theorem lit_new {P:Program} {ops:Array Oper} {rest:List Oper} {a:Act} {w:World} {Q:Exit→Act→World→Prop} {d:Option Tmp} {rt:TypeId} {pos:String} {af:Array Edge}
 (ty:TypeId) (x y:Operand) (cs:Array Value) (k:Nat) (hk:(P.info? ty).map (·.size)=some k) (hcs:cs.size=k) (h1:cs.all (·.oneCell')=true) (zs:Array Value) (hz:zs.size=k) (hx:a.eval x = .pointer (some ⟨w.heap.size,0,none⟩)) (hy:a.eval y = .agg cs)
 (h : ∀ W1,Blk W1 w.heap.size ty cs→Below w.heap.size w W1→wpList P ops Q rest (a.put d undef) W1) :
 wpList P ops Q ({ dst:=d,op := .store ty x y,type:=rt,pos:=pos,after:=af,guard:=none }::rest) a (w.alloc (.cells zs ty)):=
 zBD rfl ty x y rfl cs zs hx hy (by rw [hcs];exact hk) (hz.trans hcs.symm) h1 h
end
theorem zC5 {P:Program} {w:World} {ops:Array Oper} {rest:List Oper} {a:Act} {Q:Exit→Act→World→Prop} {d:Option Tmp} {T rt:TypeId} {pos:String} {af:Array Edge} {fs:Array (Nat×Operand)} (vals:List (Nat×Value)) (cs:Array Value) (hb:P.built T vals=some cs)
 (hv:(fs.map fun (i,x)=>(i,a.eval x)).toList=vals) (h:wpList P ops Q rest (a.put d (.agg cs)) w):wpList P ops Q ({ dst:=d,op := .build T fs,type:=rt,pos:=pos,after:=af,guard:=none }::rest) a w:=
 wpList_plain rfl fun _ hK=>wp_build _ _ rfl (by rw [hv,hb];rfl) (by rw [hv,hb];exact hK _ _ h)
theorem zA6 {P:Program} {w:World} {ops:Array Oper} {rest:List Oper} {a:Act} {Q:Exit→Act→World→Prop} {d:Option Tmp} {T rt:TypeId} {pos:String} {af:Array Edge} {i0:Nat} {x0:Operand} {v0:Value} {cs:Array Value} (hb:P.built T [(i0,v0)]=some cs)
 (h0:a.eval x0=v0) (h:wpList P ops Q rest (a.put d (.agg cs)) w):wpList P ops Q ({ dst:=d,op := .build T #[(i0,x0)],type:=rt,pos:=pos,after:=af,guard:=none }::rest) a w:=
 zC5 [(i0,v0)] cs hb (by simp [h0]) h
theorem lit_build2 {P:Program} {w:World} {ops:Array Oper} {rest:List Oper} {a:Act} {Q:Exit→Act→World→Prop} {d:Option Tmp} {T rt:TypeId} {pos:String} {af:Array Edge} {i0 i1:Nat} {x0 x1:Operand} {v0 v1:Value} {cs:Array Value} (hb:P.built T [(i0,v0),(i1,v1)]=some cs)
 (h0:a.eval x0=v0) (h1:a.eval x1=v1) (h:wpList P ops Q rest (a.put d (.agg cs)) w):wpList P ops Q ({ dst:=d,op := .build T #[(i0,x0),(i1,x1)],type:=rt,pos:=pos,after:=af,guard:=none }::rest) a w:=
 zC5 [(i0,v0),(i1,v1)] cs hb (by simp [h0,h1]) h
theorem lit_build3 {P:Program} {w:World} {ops:Array Oper} {rest:List Oper} {a:Act} {Q:Exit→Act→World→Prop} {d:Option Tmp} {T rt:TypeId} {pos:String} {af:Array Edge} {i0 i1 i2:Nat} {x0 x1 x2:Operand} {v0 v1 v2:Value} {cs:Array Value} (hb:P.built T [(i0,v0),(i1,v1),(i2,v2)]=some cs)
 (h0:a.eval x0=v0) (h1:a.eval x1=v1) (h2:a.eval x2=v2) (h:wpList P ops Q rest (a.put d (.agg cs)) w):wpList P ops Q ({ dst:=d,op := .build T #[(i0,x0),(i1,x1),(i2,x2)],type:=rt,pos:=pos,after:=af,guard:=none }::rest) a w:=
 zC5 [(i0,v0),(i1,v1),(i2,v2)] cs hb (by simp [h0,h1,h2]) h
theorem zCJ {P:Program} {w:World} {ops:Array Oper} {rest:List Oper} {a:Act} {Q:Exit→Act→World→Prop} {d:Option Tmp} {T rt:TypeId} {pos:String} {af:Array Edge} {i0 i1 i2 i3:Nat} {x0 x1 x2 x3:Operand} {v0 v1 v2 v3:Value} {cs:Array Value} (hb:P.built T [(i0,v0),(i1,v1),(i2,v2),(i3,v3)]=some cs)
 (h0:a.eval x0=v0) (h1:a.eval x1=v1) (h2:a.eval x2=v2) (h3:a.eval x3=v3) (h:wpList P ops Q rest (a.put d (.agg cs)) w):wpList P ops Q ({ dst:=d,op := .build T #[(i0,x0),(i1,x1),(i2,x2),(i3,x3)],type:=rt,pos:=pos,after:=af,guard:=none }::rest) a w:=
 zC5 [(i0,v0),(i1,v1),(i2,v2),(i3,v3)] cs hb (by simp [h0,h1,h2,h3]) h
theorem zAN {P:Program} {w:World} {ops:Array Oper} {rest:List Oper} {a:Act} {Q:Exit→Act→World→Prop} {d:Option Tmp} {rt:TypeId} {pos:String} {af:Array Edge} (x:Operand) {t e:TypeId} {z:Value} {size bytes:Nat} (hT:SliceTy P t e z size bytes) (cs:Array Value) (hcs:cs.size=size) (hsm:size≤1000) (hx:a.eval x = .agg cs)
 (h:wpList P ops Q rest (a.put d (.slice (some ⟨w.heap.size,0,none⟩) 1 1)) (w.alloc (.cells cs e))) :
 wpList P ops Q ({ dst:=d,op := .buildSlice t 1 #[(0,x)],type:=rt,pos:=pos,after:=af,guard:=none }::rest) a w:=
 wpList_plain rfl fun _ hK=>by
  have e1:((#[(0,x)]:Array (Nat×Operand)).map fun (i,x)=>(i,a.eval x)) = #[(0, .agg cs)]:=by simp [hx]
  have hrun:(Instr.buildSlice t 1 #[(0, .agg cs)]).run P w = .ok (.slice (some ⟨w.heap.size,0,none⟩) 1 1) (w.alloc (.cells cs e)):=by
   obtain ⟨it,hi,hz,hs,hb⟩:=hT.hi
   have h0:=hT.hsz
   refine run_buildSlice w _ _ 1 _ _ it _ hT.ht hi hz (by rw [hs];omega) (by rw [hs];omega) ?_
   rw [hs]
   have:=Great.fill_whole (s:=size) (by omega) [Value.agg cs] ((Array.range (1*size)).map (z.cells[· % z.cells.size]!)) (by
    intro v hv
    simp at hv
    subst hv
    exact hcs) (by simp)
   simpa [Value.cells] using this
  unfold Oper.wp execOp
  simp only [Sem.run_bind,e1,hrun,Result.andThen_ok]
  exact hK _ _ h
theorem zAl {P:Program} {ops:Array Oper} {rest:List Oper} {a:Act} {W:World} {Q:Exit→Act→World→Prop} {d:Option Tmp} {rt:TypeId} {pos:String} {af:Array Edge}
 (s x:Operand) (c:Nat) (t:TypeId) {e:TypeId} {z:Value} {size bytes:Nat} (hT:SliceTy P t e z size bytes) {base n:Nat} {v:Value} {xs:List Value} (hown:W.ownsRow base e size v n xs)
 (cs:Array Value) {t':TypeId} (hl:cs.size=1*size) (h1 : ∀ u∈cs.toList,u.oneCell'=true) (h63:n+1≤9223372036854775807) (hbytes:(n+1)*bytes≤140737488355328) (hbase:base≤W.heap.size)
 (hs:a.eval s=v) (hx:a.eval x = .slice (some ⟨W.heap.size,0,none⟩) 1 c)
 (h : ∀ v' w',w'.ownsRow base e size v' (n+1) (xs++cs.toList)→Below base W w'→W.grownBy w' v.ownBlock→Newer W v v'→wpList P ops Q rest (a.put d v') w') :
 wpList P ops Q ({ dst:=d,op := .call { callee := .builtin .append,args := #[s,x],argTypes := #[t,t] },type:=rt,pos:=pos,after:=af,guard:=none }::rest) a (W.alloc (.cells cs t')):=by
 have hb0:Below W.heap.size W (W.alloc (.cells cs t')):=(Below.refl _ _).alloc (Nat.le_refl _) _
 have hown':=zAf hown hb0
 refine zDw s x c t hT hown' (Blk.new W t' cs) hl h1 h63 hbytes (Nat.le_trans hbase hb0.size) hs hx ?_
 intro v' w' ho hg hn
 have hbel:Below base W w':=(hb0.mono hbase).grown hg (Nat.le_trans hbase hb0.size) (fun k hk=>(World.ownsRow.lt hown' k hk).1)
 have hg':W.grownBy w' v.ownBlock:=⟨hbel.os,hbel.tape,hbel.output,hbel.size,fun k hk hne=>(hg.block k (Nat.lt_of_lt_of_le hk hb0.size) hne).trans (hb0.block k hk)⟩
 exact h v' w' ho hbel hg' ((Newer.refl W v).then_ hn hb0.size)
section
def Stage (ap st:Nat) (P1 P2 P3:World→Prop) (listed:Array Bool) (w:World):Prop:=
 if listed.getD st false=true then P3 w else if listed.getD ap false=true then P2 w else P1 w
section
variable {ap st i n:Nat} {P1 P2 P3:World→Prop} {listed:Array Bool} {w w':World}
theorem zAB {l:Array Bool} {i j:Nat} (h:i≠j):(l.setIfInBounds i true).getD j false=l.getD j false:=by
 simp only [Array.getD_eq_getD_getElem?,Array.getElem?_setIfInBounds]
 rw [if_neg h]
theorem zDA {l:Array Bool} {i:Nat} (h:i<l.size):(l.setIfInBounds i true).getD i false=true:=by
 simp [Array.getD_eq_getD_getElem?,Array.getElem?_setIfInBounds,h]
theorem zBa (n i:Nat):(Array.replicate n false).getD i false=false:=by
 simp only [Array.getD_eq_getD_getElem?,Array.getElem?_replicate]
 split<;>rfl
theorem Stage.same (h:Stage ap st P1 P2 P3 listed w) (h1:i≠ap) (h2:i≠st):Stage ap st P1 P2 P3 (listed.setIfInBounds i true) w:=by
 unfold Stage at *
 rwa [zAB h1,zAB h2]
theorem Stage.start (h:P1 w):Stage ap st P1 P2 P3 (Array.replicate n false) w:=by
 unfold Stage
 rw [zBa,zBa,if_neg (by simp),if_neg (by simp)]
 exact h
theorem Stage.one (h:Stage ap st P1 P2 P3 listed w) (ha:listed.getD ap false=false) (hs:listed.getD st false=false):P1 w:=by
 unfold Stage at h
 rwa [ha,hs,if_neg (by simp),if_neg (by simp)] at h
theorem Stage.two (h:Stage ap st P1 P2 P3 listed w) (ha:listed.getD ap false=true) (hs:listed.getD st false=false):P2 w:=by
 unfold Stage at h
 rwa [ha,hs,if_neg (by simp),if_pos rfl] at h
theorem Stage.three (h:Stage ap st P1 P2 P3 listed w) (hs:listed.getD st false=true):P3 w:=by
 unfold Stage at h
 rwa [hs,if_pos rfl] at h
theorem Stage.to1 (h:P1 w) (ha:listed.getD ap false=false) (hs:listed.getD st false=false) (h1:i≠ap) (h2:i≠st):Stage ap st P1 P2 P3 (listed.setIfInBounds i true) w:=by
 unfold Stage
 rw [zAB h1,zAB h2,ha,hs,if_neg (by simp),if_neg (by simp)]
 exact h
theorem Stage.to2 (h:P2 w) (hs:listed.getD st false=false) (hi:ap<listed.size) (hne:ap≠st):Stage ap st P1 P2 P3 (listed.setIfInBounds ap true) w:=by
 unfold Stage
 rw [zAB hne,zDA hi,hs,if_neg (by simp),if_pos rfl]
 exact h
theorem Stage.to3 (h:P3 w) (hi:st<listed.size):Stage ap st P1 P2 P3 (listed.setIfInBounds st true) w:=by
 unfold Stage
 rw [zDA hi,if_pos rfl]
 exact h
end
def StR (V:Nat→Value) (li ap:Nat) (L Q:Value→World→Prop) (i:Nat) (v:Value) (w:World):Prop:=if i=li then L v w else if i=ap then Q v w else v=V i
section
variable {V:Nat→Value} {li ap i:Nat} {L Q:Value→World→Prop} {v:Value} {w w':World}
theorem StR.at_ (h:StR V li ap L Q i v w) (h1:i≠li) (h2:i≠ap):v=V i:=by
 unfold StR at h
 rwa [if_neg h1,if_neg h2] at h
theorem StR.mk (h1:i≠li) (h2:i≠ap) (h:v=V i):StR V li ap L Q i v w:=by
 unfold StR
 rwa [if_neg h1,if_neg h2]
theorem StR.lit (h:StR V li ap L Q li v w):L v w:=by
 unfold StR at h
 rwa [if_pos rfl] at h
theorem StR.mkLit (h:L v w):StR V li ap L Q li v w:=by
 unfold StR
 rwa [if_pos rfl]
theorem StR.app (h:StR V li ap L Q ap v w) (hne:ap≠li):Q v w:=by
 unfold StR at h
 rwa [if_neg hne,if_pos rfl] at h
theorem StR.mkApp (h:Q v w) (hne:ap≠li):StR V li ap L Q ap v w:=by
 unfold StR
 rwa [if_neg hne,if_pos rfl]
theorem StR.keepL (hL : ∀ v,L v w→L v w') (hne:i≠ap) (h:StR V li ap L Q i v w):StR V li ap L Q i v w':=by
 unfold StR at *
 split
 ·rename_i hj;rw [if_pos hj] at h;exact hL v h
 ·rename_i hj
  rw [if_neg hj,if_neg hne] at h
  first
   | exact h
   | (rw [if_neg hne];exact h)
theorem StR.keepN (h1:i≠li) (h2:i≠ap) (h:StR V li ap L Q i v w):StR V li ap L Q i v w':=by
 unfold StR at *
 rwa [if_neg h1,if_neg h2] at *
theorem StR.keep (hL : ∀ v,L v w→L v w') (hQ : ∀ v,Q v w→Q v w') (j:Nat) (u:Value) (h:StR V li ap L Q j u w):StR V li ap L Q j u w':=by
 unfold StR at *
 split
 ·rename_i hj;rw [if_pos hj] at h;exact hL u h
 ·rename_i hj
  rw [if_neg hj] at h
  split
  ·rename_i hj2;rw [if_pos hj2] at h;exact hQ u h
  ·rename_i hj2;rwa [if_neg hj2] at h
end
theorem wp_skip {P:Program} {o:Oper} {a:Act} {w w':World} {K:Act→World→Prop} {Q:Exit→Act→World→Prop} (hrun:(execOp a.eval o).run P w = .ok .skip w') (hK:K (a.put o.dst undef) w'):o.wp P a w K Q:=by
 unfold Oper.wp
 rw [hrun]
 exact hK
theorem map1 {a:Act} {x:Operand} {v:Value} (h:a.eval x=v) : #[x].map a.eval = #[v]:=by simp [h]
theorem map3 {a:Act} {x y z:Operand} {v u t:Value} (h:a.eval x=v) (h2:a.eval y=u) (h3:a.eval z=t) : #[x,y,z].map a.eval = #[v,u,t]:=by simp [h,h2,h3]
theorem zCz {P:Program} {o:Oper} {a:Act} {w:World} {K:Act→World→Prop} {Q:Exit→Act→World→Prop} {f:FuncId} {args:Array Operand} {tys:Array TypeId} (ho:o.op = .call { callee := .value (.func f),args:=args,argTypes:=tys })
 {vals:Array Value} (hv:args.map a.eval=vals) (hcf:(callFunc f vals).run P w = .ok (.enter f vals) w) {R:Ending→World→Prop} (hc:Calls P f vals w R) (hK : ∀ e w',R e w' → ∃ v,e = .returned v∧K (a.put o.dst v) w'):o.wp P a w K Q:=by
 subst hv
 unfold Oper.wp execOp
 simp only [ho]
 go_simp
 refine hc.mono ?_
 intro e w' hR
 obtain ⟨v,rfl,hk⟩:=hK e w' hR
 exact hk
theorem build_step {P:Program} {o:Oper} {a:Act} {w:World} {K:Act→World→Prop} {Q:Exit→Act→World→Prop} {T:TypeId} {fs:Array (Nat×Operand)} (ho:o.op = .build T fs) {vals:List (Nat×Value)} {cs:Array Value} (hb:P.built T vals=some cs)
 (hv:(fs.map fun (i,x)=>(i,a.eval x)).toList=vals) (h:K (a.put o.dst (.agg cs)) w):o.wp P a w K Q:=
 wp_build _ _ ho (by rw [hv,hb];rfl) (by rw [hv,hb];exact h)
theorem parts2 {a:Act} {i j:Nat} {x y:Operand} {v u:Value} (h:a.eval x=v) (h2:a.eval y=u):((#[(i,x),(j,y)]:Array (Nat×Operand)).map fun (i,x)=>(i,a.eval x)).toList=[(i,v),(j,u)]:=by simp [h,h2]
theorem parts3 {a:Act} {i j k:Nat} {x y z:Operand} {v u t:Value} (h:a.eval x=v) (h2:a.eval y=u) (h3:a.eval z=t):((#[(i,x),(j,y),(k,z)]:Array (Nat×Operand)).map fun (i,x)=>(i,a.eval x)).toList=[(i,v),(j,u),(k,t)]:=by simp [h,h2,h3]
theorem slot_is {a:Act} {t:Nat} {v:Value} (h:a.tmps[t]?.getD undef=v):a.eval (.tmp t)=v:=(zAd a t).symm.trans h
structure F1 (B gO:Nat) (TO:TypeId) (cO:Array Value) (e:TypeId) (k:Nat) (ve:Value) (n:Nat) (xs:List Value) (I J:World→Prop) (w:World):Prop where
 blk:Blk w gO TO cO
 own:w.ownsRow B e k ve n xs
 inv:I w
 pre:J w
 size:B≤w.heap.size
structure F2 (B gO:Nat) (TO:TypeId) (cO:Array Value) (I:World→Prop) (w:World):Prop where
 blk:Blk w gO TO cO
 inv:I w
 size:B≤w.heap.size
def F3 (B gO off:Nat) (TO:TypeId) (cO:Array Value) (e:TypeId) (k:Nat) (n:Nat) (xs ys:List Value) (I:World→Prop) (w:World):Prop:=
 ∃ v',Blk w gO TO (cO.setIfInBounds off v')∧w.ownsRow B e k v' (n+1) (xs++ys)∧I w∧B≤w.heap.size
def LitR (B:Nat) (e:TypeId) (ve:Value) (ys:List Value) (v:Value) (w:World):Prop := ∃ b,v = .slice (some ⟨b,0,none⟩) 1 1∧Blk w b e ys.toArray∧B≤b∧ve.ownBlock≠some b
def AppR (B:Nat) (e:TypeId) (k n:Nat) (xs ys:List Value) (v:Value) (w:World):Prop:=w.ownsRow B e k v (n+1) (xs++ys)
section
variable {B gO off:Nat} {TO e:TypeId} {cO:Array Value} {k:Nat} {ve:Value} {n:Nat} {xs ys:List Value} {I J:World→Prop} {w w':World}
theorem F1.below (h:F1 B gO TO cO e k ve n xs I J w) (hb:Below w.heap.size w w') (hI:I w') (hJ:J w'):F1 B gO TO cO e k ve n xs I J w':=
 ⟨h.blk.below hb h.blk.lt,zAf h.own hb,hI,hJ,Nat.le_trans h.size hb.size⟩
theorem F1.far {S:List (Option Nat)} (h:F1 B gO TO cO e k ve n xs I J w) (hf:Far S w w') (hO:some gO ∉ S) (hS : ∀ k,some k∈S→k<B) (hI:I w') (hJ:J w'):F1 B gO TO cO e k ve n xs I J w':=
 ⟨hf.blk h.blk hO,hf.own h.own (fun k hk hm=>by have h1:=(World.ownsRow.lt h.own k hk).1;have h2:=hS k hm;omega),hI,hJ,Nat.le_trans h.size hf.size⟩
theorem LitR.below {v:Value} (h:LitR B e ve ys v w) (hb:Below w.heap.size w w'):LitR B e ve ys v w':=by
 obtain ⟨b,h1,h2,h3,h4⟩:=h
 exact ⟨b,h1,h2.below hb h2.lt,h3,h4⟩
theorem AppR.below {v:Value} (h:AppR B e k n xs ys v w) (hb:Below w.heap.size w w'):AppR B e k n xs ys v w':=zAf h hb
theorem LitR.set_ {v:Value} {p:Addr} (h:LitR B e ve ys v w) (hp:p.block<B) (u:Value):LitR B e ve ys v (w.setCell p u):=by
 obtain ⟨b,h1,h2,h3,h4⟩:=h
 exact ⟨b,h1,h2.far (by omega) u,h3,h4⟩
theorem own_set {v:Value} {m:Nat} {zs:List Value} {p:Addr} (h:w.ownsRow B e k v m zs) (hp:p.block<B) (u:Value):(w.setCell p u).ownsRow B e k v m zs:=by
 refine Far.own (S:=[some p.block]) ((Far.refl _ w).set_ (.inl (by simp)) u) h ?_
 intro q hq
 have:=(World.ownsRow.lt h q hq).1
 simp;omega
variable {P:Program}
theorem zCg {a:Act} {o:Oper} {K:Act→World→Prop} {Q:Exit→Act→World→Prop} {x:Operand} {t:TypeId} {z:Value} {size bytes:Nat} (ho:o.op = .buildSlice t 1 #[(0,x)]) (hT:SliceTy P t e z size bytes) (hle:size≤65536) (hy:ys.length=size) (hx:a.eval x = .agg ys.toArray∨(size=1∧ys=[a.eval x]∧(a.eval x).cells = #[a.eval x]))
 (h:K (a.put o.dst (.slice (some ⟨w.heap.size,0,none⟩) 1 1)) (w.alloc (.cells ys.toArray e))):o.wp P a w K Q:=by
 obtain ⟨v,hv,hc⟩ : ∃ v,a.eval x=v∧v.cells.toList=ys:=by
  rcases hx with hx | ⟨_,h2,h3⟩
  ·exact ⟨_,hx,by simp [Value.cells]⟩
  ·exact ⟨_,rfl,by rw [h3,h2]⟩
 have e1:((#[(0,x)]:Array (Nat×Operand)).map fun (i,x)=>(i,a.eval x)) = #[(0,v)]:=by simp [hv]
 have hrun:(Instr.buildSlice t 1 #[(0,v)]).run P w = .ok (.slice (some ⟨w.heap.size,0,none⟩) 1 1) (w.alloc (.cells ys.toArray e)):=by
  obtain ⟨it,hi,hz,hs,hb⟩:=hT.hi
  have h0:=hT.hsz
  refine run_buildSlice w _ _ 1 _ _ it _ hT.ht hi hz (by rw [hs];omega) (by rw [hs];omega) ?_
  rw [hs]
  have:=Great.fill_whole (s:=size) (by omega) [v] ((Array.range (1*size)).map (z.cells[· % z.cells.size]!)) (by
   intro u hu
   simp at hu
   subst hu
   rw [←Array.length_toList,hc]
   exact hy) (by simp)
  simpa [hc] using this
 unfold Oper.wp execOp
 simp only [ho,Sem.run_bind,e1,hrun,Result.andThen_ok]
 exact h
theorem zD7 {a:Act} {o:Oper} {K:Act→World→Prop} {Q:Exit→Act→World→Prop} {s x:Operand} {t:TypeId} {z:Value} {bytes:Nat} (ho:o.op = .call { callee := .builtin .append,args := #[s,x],argTypes := #[t,t] }) (hT:SliceTy P t e z k bytes)
 (h:F1 B gO TO cO e k ve n xs I J w) (hgO:gO<B) {v:Value} (hl:LitR B e ve ys v w) (hy:ys.length=k) (h1 : ∀ u∈ys,u.oneCell'=true) (h63:n+1≤9223372036854775807) (hbytes:(n+1)*bytes≤140737488355328)
 (hI : ∀ w',Below B w w'→I w') (hs:a.eval s=ve) (hx:a.eval x=v)
 (hK : ∀ v' w',F2 B gO TO cO I w'→AppR B e k n xs ys v' w'→(∀ u,LitR B e ve ys u w→LitR B e ve ys u w')→Below B w w'→K (a.put o.dst v') w'):o.wp P a w K Q:=by
 obtain ⟨b,rfl,hb,hB,hne⟩:=hl
 refine wp_append_blk s x t ho e z k bytes hT B ve n xs hs h.own b 1 1 e ys.toArray hx hb (by simpa using hy) (by simpa using h1) h63 hbytes w (Below.refl _ _) h.size ?_
 intro v' w' hown hbel hgr
 refine hK v' w' ⟨(hbel.block gO hgO).trans h.blk,hI w' hbel,Nat.le_trans h.size hgr.size⟩ (by simpa [AppR] using hown) ?_ hbel
 rintro u ⟨b2,g1,g2,g3,g4⟩
 exact ⟨b2,g1,g2.grown hgr (fun e=>g4 e.symm),g3,g4⟩
theorem F2.stored (h:F2 B gO TO cO I w) {v:Value} (hv:AppR B e k n xs ys v w) (hgO:gO<B) (hI:I (w.setCell ⟨gO,off,none⟩ v)):F3 B gO off TO cO e k n xs ys I (w.setCell ⟨gO,off,none⟩ v):=
 ⟨v,h.blk.set_ off v,own_set hv hgO v,hI,by rw [World.size_setCell];exact h.size⟩
theorem AppR.set_ {v:Value} {p:Addr} (h:AppR B e k n xs ys v w) (hp:p.block<B) (u:Value):AppR B e k n xs ys v (w.setCell p u):=own_set h hp u
end
end
section
section
variable {P:Program} {ops:Array Oper} {a0:Act} {C:Array Bool→Act→World→Prop} {R:Nat→Value→World→Prop} {Q:Exit→Act→World→Prop}
end
structure VarC (al st s:Nat) (T:TypeId) (B:Nat) (Z cs:Array Value) (I:World→Prop) (listed:Array Bool) (a:Act) (w:World):Prop where
 inv:I w
 size:B≤w.heap.size
 at_:listed.getD al false=true → ∃ b,a.eval (.tmp s) = .pointer (some ⟨b,0,none⟩)∧B≤b∧Blk w b T (if listed.getD st false=true then cs else Z)
section
variable {al st s i:Nat} {T:TypeId} {B:Nat} {Z cs:Array Value} {I:World→Prop} {listed:Array Bool} {a:Act} {w w':World}
theorem eval_put {d:Option Tmp} {v:Value} (h:d≠some s):(a.put d v).eval (.tmp s)=a.eval (.tmp s):=by
 simp only [Act.eval,Array.getD_eq_getD_getElem?,put_at h]
theorem VarC.start {n:Nat} (hI:I w) (hB:B≤w.heap.size):VarC al st s T B Z cs I (Array.replicate n false) a w:=⟨hI,hB,fun h=>by rw [zBa] at h;cases h⟩
theorem VarC.below (h:VarC al st s T B Z cs I listed a w) (h1:i≠al) (h2:i≠st) {d:Option Tmp} {v:Value} (hd:d≠some s) (hb:Below w.heap.size w w') (hI:I w'):VarC al st s T B Z cs I (listed.setIfInBounds i true) (a.put d v) w':=
 ⟨hI,Nat.le_trans h.size hb.size,fun hl=>by
  rw [zAB h1] at hl
  rw [zAB h2]
  obtain ⟨b,e1,e2,e3⟩:=h.at_ hl
  exact ⟨b,by rw [eval_put hd];exact e1,e2,e3.below hb e3.lt⟩⟩
theorem VarC.same (h:VarC al st s T B Z cs I listed a w) (h1:i≠al) (h2:i≠st) {d:Option Tmp} {v:Value} (hd:d≠some s):VarC al st s T B Z cs I (listed.setIfInBounds i true) (a.put d v) w:=h.below h1 h2 hd (Below.refl _ _) h.inv
variable {P:Program} {o:Oper} {K:Act→World→Prop} {Q:Exit→Act→World→Prop}
theorem alloc_step (ho:o.op = .alloc T) (hz:(zeroValue T).run P w = .ok (.agg Z) w) (h:K (a.put o.dst (.pointer (some ⟨w.heap.size,0,none⟩))) (w.alloc (.cells Z T))):o.wp P a w K Q:=by
 unfold Oper.wp execOp
 simp only [ho]
 go_simp
 exact h
theorem VarC.laid (h:VarC al st s T B Z cs I listed a w) (hs:listed.getD st false=false) (hne:al≠st) (ht:s<a.tmps.size) (hI:I (w.alloc (.cells Z T))):VarC al st s T B Z cs I (listed.setIfInBounds al true) (a.put (some s) (.pointer (some ⟨w.heap.size,0,none⟩))) (w.alloc (.cells Z T)):=
 ⟨hI,by rw [zBk];have:=h.size;omega,fun _=>⟨w.heap.size,by simp [Act.eval,Act.put,ht],h.size,by rw [zAB hne,hs,if_neg (by simp)];exact Blk.new _ _ _⟩⟩
theorem VarC.stored (h:VarC al st s T B Z cs I listed a w) (hl:listed.getD al false=true) (hs:listed.getD st false=false) (hi:st<listed.size) {y:Operand} (ho:o.op = .store T (.tmp s) y) (hy:a.eval y = .agg cs) (hsz:(P.info? T).map (·.size)=some cs.size) (hzc:Z.size=cs.size) (hone:cs.all (·.oneCell')=true) (hne:al≠st)
 (hd:o.dst=none) (hI : ∀ b,B≤b→I (w.setRow b cs)) (hK : ∀ w',(∃ b,B≤b∧b<w.heap.size∧w'=w.setRow b cs∧Blk w b T Z)→VarC al st s T B Z cs I (listed.setIfInBounds st true) (a.put o.dst undef) w'→K (a.put o.dst undef) w'):o.wp P a w K Q:=by
 obtain ⟨b,e1,e2,e3⟩:=h.at_ hl
 rw [hs,if_neg (by simp)] at e3
 refine wp_store_row T (.tmp s) y ho b cs e1 hy T Z e3 hsz hzc hone (hK _ ⟨b,e2,e3.lt,rfl,e3⟩ ⟨hI b e2,by simpa using h.size,fun _=>⟨b,by rw [hd];exact e1,e2,?_⟩⟩)
 rw [zDA hi,if_pos rfl]
 exact setRow_heap _ _ _ _ _ _ e3
end
end
end Go.Proofs.YtodebknbchaccaaGreatDoor
