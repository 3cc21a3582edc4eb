/- Texts of this claim, laid together: ShaR, StoP, GrP, Unhex0, NilS, StrId, Shelf, ObjN, Varint, ObjA, ObjB, ObjE, ObjM, ObjR, Bldr, ObjY, ObjZ, ObjC. -/
import Derived.Test.YtlojebhcemfodaaGreatDoorMc
import Derived.Test.YtlojebhcemfodaaGreatDoorProg
import Derived.Shelf.Strings.Builder1
import Derived.Shelf.Strings.Builder2
import Derived.Shelf.Strings.OnBuilder
import Derived.Shelf.Small.Strs
import Derived.Shelf.Strings.BuilderF
import Derived.Shelf.Strings.BuilderK
import Derived.Shelf.Strings.Builder2Cap
import Derived.Shelf.Strings.Search1
import Derived.Shelf.Strings.Prefix
import Derived.Shelf.Bits.Mul64
import Derived.Shelf.Strings.Repeat
import Derived.Shelf.Strings.BuilderCap
import Derived.Deep.DeepCutAuto
import Derived.BigQuiet
namespace Go.Proofs.YtlojebhcemfodaaGreatDoor
open Go.RowKit
/-- Eight words. -/
structure H8 where
 a:Nat
 b:Nat
 c:Nat
 d:Nat
 e:Nat
 f:Nat
 g:Nat
 h:Nat
def H8.list (s:H8):List Nat:=[s.a,s.b,s.c,s.d,s.e,s.f,s.g,s.h]
structure H8.Fit (s:H8):Prop where
 a:s.a<4294967296
 b:s.b<4294967296
 c:s.c<4294967296
 d:s.d<4294967296
 e:s.e<4294967296
 f:s.f<4294967296
 g:s.g<4294967296
 h:s.h<4294967296
def rndX (s:H8) (k w:Nat):Nat:=(s.h+sum1 s.e+((s.e &&& s.f) ^^^ ((4294967295 ^^^ s.e) &&& s.g))+k+w)%4294967296
def rndY (s:H8):Nat:=(sum0 s.a+((s.a &&& s.b) ^^^ (s.a &&& s.c) ^^^ (s.b &&& s.c)))%4294967296
/-- One round. -/
def rnd (s:H8) (k w:Nat):H8:=⟨(rndX s k w+rndY s)%4294967296,s.a,s.b,s.c,(s.d+rndX s k w)%4294967296,s.e,s.f,s.g⟩
/-- The constants. -/
def K256 : List Nat:=[1116352408,1899447441,3049323471,3921009573,961987163,1508970993,2453635748,2870763221,3624381080,310598401,607225278,1426881987,1925078388,2162078206,2614888103,3248222580,3835390401,4022224774,264347078,604807628,770255983,1249150122,1555081692,1996064986,2554220882,2821834349,2952996808,3210313671,3336571891,3584528711,113926993,338241895,666307205,773529912,1294757372,1396182291,1695183700,1986661051,2177026350,2456956037,2730485921,2820302411,3259730800,3345764771,3516065817,3600352804,4094571909,275423344,430227734,506948616,659060556,883997877,958139571,1322822218,1537002063,1747873779,1955562222,2024104815,2227730452,2361852424,2428436474,2756734187,3204031479,3329325298]
theorem K256_length : K256.length=64:=rfl
theorem K256_fit : Fit32 K256:=by
 intro i
 rcases Nat.lt_or_ge i 64 with h | h
 ·have : ∀ j:Fin 64,K256.getD j.val 0<4294967296:=by decide +kernel
  exact this ⟨i,h⟩
 ·rw [List.getD,List.getElem?_eq_none (by rw [K256_length];exact h)]
  decide
/-- Behind t rounds. -/
def after (ws:List Nat) (s:H8):Nat→H8
 | 0=>s
 | t+1=>rnd (after ws s t) (K256.getD t 0) (ws.getD t 0)
def add32 (x y:Nat):Nat:=(x+y)%4294967296
def H8.plus (v s:H8):H8:=⟨add32 v.a s.a,add32 v.b s.b,add32 v.c s.c,add32 v.d s.d,add32 v.e s.e,add32 v.f s.f,add32 v.g s.g,add32 v.h s.h⟩
/-- Behind a block. -/
def blockOf (s:H8) (b:List UInt8):H8:=(after (wordsOf b) s 64).plus s
/-- ... of which i words are added. -/
def mixed (v s:List Nat) (i:Nat):List Nat:=(List.zipWith add32 v s).take i++v.drop i
theorem mixed_length (v s:List Nat) (h:s.length=v.length) (i:Nat) (hi:i≤v.length):(mixed v s i).length=v.length:=by
 simp [mixed,h];omega
theorem mixed_get (v s:List Nat) (h:s.length=v.length) (i:Nat) (hi:i<v.length):(mixed v s i).getD i 0=v.getD i 0:=by
 have hl:((List.zipWith add32 v s).take i).length=i:=by simp [h];omega
 simp only [mixed,List.getD]
 rw [List.getElem?_append_right (by omega),hl,Nat.sub_self,List.getElem?_drop,Nat.add_zero]
theorem mixed_step (v s:List Nat) (h:s.length=v.length) (i:Nat) (hi:i<v.length):(mixed v s i).set i (add32 (v.getD i 0) (s.getD i 0))=mixed v s (i+1):=by
 have hl:((List.zipWith add32 v s).take i).length=i:=by simp [h];omega
 have hz:i<(List.zipWith add32 v s).length:=by simp [h];omega
 unfold mixed
 rw [List.set_append_right _ _ (by omega),hl,Nat.sub_self,List.drop_eq_getElem_cons hi,List.set_cons_zero,List.take_add_one,List.getElem?_eq_getElem hz,List.getElem_zipWith,List.append_assoc]
 simp [List.getD,List.getElem?_eq_getElem hi,List.getElem?_eq_getElem (show i<s.length by omega)]
theorem mixed_all (v s:H8):mixed v.list s.list 8=(v.plus s).list:=rfl
theorem add32_lt (x y:Nat):add32 x y<4294967296:=Nat.mod_lt _ (by omega)
theorem plus_fit (v s:H8):(v.plus s).Fit:=⟨add32_lt _ _,add32_lt _ _,add32_lt _ _,add32_lt _ _,add32_lt _ _,add32_lt _ _,add32_lt _ _,add32_lt _ _⟩
/-- The first words. -/
def H0 : H8:=⟨1779033703,3144134277,1013904242,2773480762,1359893119,2600822924,528734635,1541459225⟩
theorem H0_fit : H0.Fit:=by constructor<;>decide
/-- The padding behind n bytes. -/
def padLen (n:Nat):Nat:=(128-8-(n+1)%64)%64
def lenBytes (n:Nat):List UInt8:=(List.range 8).map fun i=>(8*n / 2 ^ (56-8*i)%256).toUInt8
def padded (l:List UInt8):List UInt8:=l++[128]++List.replicate (padLen l.length) 0++lenBytes l.length
/-- All blocks. -/
def blocks : Nat→H8→List UInt8→H8
 | 0,s,_=>s
 | n+1,s,l=>blocks n (blockOf s (l.take 64)) (l.drop 64)
def stateOf (l:List UInt8):H8:=blocks ((padded l).length / 64) H0 (padded l)
/-- The sum of a text: its 32 bytes. -/
def idOf (s:H8):List UInt8:=(List.range 32).map fun i=>(s.list.getD (i / 4) 0 / 2 ^ (24-8*(i%4))%256).toUInt8
def shaOf (l:List UInt8):List UInt8:=idOf (stateOf l)
theorem shaOf_length (l:List UInt8):(shaOf l).length=32:=by simp [shaOf,idOf]
end Go.Proofs.YtlojebhcemfodaaGreatDoor
namespace Go.Proofs.YtlojebhcemfodaaGreatDoor
open Go.RowKit
/-- What an item of a store is: its text is an object's, its id its sum. -/
def StIs (x:StL):Prop:=x.id=shaOf x.text ∧ ∃ o,decO x.text=some o
/-- A store's items: rising by ids. -/
structure StoOk (s:List StL):Prop where
 each : ∀ x∈s,StIs x
 sorted:SortedK StL.id s
 few:s.length≤500000
theorem decO_len {t:Txt} {o:ObjL} (h:decO t=some o):1≤t.length∧t.length≤4096:=by
 unfold decO at h
 split at h
 ·cases h
 ·split at h
  ·cases h
  ·rename_i h2
   exact ⟨by simp,by omega⟩
theorem StIs.ok {x:StL} (h:StIs x):StitOk x:=by
 obtain ⟨o,ho⟩:=h.2
 have:=decO_len ho
 exact ⟨by rw [h.1];exact shaOf_length _,by omega⟩
theorem StoOk.ok {s:List StL} (h:StoOk s) : ∀ x∈s,StitOk x:=fun x hx=>(h.each x hx).ok
theorem StoOk.nil : StoOk []:=⟨fun x hx=>by simp at hx,List.Pairwise.nil,by simp⟩
/-- A text is put. -/
def putS (s:List StL) (t:Txt):List StL:=match decO t with
 | none=>s
 | some _=>if hasK StL.id s (shaOf t) then s else insK StL.id s ⟨shaOf t,t⟩
def putI (t:Txt):Txt:=match decO t with
 | none=>List.replicate 32 0
 | some _=>shaOf t
def putC (t:Txt):Nat:=match decO t with
 | none=>2
 | some _=>0
theorem putS_eq (s:List StL) {t:Txt} (h:hasK StL.id s (shaOf t)=false):insK StL.id s ⟨shaOf t,t⟩=putK StL.id s ⟨shaOf t,t⟩:=by unfold putK;rw [h];rfl
theorem StoOk.put {s:List StL} (h:StoOk s) (t:Txt) (hf:s.length<500000):StoOk (putS s t):=by
 unfold putS
 split
 ·exact h
 ·rename_i o ho
  split
  ·exact h
  ·rename_i hh
   rw [putS_eq s (by simpa using hh)]
   refine ⟨fun x hx=>?_,sorted_put h.sorted,Nat.le_trans putK_len (by omega)⟩
   rcases putK_mem hx with h1 | h1
   ·exact h.each x h1
   ·subst h1
    exact ⟨rfl,o,ho⟩
/-- What stands at an id. -/
def getS (s:List StL) (n:Txt):Option StL:=s.find? fun r=>r.id==n
theorem hasK_atS {s:List StL} {n:Txt} {P:Nat} (h:hasK StL.id s n=true) (hG:getS s n=s[P]?):(s[P]?).isSome=true:=by
 rw [←hG]
 unfold getS
 unfold hasK at h
 rw [List.any_eq_true] at h
 obtain ⟨y,hy,hk⟩:=h
 rw [List.find?_isSome]
 exact ⟨y,hy,hk⟩
theorem getS_at {s:List StL} (h:StoOk s) (n:Txt):getS s n=if hasK StL.id s n then s[posK StL.id s n]? else none:=find_at h.sorted
end Go.Proofs.YtlojebhcemfodaaGreatDoor
namespace Go.Proofs.YtlojebhcemfodaaGreatDoor
open Go.RowKit
/-- The object that stands at an id. -/
def objS (S:List StL) (n:Txt):Option ObjL:=match getS S n with
 | some x=>decO x.text
 | none=>none
/-- What an object leads to, with a cut. -/
def cutO (cut:List Txt) (n:Txt) (o:ObjL):ObjL:=if o.kind=3∧inL cut n=true then { o with pars:=[] } else o
def nextO (cut:List Txt) (n:Txt) (o:ObjL):List Txt:=(linksL (cutO cut n o)).map LinkL.id
def nextS (S:List StL) (cut:List Txt) (n:Txt):List Txt:=match objS S n with
 | some o=>nextO cut n o
 | none=>[]
def isS (S:List StL) (n:Txt):Bool:=(objS S n).isSome
/-- Reached: in all that has what one goes from, and what it leads to. -/
def Rch (S:List StL) (cut ini:List Txt) (x:Txt):Prop := ∀ P:Txt→Prop,(∀ y∈ini,P y)→(∀ y z,P y→z∈nextS S cut y→P z)→P x
section
variable {S:List StL} {cut ini:List Txt}
theorem Rch.base {x:Txt} (h:x∈ini):Rch S cut ini x:=fun _ h1 _=>h1 x h
theorem Rch.step {x y:Txt} (h:Rch S cut ini x) (hy:y∈nextS S cut x):Rch S cut ini y:=fun P h1 h2=>h2 x y (h P h1 h2) hy
/-- A rising list of what is reached, and there (or not). -/
structure RchIs (S:List StL) (cut ini:List Txt) (b:Bool) (l:List Txt):Prop where
 rise:RiseL l
 mem : ∀ x,x∈l↔Rch S cut ini x∧isS S x=b
theorem RchIs.one {b:Bool} {l m:List Txt} (h:RchIs S cut ini b l) (h':RchIs S cut ini b m):l=m:=rise_one h.rise h'.rise fun x=>by rw [h.mem,h'.mem]
/-- One more id in a rising list. -/
theorem nextS_none {x:Txt} (h:isS S x=false):nextS S cut x=[]:=by
 unfold isS at h
 unfold nextS
 cases ho:objS S x with
 | none=>rfl
 | some o=>rw [ho] at h;cases h
/-- The stack. -/
structure StkI (S:List StL) (cut ini todo inn out:List Txt):Prop where
 ri:RiseL inn
 ro:RiseL out
 i1 : ∀ x∈inn,Rch S cut ini x∧isS S x=true
 o1 : ∀ x∈out,Rch S cut ini x∧isS S x=false
 t1 : ∀ x∈todo,Rch S cut ini x
 all : ∀ x∈ini,x∈inn∨x∈out∨x∈todo
 next : ∀ x∈inn, ∀ y∈nextS S cut x,y∈inn∨y∈out∨y∈todo
theorem StkI.start : StkI S cut ini ini [] []:=⟨List.Pairwise.nil,List.Pairwise.nil,by simp,by simp,fun x h => .base h,fun x h => .inr (.inr h),by simp⟩
theorem StkI.end_ {inn out:List Txt} (h:StkI S cut ini [] inn out):RchIs S cut ini true inn∧RchIs S cut ini false out:=by
 have key : ∀ x,Rch S cut ini x→x∈inn∨x∈out:=fun x hx=>hx (fun x=>x∈inn∨x∈out) (fun y hy=>by
  rcases h.all y hy with h1 | h1 | h1
  ·exact .inl h1
  ·exact .inr h1
  ·simp at h1) fun y z hy hz=>by
  rcases hy with hy | hy
  ·rcases h.next y hy z hz with h1 | h1 | h1
   ·exact .inl h1
   ·exact .inr h1
   ·simp at h1
  ·rw [nextS_none (h.o1 y hy).2] at hz
   simp at hz
 refine ⟨⟨h.ri,fun x=>⟨h.i1 x,fun hx=>?_⟩⟩,⟨h.ro,fun x=>⟨h.o1 x,fun hx=>?_⟩⟩⟩
 ·rcases key x hx.1 with h1 | h1
  ·exact h1
  ·rw [(h.o1 x h1).2] at hx;cases hx.2
 ·rcases key x hx.1 with h1 | h1
  ·rw [(h.i1 x h1).2] at hx;cases hx.2
  ·exact h1
variable {todo inn out:List Txt} {x:Txt}
theorem StkI.miss (h:StkI S cut ini (todo++[x]) inn out) (hx:isS S x=false):StkI S cut ini todo inn (insU out x):=by
 obtain ⟨r1,r2⟩:=insU_law h.ro x
 have hrx:=h.t1 x (by simp)
 refine ⟨h.ri,r1,h.i1,fun y hy=>?_,fun y hy=>h.t1 y (by simp [hy]),fun y hy=>?_,fun y hy z hz=>?_⟩
 ·rcases (r2 y).1 hy with h1 | rfl
  ·exact h.o1 y h1
  ·exact ⟨hrx,hx⟩
 ·rcases h.all y hy with h1 | h1 | h1
  ·exact .inl h1
  ·exact .inr (.inl ((r2 y).2 (.inl h1)))
  ·rcases List.mem_append.1 h1 with h1 | h1
   ·exact .inr (.inr h1)
   ·exact .inr (.inl ((r2 y).2 (.inr (List.mem_singleton.1 h1))))
 ·rcases h.next y hy z hz with h1 | h1 | h1
  ·exact .inl h1
  ·exact .inr (.inl ((r2 z).2 (.inl h1)))
  ·rcases List.mem_append.1 h1 with h1 | h1
   ·exact .inr (.inr h1)
   ·exact .inr (.inl ((r2 z).2 (.inr (List.mem_singleton.1 h1))))
theorem StkI.seen (h:StkI S cut ini (todo++[x]) inn out) (hx:x∈inn):StkI S cut ini todo inn out:=by
 have hm : ∀ y,y∈inn∨y∈out∨y∈todo++[x]→y∈inn∨y∈out∨y∈todo:=fun y hy=>by
  rcases hy with h1 | h1 | h1
  ·exact .inl h1
  ·exact .inr (.inl h1)
  ·rcases List.mem_append.1 h1 with h1 | h1
   ·exact .inr (.inr h1)
   ·rw [List.mem_singleton.1 h1];exact .inl hx
 exact ⟨h.ri,h.ro,h.i1,h.o1,fun y hy=>h.t1 y (by simp [hy]),fun y hy=>hm y (h.all y hy),fun y hy z hz=>hm z (h.next y hy z hz)⟩
theorem StkI.new (h:StkI S cut ini (todo++[x]) inn out) (hx:isS S x=true):StkI S cut ini (todo++nextS S cut x) (insU inn x) out:=by
 obtain ⟨r1,r2⟩:=insU_law h.ri x
 have hrx:=h.t1 x (by simp)
 have hm : ∀ y,y∈inn∨y∈out∨y∈todo++[x]→y∈insU inn x∨y∈out∨y∈todo++nextS S cut x:=fun y hy=>by
  rcases hy with h1 | h1 | h1
  ·exact .inl ((r2 y).2 (.inl h1))
  ·exact .inr (.inl h1)
  ·rcases List.mem_append.1 h1 with h1 | h1
   ·exact .inr (.inr (by simp [h1]))
   ·exact .inl ((r2 y).2 (.inr (List.mem_singleton.1 h1)))
 refine ⟨r1,h.ro,fun y hy=>?_,h.o1,fun y hy=>?_,fun y hy=>hm y (h.all y hy),fun y hy z hz=>?_⟩
 ·rcases (r2 y).1 hy with h1 | rfl
  ·exact h.i1 y h1
  ·exact ⟨hrx,hx⟩
 ·rcases List.mem_append.1 hy with h1 | h1
  ·exact h.t1 y (by simp [h1])
  ·exact hrx.step h1
 ·rcases (r2 y).1 hy with h1 | rfl
  ·exact hm z (h.next y h1 z hz)
  ·exact .inr (.inr (by simp [hz]))
/-- The list that grows: the first i of all are gone through. -/
structure GrwI (S:List StL) (cut ini all:List Txt) (i:Nat):Prop where
 a1 : ∀ x∈all,Rch S cut ini x
 nd:all.Nodup
 ini_ : ∀ x∈ini,x∈all
 next : ∀ (j:Nat) (x:Txt),all[j]?=some x→j<i → ∀ y∈nextS S cut x,y∈all
theorem GrwI.end_ {all:List Txt} {i:Nat} (h:GrwI S cut ini all i) (hi:all.length≤i) (b:Bool):RchIs S cut ini b (sortU (all.filter fun x=>isS S x==b)):=by
 refine ⟨(sortU_law _).1,fun x=>?_⟩
 rw [(sortU_law _).2,List.mem_filter,beq_iff_eq]
 refine ⟨fun hx=>⟨h.a1 x hx.1,hx.2⟩,fun hx=>⟨hx.1 (fun x=>x∈all) h.ini_ fun y z hy hz=>?_,hx.2⟩⟩
 obtain ⟨j,hj,rfl⟩:=List.getElem_of_mem hy
 exact h.next j _ (List.getElem?_eq_getElem hj) (by omega) z hz
/-- All that may be reached, in a list. -/
def allU (S:List StL) (cut ini:List Txt):List Txt:=ini++S.flatMap fun x=>nextS S cut x.id
theorem getS_id {S:List StL} {n:Txt} {x:StL} (h:getS S n=some x):x∈S∧x.id=n:=by
 have h1:=List.mem_of_find?_eq_some h
 have h2:=List.find?_some h
 exact ⟨h1,by simpa using h2⟩
theorem Rch.inU {x:Txt} (h:Rch S cut ini x):x∈allU S cut ini:=h (fun x=>x∈allU S cut ini) (fun y hy=>List.mem_append_left _ hy) fun y z _ hz=>by
 refine List.mem_append_right _ (List.mem_flatMap.2 ?_)
 have hz0:=hz
 unfold nextS objS at hz0
 cases hg:getS S y with
 | none=>rw [hg] at hz0;simp at hz0
 | some s=>
   obtain ⟨h1,h2⟩:=getS_id hg
   exact ⟨s,h1,by rw [h2];exact hz⟩
theorem nodup_len : ∀ {l m:List Txt},l.Nodup→(∀ x∈l,x∈m)→l.length≤m.length
 | [],_,_,_=>Nat.zero_le _
 | x::l,m,hn,h=>by
   obtain ⟨h1,h2⟩:=List.nodup_cons.1 hn
   have h3:l.length≤(m.erase x).length:=nodup_len h2 fun y hy=>(List.mem_erase_of_ne (fun (e:y=x)=>h1 (e▸hy))).2 (h y (List.mem_cons_of_mem _ hy))
   rw [List.length_erase_of_mem (h x List.mem_cons_self)] at h3
   have:=List.length_pos_of_mem (h x List.mem_cons_self)
   rw [List.length_cons]
   omega
theorem allU_len {K:Nat} (hK : ∀ x∈S,(nextS S cut x.id).length≤K):(allU S cut ini).length≤ini.length+S.length*K:=by
 unfold allU
 rw [List.length_append,List.length_flatMap]
 have : ∀ (T:List StL),(∀ x∈T,(nextS S cut x.id).length≤K)→(T.map fun x=>(nextS S cut x.id).length).sum≤T.length*K:=by
  intro T
  induction T with
  | nil=>simp
  | cons x T ih=>
    intro hT
    have h1:=hT x List.mem_cons_self
    have h2:=ih fun y hy=>hT y (List.mem_cons_of_mem _ hy)
    rw [List.map_cons,List.sum_cons,List.length_cons,Nat.add_mul,Nat.one_mul]
    omega
 have:=this S hK
 omega
theorem rise_nodup {l:List Txt} (h:RiseL l):l.Nodup:=h.imp fun {a b} h e=>by rw [e,less_irrefl] at h;cases h
end
end Go.Proofs.YtlojebhcemfodaaGreatDoor
namespace Go.Proofs.YtlojebhcemfodaaGreatDoor
open Go.RowKit
theorem blk_at2 (w:World) (o:Obj) (t:TypeId) (cs:Array Value):Blk ((w.alloc o).alloc (.cells cs t)) (w.heap.size+1) t cs:=by
 have:=Blk.new (w.alloc o) t cs
 rwa [show (w.alloc o).heap.size=w.heap.size+1 from by simp] at this
theorem results_row_tmp {P:Program} {fn:Func} {p q:Tmp} {ty:TypeId} (h:fn.results = #[.cell p ty, .tmp q]) (tmps:Array Value) (w:World) (g:Nat) (t:TypeId) (cs:Array Value) (fr:Nat×Nat) (d:TypeDesc)
 (hp:tmps.getD p undef = .pointer (some ⟨g,0,none⟩)) (hg:w.heap[g]?=some (.cells cs t fr))
 (hu:P.underlying ty=some d) (hd:(match d with | .struct _ | .array _ _=>true | _=>false)=true) (hi:(P.info? ty).map (·.size)=some cs.size) :
 (results fn tmps).run P w = .ok (.tuple #[.agg cs,tmps.getD q undef]) w:=by
 have hp':tmps[p]?.getD undef = .pointer (some ⟨g,0,none⟩):=by simpa using hp
 simp [results,h,hp',asAddr,run_loadVar_row w g t ty cs fr d hg hu hd hi]
end Go.Proofs.YtlojebhcemfodaaGreatDoor
namespace Go.Proofs.YtlojebhcemfodaaGreatDoor
open Go.RowKit
attribute [local go_sem ↓] ldvI_eq ldvO_eq
theorem zeroIdS (W:World):(zeroValue 42).run Tryz.prog W = .ok (.agg (u8s noId)) W:=by
 have h:(Tryz.prog.info? 42).map (·.zero)=some (some (.agg (u8s noId))):=by kernel_rfl
 obtain ⟨i,h1,h2⟩:=Option.map_eq_some_iff.1 h
 simp [zeroValue,typeInfo,h1,h2]
theorem boxIdS (w:World) (n:Txt) (hn:n.length=32) : ∃ W1,w.alloc (.cells (u8s n) 42)=W1∧Below w.heap.size w W1∧Blk W1 w.heap.size 42 (u8s n) ∧ ∀ W,Below W1.heap.size W1 W→(ldvI ⟨w.heap.size,0,none⟩).run Tryz.prog W = .ok (.agg (u8s n)) W:=by
 have n1:Blk (w.alloc (.cells (u8s n) 42)) w.heap.size 42 (u8s n):=Blk.new _ _ _
 exact ⟨_,rfl,(Below.refl _ _).alloc (Nat.le_refl _) _,n1,fun W hW=>run_ldvI_at (range_blk (n1.below hW n1.lt)) hn⟩
end Go.Proofs.YtlojebhcemfodaaGreatDoor
namespace Go.Proofs.YtlojebhcemfodaaGreatDoor
open Go.RowKit
theorem str_of_blk (w:World) {t:TypeId} {g:Nat} {l:List UInt8} (h:Blk w g t (u8s l)) :
 (convert 23 9 (.slice (some ⟨g,0,none⟩) l.length l.length)).run Tryz.prog w = .ok (.string (B l)) w:=by
 rw [run_convert_bytes_arg w 23 5 Tryz.underlying23 Tryz.underlying5 g 0 l.length l.length (l.map fun c=>(c.toNat:Int)) (by simp) (fun i hi=>by
  rw [Nat.zero_add,h.cell,u8s_get l i hi]
  simp [List.getD,List.getElem?_map,List.getElem?_eq_getElem hi]) 9 Tryz.underlying9]
 have hl:(l.map fun c=>(c.toNat:Int)).map (fun n=>UInt8.ofNat n.toNat)=l:=by
  rw [List.map_map]
  exact (List.map_congr_left (g:=id) (fun c _=>by simp)).trans (List.map_id l)
 rw [strOfNums,hl]
 rfl
theorem str_of_id (w:World) {t:TypeId} {g:Nat} {l:List UInt8} (hl:l.length=32) (h:Blk w g t (u8s l)) (n:Nat) :
 (convert 23 9 (.slice (some ⟨g,0,none⟩) 32 32)).run Tryz.prog (w.drewN n) = .ok (.string (B l)) (w.drewN n):=by
 have:=str_of_blk (w.drewN n) (h.drewN n)
 rwa [hl] at this
end Go.Proofs.YtlojebhcemfodaaGreatDoor
namespace Go.Proofs
open Go.Shelf
def Tryz.lays156_ren : Go.Shelf.Ren:=⟨fun | 156=>102 | 165=>113 | 166=>114 | 169=>115 | 240=>125 | 241=>126 | 276=>131 | 277=>132 | n=>n,fun | 31=>67 | 9=>9 | 3=>3 | 4=>4 | 0=>0 | 20=>20 | 72=>182 | 76=>186 | 70=>180 | 37=>23 | 75=>185 | 127=>197 | 164=>202 | 5=>5 | 80=>165 | n=>n,fun | n=>n⟩
theorem Tryz.lays156 : Go.Proofs.Lays.n156 Tryz.prog Tryz.lays156_ren:={
 mixed:=by kernel_rfl
 f156:=Tryz.func102.trans (congrArg some (by kernel_rfl))
 f165:=Tryz.func113.trans (congrArg some (by kernel_rfl))
 f166:=Tryz.func114.trans (congrArg some (by kernel_rfl))
 f169:=Tryz.func115.trans (congrArg some (by kernel_rfl))
 f240:=Tryz.func125.trans (congrArg some (by kernel_rfl))
 f241:=Tryz.func126.trans (congrArg some (by kernel_rfl))
 f276:=Tryz.func131.trans (congrArg some (by kernel_rfl))
 f277:=Tryz.func132.trans (congrArg some (by kernel_rfl))
 t0:=Tryz.underlying0
 a0:=Tryz.isAgg0
 z0:=Tryz.sizeOf0
 v0:=Tryz.zeroValue0
 t3:=Tryz.underlying3
 a3:=Tryz.isAgg3
 z3:=Tryz.sizeOf3
 v3:=Tryz.zeroValue3
 t4:=Tryz.underlying4
 a4:=Tryz.isAgg4
 z4:=Tryz.sizeOf4
 v4:=Tryz.zeroValue4
 t9:=Tryz.underlying9
 a9:=Tryz.isAgg9
 z9:=Tryz.sizeOf9
 v9:=Tryz.zeroValue9
 t20:=Tryz.underlying20
 a20:=Tryz.isAgg20
 z20:=Tryz.sizeOf20
 v20:=Tryz.zeroValue20
 t31:=Tryz.underlying67
 a31:=Tryz.isAgg67
 z31:=Tryz.sizeOf67
 v31:=Tryz.zeroValue67
 t37:=Tryz.underlying23
 a37:=Tryz.isAgg23
 z37:=Tryz.sizeOf23
 v37:=Tryz.zeroValue23
 t70:=Tryz.underlying180
 a70:=Tryz.isAgg180
 z70:=Tryz.sizeOf180
 v70:=Tryz.zeroValue180
 t72:=Tryz.underlying182
 a72:=Tryz.isAgg182
 z72:=Tryz.sizeOf182
 v72:=Tryz.zeroValue182
 t75:=Tryz.underlying185
 a75:=Tryz.isAgg185
 z75:=Tryz.sizeOf185
 v75:=Tryz.zeroValue185
 t76:=Tryz.underlying186
 a76:=Tryz.isAgg186
 z76:=Tryz.sizeOf186
 v76:=Tryz.zeroValue186
 t127:=Tryz.underlying197
 a127:=Tryz.isAgg197
 z127:=Tryz.sizeOf197
 v127:=Tryz.zeroValue197
 t164:=Tryz.underlying202
 a164:=Tryz.isAgg202
 z164:=Tryz.sizeOf202
 v164:=Tryz.zeroValue202 }
theorem Tryz.Builder_Extra_156 : Builder.Extra Tryz.prog Tryz.lays156_ren:={
 sizeBuilder:=by kernel_rfl
 liesBuilder:=by kernel_rfl
 t5:=Tryz.underlying5
 a5:=Tryz.isAgg5
 z5:=Tryz.sizeOf5
 v5:=Tryz.zeroValue5
 infoByte:=by kernel_rfl
 cellsByte:=by kernel_rfl
 sizeByte:=by kernel_rfl
 neB5:=by decide }
open Go.RowKit in
/-- No element: the empty string; the world is as it was. (Whatever the slice's address and capacity: a nil slice too.) (LAID: no walk: one application.) -/
theorem Tryz.strings_Join_none (a:Option Addr) (c:Nat) (sep:ByteArray) (w:World) :
 Calls Tryz.prog 102 #[.slice a 0 c, .string sep] w fun e w'=>e = .returned (.string ⟨#[]⟩)∧w'=w:=Any.strings_Join_none Tryz.lays156 Tryz.Builder_Extra_156 a c sep w
open Go.RowKit in
/-- strings.Join: "Join concatenates the elements of its first argument to create a single string. The separator string sep is placed between elements in the resulting string.": HOWEVER MANY ELEMENTS. Below the heap's end the world is as it was. (LAID: no walk: one application.) -/
theorem Tryz.strings_Join (bk o c:Nat) (xs:List ByteArray) (sep:ByteArray) (w:World) (hcells : ∀ (j:Nat) x,xs[j]?=some x→w.cell? ⟨bk,o+j,none⟩=some (.string x)) (hbk:bk<w.heap.size) (hN:xs.length≤140737488355328) (hcap:xs.length≤c) (hlen:(Lib.join (xs.map (·.data.toList)) sep.data.toList).length≤140737488355328) :
 Calls Tryz.prog 102 #[.slice (some ⟨bk,o,none⟩) xs.length c, .string sep] w fun e w'=>e = .returned (.string ⟨(Lib.join (xs.map (·.data.toList)) sep.data.toList).toArray⟩)∧Below w.heap.size w w':=Any.strings_Join Tryz.lays156 Tryz.Builder_Extra_156 bk o c xs sep w hcells hbk hN hcap hlen
def Tryz.lays137_ren : Go.Shelf.Ren:=⟨fun | 137=>112 | 217=>124 | 266=>130 | n=>n,fun | 9=>9 | 5=>5 | 3=>3 | n=>n,fun | n=>n⟩
theorem Tryz.lays137 : Go.Proofs.Lays.n137 Tryz.prog Tryz.lays137_ren:={
 mixed:=by kernel_rfl
 f137:=Tryz.func112.trans (congrArg some (by kernel_rfl))
 f217:=Tryz.func124.trans (congrArg some (by kernel_rfl))
 f266:=Tryz.func130.trans (congrArg some (by kernel_rfl))
 t3:=Tryz.underlying3
 a3:=Tryz.isAgg3
 z3:=Tryz.sizeOf3
 v3:=Tryz.zeroValue3
 t5:=Tryz.underlying5
 a5:=Tryz.isAgg5
 z5:=Tryz.sizeOf5
 v5:=Tryz.zeroValue5
 t9:=Tryz.underlying9
 a9:=Tryz.isAgg9
 z9:=Tryz.sizeOf9
 v9:=Tryz.zeroValue9 }
open Go.RowKit in
/-- strings.IndexByte: "IndexByte returns the index of the first instance of c in s, or -1 if c is not present in s.": IT RETURNS 'Lib.indexByte s c'; the world is as it was. (LAID: no walk: one application.) -/
theorem Tryz.strings_IndexByte (s:ByteArray) (c:Int) (w:World) :
 Calls Tryz.prog 112 #[.string s, .int .u8 c] w fun e w'=>e = .returned (.int .i64 (Lib.indexByte s.data.toList c.toNat.toUInt8))∧w'=w:=Any.strings_IndexByte Tryz.lays137 s c w
def Tryz.lays105_ren : Go.Shelf.Ren:=⟨fun | 105=>103 | 212=>116 | 99=>117 | 165=>113 | 166=>114 | 170=>118 | 169=>115 | 263=>127 | 264=>128 | 206=>129 | 240=>125 | 241=>126 | 276=>131 | 277=>132 | n=>n,fun | 9=>9 | 3=>3 | 4=>4 | 20=>20 | 0=>0 | 46=>107 | 109=>188 | 5=>5 | 72=>182 | 76=>186 | 51=>52 | 146=>198 | 53=>106 | 148=>200 | 70=>180 | 37=>23 | 75=>185 | 127=>197 | 164=>202 | 80=>165 | n=>n,fun | n=>n⟩
theorem Tryz.lays105 : Go.Proofs.Lays.n105 Tryz.prog Tryz.lays105_ren:={
 mixed:=by kernel_rfl
 f99:=Tryz.func117.trans (congrArg some (by kernel_rfl))
 f105:=Tryz.func103.trans (congrArg some (by kernel_rfl))
 f165:=Tryz.func113.trans (congrArg some (by kernel_rfl))
 f166:=Tryz.func114.trans (congrArg some (by kernel_rfl))
 f169:=Tryz.func115.trans (congrArg some (by kernel_rfl))
 f170:=Tryz.func118.trans (congrArg some (by kernel_rfl))
 f206:=Tryz.func129.trans (congrArg some (by kernel_rfl))
 f212:=Tryz.func116.trans (congrArg some (by kernel_rfl))
 f240:=Tryz.func125.trans (congrArg some (by kernel_rfl))
 f241:=Tryz.func126.trans (congrArg some (by kernel_rfl))
 f263:=Tryz.func127.trans (congrArg some (by kernel_rfl))
 f264:=Tryz.func128.trans (congrArg some (by kernel_rfl))
 f276:=Tryz.func131.trans (congrArg some (by kernel_rfl))
 f277:=Tryz.func132.trans (congrArg some (by kernel_rfl))
 t0:=Tryz.underlying0
 a0:=Tryz.isAgg0
 z0:=Tryz.sizeOf0
 v0:=Tryz.zeroValue0
 t3:=Tryz.underlying3
 a3:=Tryz.isAgg3
 z3:=Tryz.sizeOf3
 v3:=Tryz.zeroValue3
 t4:=Tryz.underlying4
 a4:=Tryz.isAgg4
 z4:=Tryz.sizeOf4
 v4:=Tryz.zeroValue4
 t5:=Tryz.underlying5
 a5:=Tryz.isAgg5
 z5:=Tryz.sizeOf5
 v5:=Tryz.zeroValue5
 t9:=Tryz.underlying9
 a9:=Tryz.isAgg9
 z9:=Tryz.sizeOf9
 v9:=Tryz.zeroValue9
 t20:=Tryz.underlying20
 a20:=Tryz.isAgg20
 z20:=Tryz.sizeOf20
 v20:=Tryz.zeroValue20
 t37:=Tryz.underlying23
 a37:=Tryz.isAgg23
 z37:=Tryz.sizeOf23
 v37:=Tryz.zeroValue23
 t46:=Tryz.underlying107
 a46:=Tryz.isAgg107
 z46:=Tryz.sizeOf107
 v46:=Tryz.zeroValue107
 t51:=Tryz.underlying52
 a51:=Tryz.isAgg52
 z51:=Tryz.sizeOf52
 v51:=Tryz.zeroValue52
 t53:=Tryz.underlying106
 a53:=Tryz.isAgg106
 z53:=Tryz.sizeOf106
 v53:=Tryz.zeroValue106
 t70:=Tryz.underlying180
 a70:=Tryz.isAgg180
 z70:=Tryz.sizeOf180
 v70:=Tryz.zeroValue180
 t72:=Tryz.underlying182
 a72:=Tryz.isAgg182
 z72:=Tryz.sizeOf182
 v72:=Tryz.zeroValue182
 t75:=Tryz.underlying185
 a75:=Tryz.isAgg185
 z75:=Tryz.sizeOf185
 v75:=Tryz.zeroValue185
 t76:=Tryz.underlying186
 a76:=Tryz.isAgg186
 z76:=Tryz.sizeOf186
 v76:=Tryz.zeroValue186
 t109:=Tryz.underlying188
 a109:=Tryz.isAgg188
 z109:=Tryz.sizeOf188
 v109:=Tryz.zeroValue188
 t127:=Tryz.underlying197
 a127:=Tryz.isAgg197
 z127:=Tryz.sizeOf197
 v127:=Tryz.zeroValue197
 t146:=Tryz.underlying198
 a146:=Tryz.isAgg198
 z146:=Tryz.sizeOf198
 v146:=Tryz.zeroValue198
 t148:=Tryz.underlying200
 a148:=Tryz.isAgg200
 z148:=Tryz.sizeOf200
 v148:=Tryz.zeroValue200
 t164:=Tryz.underlying202
 a164:=Tryz.isAgg202
 z164:=Tryz.sizeOf202
 v164:=Tryz.zeroValue202 }
theorem Tryz.Builder_Extra_105 : Builder.Extra Tryz.prog Tryz.lays105_ren:={
 sizeBuilder:=by kernel_rfl
 liesBuilder:=by kernel_rfl
 t5:=Tryz.underlying5
 a5:=Tryz.isAgg5
 z5:=Tryz.sizeOf5
 v5:=Tryz.zeroValue5
 infoByte:=by kernel_rfl
 cellsByte:=by kernel_rfl
 sizeByte:=by kernel_rfl
 neB5:=by decide }
open Go.RowKit Go.Lib in
/-- **strings.Repeat: count ≥ 0, the result within one allocation: count copies of s.** (LAID: no walk: one application.) -/
theorem Tryz.strings_Repeat (s:ByteArray) (c:Nat) (w:World) (hc:c≤9223372036854775807) (hlen:s.size*c≤140737488355328) :
 Calls Tryz.prog 103 #[.string s, .int .i64 c] w fun e w'=>e = .returned (.string ⟨(Lib.repeatL s.data.toList c).toArray⟩)∧Below w.heap.size w w':=Any.strings_Repeat Tryz.lays105 Tryz.Builder_Extra_105 s c w hc hlen
end Go.Proofs
namespace Go.Proofs.YtlojebhcemfodaaGreatDoor
open Go.RowKit
theorem idx_mem (c:UInt8) : ∀ s:Txt,(c ∉ s∧Lib.indexByte s c = -1)∨(c∈s∧0≤Lib.indexByte s c)
 | [] => .inl ⟨by simp,rfl⟩
 | x::r=>by
   by_cases hx:x=c
   ·exact .inr ⟨by simp [hx],by simp [Lib.indexByte,hx]⟩
   ·have hb:(x==c)=false:=by simpa using hx
    rcases idx_mem c r with ⟨h1,h2⟩ | ⟨h1,h2⟩
    ·exact .inl ⟨by simp [h1];exact fun e=>hx e.symm,by simp [Lib.indexByte,hb,h2]⟩
    ·refine .inr ⟨by simp [h1],?_⟩
     have hne:(Lib.indexByte r c == -1)=false:=by rw [beq_eq_false_iff_ne];omega
     simp only [Lib.indexByte,hb,hne]
     simp
     omega
theorem name_all {s:Txt} (h0:(0:UInt8) ∉ s) (h47:(47:UInt8) ∉ s):s.all (fun c => !(c==0) && !(c==47))=true:=by
 rw [List.all_eq_true]
 intro c hc
 have h1:c≠0:=fun e=>h0 (e▸hc)
 have h2:c≠47:=fun e=>h47 (e▸hc)
 simp [h1,h2]
theorem name_no {s:Txt} (h:(0:UInt8)∈s∨(47:UInt8)∈s):nameB s=false:=by
 unfold nameB
 rw [Bool.and_eq_false_iff]
 refine .inr (List.all_eq_false.2 ?_)
 rcases h with h | h
 ·exact ⟨0,h,by simp⟩
 ·exact ⟨47,h,by simp⟩
theorem indexByte_calls (s:Txt) (c:Int) (k:UInt8) (hk:c.toNat.toUInt8=k) (w:World):Calls Tryz.prog 112 #[.string (B s), .int .u8 c] w fun e w'=>e = .returned (.int .i64 (Lib.indexByte s k))∧w'=w:=by
 have:=Tryz.strings_IndexByte (B s) c w
 rw [hk,show (B s).data.toList=s by simp [B]] at this
 exact this
set_option maxRecDepth 100000 in
set_option maxHeartbeats 1000000 in
theorem name_calls (s:Txt) (w:World):Calls Tryz.prog 101 #[.string (B s)] w fun e w'=>e = .returned (.bool (nameB s))∧w'=w:=by
 obtain ⟨r,hr⟩ : ∃ r,Hid (r=nameB s):=⟨_,Lib.hid rfl⟩
 rw [←hr.out]
 have x0:=Lib.hid (indexByte_calls s 0 0 rfl w)
 have x47:=Lib.hid (indexByte_calls s 47 47 rfl w)
 by_cases hz:s=[]
 ·subst hz
  have hf:Hid (r=false):=hr
  clear x0 x47
  go_enter Tryz.func101,Tryz.ntmps101
  go_wp2
  go_ret
  exact ⟨by rw [hf.out];rfl,rfl⟩
 ·have hb0:List.isEmpty s=false:=by
   cases s with
   | nil=>exact absurd rfl hz
   | cons _ _=>rfl
  have h1:1≤s.length:=List.length_pos_iff.2 hz
  by_cases h40:s.length≤40
  ·have i40:(s.length:Int)≤40:=by omega
   rcases idx_mem 0 s with ⟨m0,e0⟩ | ⟨m0,e0⟩
   ·rw [e0] at x0
    rcases idx_mem 47 s with ⟨m7,e7⟩ | ⟨m7,e7⟩
    ·rw [e7] at x47
     have hf:Hid (r=true):=by show r=true;rw [hr.out];unfold nameB;rw [name_all m0 m7];simp [h1,h40]
     clear e0 e7 m0 m7 hr h1 h40
     go_enter Tryz.func101,Tryz.ntmps101
     go_wp2_with (first
      | ((with_reducible refine x0.out.mono ?_);rintro e w1 ⟨rfl,rfl⟩)
      | ((with_reducible refine x47.out.mono ?_);rintro e w1 ⟨rfl,rfl⟩))
     go_ret
     exact ⟨by rw [hf.out];rfl,rfl⟩
    ·have hf:Hid (r=false):=by show r=false;rw [hr.out];exact name_no (.inr m7)
     have e7' : ¬ Lib.indexByte s 47<0:=by omega
     generalize Lib.indexByte s 47=q at *
     clear e0 e7 m0 m7 hr h1 h40
     go_enter Tryz.func101,Tryz.ntmps101
     go_wp2_with (first
      | ((with_reducible refine x0.out.mono ?_);rintro e w1 ⟨rfl,rfl⟩)
      | ((with_reducible refine x47.out.mono ?_);rintro e w1 ⟨rfl,rfl⟩))
     go_ret
     exact ⟨by rw [hf.out];simp [e7'],rfl⟩
   ·have hf:Hid (r=false):=by show r=false;rw [hr.out];exact name_no (.inl m0)
    have e0' : ¬ Lib.indexByte s 0<0:=by omega
    generalize Lib.indexByte s 0=q at *
    clear e0 m0 hr h1 h40 x47
    go_enter Tryz.func101,Tryz.ntmps101
    go_wp2_with (first
     | ((with_reducible refine x0.out.mono ?_);rintro e w1 ⟨rfl,rfl⟩))
    go_ret
    exact ⟨by rw [hf.out];rfl,rfl⟩
  ·have i40 : ¬ (s.length:Int)≤40:=by omega
   have hf:Hid (r=false):=by show r=false;rw [hr.out];unfold nameB;simp [h40]
   clear x0 x47 hr h1 h40
   go_enter Tryz.func101,Tryz.ntmps101
   go_wp2
   go_ret
   exact ⟨by rw [hf.out];rfl,rfl⟩
theorem all_take {s:Txt} {p:UInt8→Bool} {k:Nat} {c:UInt8} (h:(s.take k).all p=true) (hc:s[k]?=some c) (hp:p c=true):(s.take (k+1)).all p=true:=by
 rw [List.take_add_one,List.all_append,h,hc]
 simp [hp]
set_option maxRecDepth 100000 in
set_option maxHeartbeats 1000000 in
theorem refName_calls (s:Txt) (hs:s.length≤9223372036854775807) (w:World):Calls Tryz.prog 70 #[.string (B s)] w fun e w'=>e = .returned (.bool (nameB s))∧w'=w:=by
 obtain ⟨b,hb⟩ : ∃ b,Hid (b=nameB s):=⟨_,Lib.hid rfl⟩
 rw [←hb.out]
 go_enter Tryz.func70,Tryz.ntmps70
 go_wp2
 go_loop [3] (fun vi => ∃ k:Nat,vi = .int .i64 k∧k≤s.length∧Hid ((s.take k).all (fun c => !(c==0) && !(c==47))=true)) (fun vi=>s.length-(intOf vi).toNat)
 case atStart=>exact ⟨0,rfl,by omega,Lib.hid rfl⟩
 case round=>
  obtain ⟨k,rfl,hk,hall⟩:=hrel
  by_cases hlt:k<s.length
  ·have hki:(k:Int)<(s.length:Int):=by omega
   obtain ⟨c,hc⟩ : ∃ c,s[k]=c:=⟨_,rfl⟩
   have hck:s[k]?=some c:=by rw [List.getElem?_eq_getElem hlt,hc]
   have hm:=List.mem_of_getElem? hck
   obtain ⟨n,hn⟩ : ∃ n,c.toNat=n:=⟨_,rfl⟩
   by_cases g1:n=0
   ·have e1:c=0:=UInt8.toNat_inj.1 (by rw [hn,g1];rfl)
    have hf:Hid (b=false):=by show b=false;rw [hb.out];exact name_no (.inl (e1▸hm))
    subst g1
    clear hb hall hck hm e1
    go_wp2
    go_ret
    exact ⟨by rw [hf.out];rfl,rfl⟩
   ·have i1:((n:Int)==0)=false:=by rw [beq_eq_false_iff_ne];omega
    have e1:c≠0:=fun e=>g1 (by rw [←hn,e];rfl)
    by_cases g2:n=47
    ·have e2:c=47:=UInt8.toNat_inj.1 (by rw [hn,g2];rfl)
     have hf:Hid (b=false):=by show b=false;rw [hb.out];exact name_no (.inr (e2▸hm))
     subst g2
     clear hb hall hck hm e2 e1
     go_wp2
     go_ret
     exact ⟨by rw [hf.out];rfl,rfl⟩
    ·have i2:((n:Int)==47)=false:=by rw [beq_eq_false_iff_ne];omega
     have e2:c≠47:=fun e=>g2 (by rw [←hn,e];rfl)
     have hst:=Lib.hid (all_take hall.out hck (by simp [e1,e2]))
     clear hall hck hm e1 e2 g1 g2
     go_wp2
     go_round
     case rel=>exact ⟨k+1,by go_num,by omega,hst⟩
     case measure=>simp [intOf];omega
  ·have hki : ¬ (k:Int)<(s.length:Int):=by omega
   have hf:Hid (b=(decide (1≤s.length)&&decide (s.length≤40))):=by
    show b=_
    have:=hall.out
    rw [List.take_of_length_le (by omega)] at this
    rw [hb.out]
    unfold nameB
    rw [this,Bool.and_true]
   clear hb hall
   by_cases h1:1≤s.length
   ·have i1:(1:Int)≤(s.length:Int):=by omega
    by_cases h40:s.length≤40
    ·have i40:(s.length:Int)≤40:=by omega
     go_wp2
     go_ret
     exact ⟨by rw [hf.out];simp [h1,h40],rfl⟩
    ·have i40 : ¬ (s.length:Int)≤40:=by omega
     go_wp2
     go_ret
     exact ⟨by rw [hf.out];simp [h1,h40],rfl⟩
   ·have i1 : ¬ (1:Int)≤(s.length:Int):=by omega
    go_wp2
    go_ret
    exact ⟨by rw [hf.out];simp [h1],rfl⟩
end Go.Proofs.YtlojebhcemfodaaGreatDoor
namespace Go.Proofs.YtlojebhcemfodaaGreatDoor
open Go.RowKit
/-- What the reference's Get returns. -/
def getPair : Option (Nat×Nat)→Value
 | some (n,k) => .tuple #[.int .u64 n, .int .i64 k]
 | none => .tuple #[.int .u64 0, .int .i64 0]
/-- What Get returns. -/
def getTriple (l:List UInt8):Option (Nat×Nat)→Value
 | some (n,k) => .tuple #[.int .u64 n, .string (B (l.drop k)), .int .i64 0]
 | none => .tuple #[.int .u64 0, .string (B []), .int .i64 2]
set_option maxRecDepth 100000 in
set_option maxHeartbeats 400000 in
theorem refPut_calls (n:Nat) (hn:n≤18446744073709551615) (w:World) :
 Calls Tryz.prog 71 #[.int .u64 n] w fun e w'=>e = .returned (.string (B (put n)))∧Below w.heap.size w w':=by
 have hc:=fun (wx:World) (x:Int)=>Tryz.str_of_one wx x
 go_enter Tryz.func71,Tryz.ntmps71
 go_wp2
 go_loopw [0,3] (fun m s wr => ∃ (f k:Nat) (acc:List UInt8),m = .int .u64 k∧s = .string (B acc)∧Hid (acc++putF f k=put n)∧acc.length≤9∧acc.length+f≤9∧Hid (Fits f k)∧Below w.heap.size w wr) (fun m _ _=>(intOf m).toNat)
 case atStart=>exact ⟨9,n,[],rfl,rfl,rfl,by simp,by simp,Lib.hid (Fits.of64 hn),Below.refl _ _⟩
 case round=>
  obtain ⟨f,k,acc,rfl,rfl,h1,h3,h4,h2,hb⟩:=hrel
  have hle:=h2.out.le (by omega)
  go_wp2
  ·have hk:128≤k:=by omega
   obtain ⟨f,rfl⟩:=h2.out.pos hk
   go_roundw
   case rel=>exact ⟨f,k / 128,acc++[UInt8.ofNat (128+k%128)],by go_num,by rw [ofNat_add_u8];rfl,Lib.hid (by rw [←h1.out,putF_big f k hk];simp),by simp;omega,by simp;omega,Lib.hid h2.out.next,hb.alloc hb.size _⟩
   case measure=>simp [intOf];omega
  ·have hk:k<128:=by omega
   go_ret
   refine ⟨?_,hb.alloc hb.size _⟩
   rw [←h1.out,putF_small f k hk]
   rfl
set_option maxRecDepth 100000 in
set_option maxHeartbeats 800000 in
theorem refGet_calls (l:List UInt8) (hl:l.length≤4611686018427387904) (w:World) :
 Calls Tryz.prog 111 #[.string (B l)] w fun e w'=>e = .returned (getPair (get l))∧w'=w:=by
 go_enter Tryz.func111,Tryz.ntmps111
 go_wp2
 go_loop [4] (fun e => ∃ k:Nat,e = .int .i64 k∧k≤10∧k≤l.length∧Hid (k≤lead l)) (fun e=>10-(intOf e).toNat)
 case atStart=>exact ⟨0,rfl,by omega,by omega,Nat.zero_le _⟩
 case round=>
  obtain ⟨e,rfl,h1,h2,h3⟩:=hrel
  by_cases ha:e<l.length
  ·by_cases hb:e<10
   ·obtain ⟨c,hc⟩ : ∃ c,l[e]=c:=⟨_,rfl⟩
    by_cases hd:128≤c.toNat
    ·have hn:Hid (e+1≤lead l):=lead_next h3.out ha (by rw [hc];exact hd)
     go_wp2
     go_round
     case rel=>exact ⟨e+1,by go_num,by omega,by omega,hn⟩
     case measure=>simp [intOf];omega
    ·have hle:Hid (lead l=e):=lead_here h3.out ha (by rw [hc];omega)
     by_cases h9:e=9∧1<c.toNat
     ·obtain ⟨rfl,h9'⟩:=h9
      have hfin:Hid (get l=none):=get_nine ha hle.out (by rw [hc];exact h9')
      go_wp2
      all_goals first | (exfalso;omega) | (go_ret2;exact ⟨by rw [hfin.out];rfl,rfl⟩)
     ·by_cases h0:0<e∧c.toNat=0
      ·obtain ⟨h0',h0c⟩:=h0
       have hfin:Hid (get l=none):=get_zero ha hle.out h0' (by rw [hc];exact h0c)
       have h0d:((c.toNat:Int)==0)=true:=by simp [h0c]
       have h9' : ¬ 1<c.toNat:=by omega
       have h0c':=Lib.hid h0c
       clear h9 h0c
       by_cases he9:e=9
       ·subst he9
        go_wp2
        all_goals first | (exfalso;omega) | (go_ret2;exact ⟨by rw [hfin.out];rfl,rfl⟩)
       ·go_wp2
        all_goals first | (exfalso;omega) | (go_ret2;exact ⟨by rw [hfin.out];rfl,rfl⟩)
      ·obtain ⟨V,hfin0,hV00,hVs0,hVb⟩:=get_seq ha hle.out hb (fun h=>by rw [hc];omega) (fun h=>by rw [hc];omega)
       have hfin:=Lib.hid hfin0
       have hV0:=Lib.hid hV00
       have hVs:=Lib.hid hVs0
       clear hfin0 hV00 hVs0
       have hVb':=Lib.hid hVb
       clear hVb
       have hcz:0<e→((c.toNat:Int)==0)=false:=by intro h;simp;omega
       by_cases he9:e=9
       ·subst he9
        have hcz':=hcz (by omega)
        have hc1 : ¬ 1<c.toNat:=by omega
        clear hcz
        go_wp2
        all_goals first | (exfalso;omega) | (exfalso;simp at ha;done) | (exfalso;rename_i hnil _;subst hnil;simp at ha;done) | skip
        all_goals
         go_loop [5,6] (fun n i => ∃ j:Nat,j≤9+1∧i = .int .i64 ((j:Int)-1)∧n = .int .u64 (V j)) (fun _ i=>(intOf i+1).toNat)
         case atStart=>exact ⟨9+1,by omega,by go_num,by rw [hV0.out];rfl⟩
         case round=>
          obtain ⟨j,hj,rfl,rfl⟩:=hrel
          cases j with
          | zero=>
            go_wp2
            all_goals first | (exfalso;omega) | skip
            go_ret2
            exact ⟨by rw [hfin.out];rfl,rfl⟩
          | succ m=>
            have hm:m<l.length:=by omega
            have hs:=hVs.out m hm (by omega)
            have hb1:=hVb'.out m
            have hji:((m+1:Nat):Int)-1=(m:Int):=by omega
            have hx:128*(V (m+1):Int)+((l[m]).toNat:Int)%128≤18446744073709551615:=by omega
            have hs':Hid ((V m:Int)=128*(V (m+1):Int)+((l[m]).toNat:Int)%128):=by rw [hs];show (_:Int)=_;omega
            clear hs
            rw [hji]
            generalize V (m+1)=N at *
            go_wp2
            all_goals first | (exfalso;omega) | skip
            go_round
            case rel=>exact ⟨m,by omega,by go_num,by rw [hs'.out]⟩
            case measure=>simp [intOf]
       ·by_cases he0:e=0
        ·subst he0
         clear hcz
         go_wp2
         all_goals first | (exfalso;omega) | (exfalso;simp at ha;done) | (exfalso;rename_i hnil _;subst hnil;simp at ha;done) | skip
         all_goals
          go_loop [5,6] (fun n i => ∃ j:Nat,j≤0+1∧i = .int .i64 ((j:Int)-1)∧n = .int .u64 (V j)) (fun _ i=>(intOf i+1).toNat)
          case atStart=>exact ⟨0+1,by omega,by go_num,by rw [hV0.out];rfl⟩
          case round=>
           obtain ⟨j,hj,rfl,rfl⟩:=hrel
           cases j with
           | zero=>
             go_wp2
             all_goals first | (exfalso;omega) | skip
             go_ret2
             exact ⟨by rw [hfin.out];rfl,rfl⟩
           | succ m=>
             have hm:m<l.length:=by omega
             have hs:=hVs.out m hm (by omega)
             have hb1:=hVb'.out m
             have hji:((m+1:Nat):Int)-1=(m:Int):=by omega
             have hx:128*(V (m+1):Int)+((l[m]).toNat:Int)%128≤18446744073709551615:=by omega
             have hs':Hid ((V m:Int)=128*(V (m+1):Int)+((l[m]).toNat:Int)%128):=by rw [hs];show (_:Int)=_;omega
             clear hs
             rw [hji]
             generalize V (m+1)=N at *
             go_wp2
             all_goals first | (exfalso;omega) | skip
             go_round
             case rel=>exact ⟨m,by omega,by go_num,by rw [hs'.out]⟩
             case measure=>simp [intOf]
        ·have hcz':=hcz (by omega)
         clear hcz
         go_wp2
         all_goals first | (exfalso;omega) | (exfalso;simp at ha;done) | (exfalso;rename_i hnil _;subst hnil;simp at ha;done) | skip
         all_goals
          go_loop [5,6] (fun n i => ∃ j:Nat,j≤e+1∧i = .int .i64 ((j:Int)-1)∧n = .int .u64 (V j)) (fun _ i=>(intOf i+1).toNat)
          case atStart=>exact ⟨e+1,by omega,by go_num,by rw [hV0.out];rfl⟩
          case round=>
           obtain ⟨j,hj,rfl,rfl⟩:=hrel
           cases j with
           | zero=>
             go_wp2
             all_goals first | (exfalso;omega) | skip
             go_ret2
             exact ⟨by rw [hfin.out];rfl,rfl⟩
           | succ m=>
             have hm:m<l.length:=by omega
             have hs:=hVs.out m hm (by omega)
             have hb1:=hVb'.out m
             have hji:((m+1:Nat):Int)-1=(m:Int):=by omega
             have hx:128*(V (m+1):Int)+((l[m]).toNat:Int)%128≤18446744073709551615:=by omega
             have hs':Hid ((V m:Int)=128*(V (m+1):Int)+((l[m]).toNat:Int)%128):=by rw [hs];show (_:Int)=_;omega
             clear hs
             rw [hji]
             generalize V (m+1)=N at *
             go_wp2
             all_goals first | (exfalso;omega) | skip
             go_round
             case rel=>exact ⟨m,by omega,by go_num,by rw [hs'.out]⟩
             case measure=>simp [intOf]
   ·have hfin:Hid (get l=none):=get_ten (by have:=h3.out;omega)
    have hb':e=10:=by omega
    subst hb'
    go_wp2
    all_goals first | (exfalso;omega) | (go_ret2;exact ⟨by rw [hfin.out];rfl,rfl⟩)
  ·have hfin:Hid (get l=none):=get_end (by have:=h3.out;omega)
   go_wp2
   all_goals first | (exfalso;omega) | (go_ret2;exact ⟨by rw [hfin.out];rfl,rfl⟩)
end Go.Proofs.YtlojebhcemfodaaGreatDoor
namespace Go.Proofs.YtlojebhcemfodaaGreatDoor
open Go.RowKit
set_option maxRecDepth 100000 in
set_option maxHeartbeats 1000000 in
theorem one_calls (n:Int) (w:World):Calls Tryz.prog 50 #[.int .i64 n] w fun e w'=>e = .returned (.string (B [byteK n]))∧Below w.heap.size w w':=by
 have hc:=fun (wx:World) (x:Int)=>Tryz.str_of_one wx x
 go_enter Tryz.func50,Tryz.ntmps50
 go_wp2
 go_ret
 exact ⟨rfl,(Below.refl _ _).alloc (Nat.le_refl _) _⟩
set_option maxRecDepth 100000 in
set_option maxHeartbeats 1000000 in
theorem bytes_calls (l:Txt) (hl:l.length=32) (w:World):Calls Tryz.prog 72 #[.agg (u8s l)] w fun e w'=>e = .returned (.string (B l))∧Below w.heap.size w w':=by
 have hc:=str_of_blk (w.alloc (.cells (u8s l) 42)) (Blk.new w _ (u8s l))
 rw [hl] at hc
 go_enter Tryz.func72,Tryz.ntmps72
 go_wp2
 go_ret
 exact ⟨rfl,(Below.refl _ _).alloc (Nat.le_refl _) _⟩
set_option maxRecDepth 100000 in
set_option maxHeartbeats 1000000 in
theorem kind_calls (n:Int) (w:World):Calls Tryz.prog 100 #[.int .i64 n] w fun e w'=>e = .returned (.bool (kindB n))∧w'=w:=by
 obtain ⟨b,hb⟩ : ∃ b,Hid (b=kindB n):=⟨_,Lib.hid rfl⟩
 rw [←hb.out]
 have hb2:=hb.out
 unfold kindB at hb2
 by_cases h1:1≤n
 ·by_cases h4:n≤4
  ·have hf:Hid (b=true):=by show b=true;rw [hb2];simp [h1,h4]
   clear hb hb2
   go_enter Tryz.func100,Tryz.ntmps100
   go_wp2
   go_ret
   exact ⟨by rw [hf.out];simp [h4],rfl⟩
  ·have hf:Hid (b=false):=by show b=false;rw [hb2];simp [h4]
   clear hb hb2
   go_enter Tryz.func100,Tryz.ntmps100
   go_wp2
   go_ret
   exact ⟨by rw [hf.out];simp [h4],rfl⟩
 ·have hf:Hid (b=false):=by show b=false;rw [hb2];simp [h1]
  clear hb hb2
  go_enter Tryz.func100,Tryz.ntmps100
  go_wp2
  go_ret
  exact ⟨by rw [hf.out];simp [h1],rfl⟩
set_option maxRecDepth 100000 in
set_option maxHeartbeats 1000000 in
theorem refText_calls (s:Txt) (hs:s.length≤1000000000) (w:World):Calls Tryz.prog 51 #[.string (B s)] w fun e w'=>e = .returned (.string (B (textE s)))∧Below w.heap.size w w':=by
 have hp:=Lib.hid (refPut_calls s.length (by omega) w)
 have hpl:=put_length s.length
 have hte:Hid (textE s=put s.length++s):=Lib.hid rfl
 generalize put s.length=P at *
 have hn : ¬ 9223372036854775807<P.length+s.length:=by omega
 go_enter Tryz.func51,Tryz.ntmps51
 go_wp2_with (first
  | ((with_reducible refine hp.out.mono ?_);rintro e w1 ⟨rfl,hb1⟩))
 go_ret
 exact ⟨by rw [hte.out];rfl,hb1⟩
end Go.Proofs.YtlojebhcemfodaaGreatDoor
namespace Go.Proofs.YtlojebhcemfodaaGreatDoor
open Go.RowKit
attribute [local go_sem ↓] ldvI_eq
/-- An object boxed: one block more. -/
theorem boxed {w:World} {ve vp:Value} {o:ObjL} (ho:ObjOk o):ObjB (w.alloc (.cells (objC o ve vp).toArray 54)) w.heap.size o ve vp:=⟨Blk.new w _ _,ho.tree,ho.target⟩
theorem int_eq0 (n:Nat):((n:Int)==0)=(n==0):=by
 rw [Bool.eq_iff_iff,beq_iff_eq,beq_iff_eq];omega
set_option maxRecDepth 100000 in
set_option maxHeartbeats 4000000 in
theorem alone_calls (o:ObjL) (ho:ObjOk o) (A1 A2:Option Addr) (k1 k2:Nat) (w:World):Calls Tryz.prog 98 #[.agg (objC o (.slice A1 o.ents.length k1) (.slice A2 o.pars.length k2)).toArray] w fun e w'=>e = .returned (.bool (aloneB o))∧Below w.heap.size w w':=by
 have hO:=boxed (w:=w) (ve := .slice A1 o.ents.length k1) (vp := .slice A2 o.pars.length k2) ho
 have b0:Below w.heap.size w (w.alloc (.cells (objC o (.slice A1 o.ents.length k1) (.slice A2 o.pars.length k2)).toArray 54)):=(Below.refl _ _).alloc (Nat.le_refl _) _
 generalize (objC o (.slice A1 o.ents.length k1) (.slice A2 o.pars.length k2)).toArray=cs at *
 obtain ⟨W0,hW0⟩ : ∃ W0,w.alloc (.cells cs 54)=W0:=⟨_,rfl⟩
 rw [hW0] at hO b0
 have c0:=hO.kind
 have c1:=hO.data
 have c2:=hO.ents
 have c35:=hO.pars
 have c36:=hO.time
 have c37:=hO.text
 have c70:=hO.of_
 have c71:=hO.name
 have q1:=run_ldvI_at hO.tree ho.tree
 have q2:=run_ldvI_at hO.target ho.target
 have z1:=fun W=>equalIn_zero o.tree ho.tree W
 have z2:=fun W=>equalIn_zero o.target ho.target W
 have e1:Hid (commitN o=(decide (o.tree=List.replicate 32 0)&&decide ((o.pars.length:Int)=0)&&decide ((o.time:Int)=0)&&o.text.isEmpty)):=by
  show commitN o=_
  rw [show decide ((o.pars.length:Int)=0)=(o.pars.length==0) from by rw [Bool.eq_iff_iff,decide_eq_true_iff,beq_iff_eq];omega,show decide ((o.time:Int)=0)=(o.time==0) from by rw [Bool.eq_iff_iff,decide_eq_true_iff,beq_iff_eq];omega]
  rfl
 have e2:Hid (tagN o=(decide (o.target=List.replicate 32 0)&&decide (o.of_=0)&&o.name.isEmpty)):=by
  show tagN o=_
  rw [show decide (o.of_=0)=(o.of_==0) from by rw [Bool.eq_iff_iff,decide_eq_true_iff,beq_iff_eq]]
  rfl
 have e3:List.isEmpty o.data=blobN o:=rfl
 have e4:((o.ents.length:Int)==0)=treeN o:=by
  unfold treeN
  exact int_eq0 _
 have ht:o.time<4294967296:=ho.time
 obtain ⟨r,hr⟩ : ∃ r,Hid (r=aloneB o):=⟨_,Lib.hid rfl⟩
 rw [←hr.out]
 have hr2:=hr.out
 unfold aloneB at hr2
 replace hr2:=Lib.hid hr2
 clear hr hO ho
 generalize decide (o.tree=List.replicate 32 0)=T at *
 generalize decide (o.target=List.replicate 32 0)=G at *
 generalize commitN o=C at *
 generalize tagN o=D at *
 generalize blobN o=X at *
 generalize treeN o=Y at *
 go_enter Tryz.func98,Tryz.ntmps98
 go_upto_region 3 with fail
 go_cut [5] (fun s5 wx=>s5 = .bool C∧wx=W0)
 case first=>
  go_wp2
  all_goals
   go_meet
   case rel=>
    refine ⟨?_,rfl⟩
    rw [e1.out]
    clear c0 c1 c2 c35 c36 c37 c70 c71 q1 q2 z1 z2 e1 e2 hr2 e3 e4 b0 hW0
    simp_all
 case rest=>
  obtain ⟨rfl,rfl⟩:=hcut
  clear e1 c35 c36 c37 z1 q1
  go_upto_region 4 with fail
  go_cut [6] (fun s6 wx=>s6 = .bool D∧wx=wc)
  case first=>
   go_wp2
   all_goals
    go_meet
    case rel=>
     refine ⟨?_,rfl⟩
     rw [e2.out]
     clear c0 c1 c2 c70 c71 q2 z2 e2 hr2 e3 e4 b0 hW0
     simp_all
  case rest=>
   obtain ⟨rfl,rfl⟩:=hcut
   clear e2 c70 c71 z2 q2
   clear hW0
   go_wp2
   all_goals
    go_ret
    refine ⟨?_,b0⟩
    rw [hr2.out]
    simp_all
end Go.Proofs.YtlojebhcemfodaaGreatDoor
namespace Go.Proofs.YtlojebhcemfodaaGreatDoor
open Go.RowKit
theorem sizedEnt {e:EntL} (h:EntOk e):(Tryz.prog.info? 134).map (·.size)=some (entC e).length:=by rw [entC_len h];exact szEnt
theorem entC_one (r:EntL) : ∀ u∈entC r,u.oneCell'=true:=by
 intro u hu
 simp only [entC,List.mem_cons,u8s,List.toList_toArray,List.mem_map] at hu
 rcases hu with rfl | rfl | ⟨c,_,rfl⟩<;>rfl
theorem wpList_store_newEnt {W:World} {ops:Array Oper} {rest:List Oper} {o:Oper} {a:Act} {Q:Exit→Act→World→Prop} (hgd:o.guard=none) (x y:Operand) (ho:o.op = .store 134 x y)
 (r:EntL) (hr:EntOk r) (zs:Array Value) (hx:a.eval x = .pointer (some ⟨W.heap.size,0,none⟩)) (hy:a.eval y = .agg (entC r).toArray) (hz:zs.size=34)
 (h : ∀ W1,Blk W1 W.heap.size 134 (entC r).toArray→Below W.heap.size W W1→wpList Tryz.prog ops Q rest (a.put o.dst undef) W1):wpList Tryz.prog ops Q (o::rest) a (W.alloc (.cells zs 134)):=
 wpList_store_new hgd _ x y ho (entC r).toArray zs hx hy (by rw [List.size_toArray];exact sizedEnt hr) (hz.trans (by simp [entC_len hr])) (Array.all_eq_true_iff_forall_mem.2 fun u hu=>entC_one r u (by simpa using hu)) h
theorem ents_bad {l:List EntL} {i:Nat} (hi:i<l.length) (h:entAt l i=false):entsB l=false:=by
 unfold entsB
 rw [Bool.and_eq_false_iff]
 exact .inl (List.all_eq_false.2 ⟨i,by simpa using hi,by rw [h];simp⟩)
theorem ents_all {l:List EntL} (h:(List.range l.length).all (entAt l)=true):entsB l=decide (l.length≤64):=by unfold entsB;rw [h,Bool.true_and]
theorem ents_step {p:Nat→Bool} {k:Nat} (h:(List.range k).all p=true) (hk:p k=true):(List.range (k+1)).all p=true:=by
 rw [List.range_succ,List.all_append,h];simp [hk]
theorem entAt_no {l:List EntL} {k:Nat} {x:EntL} (hx:l[k]?=some x) (h:entB x=false):entAt l k=false:=by unfold entAt;rw [hx];simp only [h];rfl
theorem entAt_zero {l:List EntL} {x:EntL} (hx:l[0]?=some x) (h:entB x=true):entAt l 0=true:=by unfold entAt;rw [hx];simp only [h];rfl
theorem entAt_succ {l:List EntL} {k:Nat} {x p:EntL} (hx:l[k+1]?=some x) (hp:l[k]?=some p) (h:entB x=true):entAt l (k+1)=Op.bytesLess p.name x.name:=by unfold entAt;rw [hx];simp only [h,hp,Bool.true_and]
theorem range_ent {w:World} {g o:Nat} {r:EntL} (h:w.rangeAt g o (entC r)):w.cell? ⟨g,o,none⟩=some (.string (B r.name))∧w.cell? ⟨g,o+1,none⟩=some (.int .i64 r.kind):=⟨h 0 _ rfl,h 1 _ rfl⟩
theorem range_blkEnt {w:World} {g:Nat} {r:EntL} (h:Blk w g 134 (entC r).toArray):w.rangeAt g 0 (entC r):=by
 have:=range_blk h
 rwa [List.toList_toArray] at this
theorem range_entId {w:World} {g o:Nat} {r:EntL} (h:w.rangeAt g o (entC r)):w.rangeAt g (o+2) (u8s r.id).toList:=fun j u hu=>by
 have:=h (j+2) u (by simpa [entC] using hu)
 rwa [show o+(j+2)=o+2+j from by omega] at this
/-- How two texts stand. -/
theorem two_ways (p x:Txt):(Op.bytesLess p x=true∧Op.bytesLess x p=false∧(p==x)=false∧(x==p)=false)∨(Op.bytesLess p x=false∧Op.bytesLess x p=true∧(p==x)=false∧(x==p)=false)∨(Op.bytesLess p x=false∧Op.bytesLess x p=false∧(p==x)=true∧(x==p)=true):=by
 cases h:Op.bytesLess p x with
 | true=>
   have h1:=less_ne h
   exact .inl ⟨rfl,less_asymm h,h1,by rw [beq_eq_false_iff_ne] at h1 ⊢;exact fun e=>h1 e.symm⟩
 | false=>
   by_cases e:p=x
   ·subst e
    exact .inr (.inr ⟨rfl,h,by simp,by simp⟩)
   ·have h2:=less_total h e
    have h1:=less_ne h2
    exact .inr (.inl ⟨rfl,h2,by rw [beq_eq_false_iff_ne];exact e,h1⟩)
/-- What lies there while an entry is looked at. -/
structure EntQ (w:World) (g gs os:Nat) (l:List EntL) (r:EntL) (w':World):Prop where
 blk:Blk w' g 134 (entC r).toArray
 at_ : ∀ i x,l[i]?=some x→w'.rangeAt gs (os+i*34) (entC x)
 gs_:gs<w'.heap.size
 bel:Below w.heap.size w w'
section
variable {w:World} {g gs os:Nat} {l:List EntL} {r:EntL} {w':World}
theorem EntQ.drew (h:EntQ w g gs os l r w'):EntQ w g gs os l r w'.drew:=⟨h.blk.drew,h.at_,h.gs_,h.bel.drew⟩
theorem EntQ.name_ (h:EntQ w g gs os l r w'):w'.cell? ⟨g,0,none⟩=some (.string (B r.name)):=(range_ent (range_blkEnt h.blk)).1
theorem EntQ.kind_ (h:EntQ w g gs os l r w') {n:Int} (hn:r.kind=n):w'.cell? ⟨g,1,none⟩=some (.int .i64 n):=hn▸(range_ent (range_blkEnt h.blk)).2
theorem keepE {f:FuncId} {args:Array Value} {v:Value} {w0:World} (h:Calls Tryz.prog f args w0 fun e w'=>e = .returned v∧w'=w0) (hS:EntQ w g gs os l r w0) :
 Calls Tryz.prog f args w0 fun e w'=>e = .returned v∧EntQ w g gs os l r w':=
 h.mono fun _ _ ⟨he,hw⟩=>⟨he,hw▸hS⟩
end
set_option maxRecDepth 100000 in
set_option maxHeartbeats 4000000 in
theorem entries_calls (l:List EntL) (hok : ∀ e∈l,EntOk e) (v:Value) (w:World) (hv:Ents w v l):Calls Tryz.prog 99 #[v] w fun e w'=>e = .returned (.bool (entsB l))∧Below w.heap.size w w':=by
 have hlen:=hv.len
 obtain ⟨A,cap,rfl,hcap1,hcap2,hat⟩:=hv
 have hat:=Lib.hid hat
 obtain ⟨r,hr⟩ : ∃ r,Hid (r=entsB l):=⟨_,Lib.hid rfl⟩
 rw [←hr.out]
 go_enter Tryz.func99,Tryz.ntmps99
 go_wp2
 go_loopw [7] (fun i wr => ∃ k:Nat,i = .int .i64 k∧k≤l.length∧Hid ((List.range k).all (entAt l)=true)∧Below w.heap.size w wr) (fun i _=>l.length-(intOf i).toNat)
 case atStart=>exact ⟨0,rfl,by omega,rfl,Below.refl _ _⟩
 case round=>
  obtain ⟨k,rfl,hk,hall,hbel⟩:=hrel
  by_cases hlt:k<l.length
  ·have hki:(k:Int)<(l.length:Int):=by omega
   obtain ⟨gs,os,rfl,hgs,hcell⟩:=hat.out (by omega)
   obtain ⟨x,hx⟩ : ∃ x,l[k]?=some x:=⟨_,List.getElem?_eq_getElem hlt⟩
   have hxok:EntOk x:=hok x (List.mem_of_getElem? hx)
   have hx0:=rangeAt_below (hcell k x hx) hgs hbel
   have hxh:=Lib.hid hx
   clear hx
   have hsz:=hbel.size
   go_wp2_with (first
    | (refine wpList_load_mid rfl 134 (.tmp 10) rfl gs (os+k*34) rfl (entC x) _ hx0 Tryz.underlying134 rfl (sizedEnt hxok) ?_)
    | (refine wpList_store_newEnt rfl (.tmp 4) (.tmp 11) rfl x hxok _ rfl rfl rfl ?_;intro W1 hb1 hbl1))
   obtain ⟨g,hg⟩ : ∃ g,wr.heap.size=g:=⟨_,rfl⟩
   have hS:EntQ w g gs os l x W1:=by
    have h1:=bthen hbel hsz hbl1
    exact ⟨hg▸hb1,fun i y hy=>rangeAt_below (hcell i y hy) hgs h1,Nat.lt_of_lt_of_le hgs h1.size,h1⟩
   rw [hg]
   have hnm:=fun W=>name_calls x.name W
   have hx:=hxh
   clear hb1 hbl1 hx0 hg hbel hxh hat hcell
   cases bn:nameB x.name with
   | false=>
     rw [bn] at hnm
     have hf:Hid (r=false):=by show r=false;rw [hr.out];exact ents_bad hlt (entAt_no hx.out (by unfold entB;rw [bn];rfl))
     clear hr hall bn
     refine wp_region_class (C:=EntQ w g gs os l x) (by kernel_rfl) (by kernel_rfl) hS.drew ?_
     repeat
      first
       | ((with_reducible refine wpQuiet_ex ?_ ?_)
          ·(go_simp;done)
          apply Exists.intro
          refine ⟨fun W hW=>?_,?_⟩
          ·first
            | (have f1:=hW.name_
               go_simp
               first
                | rfl
                | (go_at_call 101;with_reducible exact keepE (hnm _) hW))
          simp only [Act.put,List.setIfInBounds_toArray,List.set_cons_zero,List.set_cons_succ])
       | ((with_reducible refine wpQuiet_pass ?_ ?_)
          ·(first | rfl | (go_simp;done))
          simp only [Act.put,List.setIfInBounds_toArray,List.set_cons_zero,List.set_cons_succ])
     with_reducible refine wpQuiet_nil ?_
     intro w5 hW5
     go_wp2
     go_ret
     exact ⟨by rw [hf.out];rfl,hW5.bel⟩
   | true=>
     rw [bn] at hnm
     by_cases hk12:x.kind=1∨x.kind=2
     ·have heb:entB x=true:=by
       unfold entB
       rw [bn]
       rcases hk12 with h | h<;>simp [h]
      clear bn
      rcases Nat.eq_zero_or_pos k with h0 | h0
      ·have hk0 : ¬ (0:Int)<(k:Int):=by omega
       have hk0d:decide ((0:Int)<(k:Int))=false:=by simpa using h0
       have hk0n:decide (0<k)=false:=by simp [h0]
       have hx00:l[0]?=some x:=by rw [←h0];exact hx.out
       have hok0:entAt l k=true:=by rw [h0];exact entAt_zero hx00 heb
       have hst:=Lib.hid (ents_step hall.out hok0)
       clear hx00 hok0 h0 heb hr hall
       rcases hk12 with hkx | hkx
       ·have hkx:=Lib.hid hkx
        refine wp_region_class (C:=EntQ w g gs os l x) (by kernel_rfl) (by kernel_rfl) hS.drew ?_
        repeat
         first
          | ((with_reducible refine wpQuiet_ex ?_ ?_)
             ·(go_simp;done)
             apply Exists.intro
             refine ⟨fun W hW=>?_,?_⟩
             ·first
               | (have f1:=hW.name_
                  have f3:=hW.kind_ hkx.out
                  go_simp
                  first
                   | rfl
                   | (go_at_call 101;with_reducible exact keepE (hnm _) hW))
             simp only [Act.put,List.setIfInBounds_toArray,List.set_cons_zero,List.set_cons_succ])
          | ((with_reducible refine wpQuiet_pass ?_ ?_)
             ·(first | rfl | (go_simp;done))
             simp only [Act.put,List.setIfInBounds_toArray,List.set_cons_zero,List.set_cons_succ])
        with_reducible refine wpQuiet_nil ?_
        intro w5 hW5
        clear hk0 hk0d hk0n
        go_wp2
        go_roundw
        case rel=>exact ⟨k+1,by go_num,by omega,hst,hW5.bel⟩
        case measure=>simp [intOf];omega
       ·have hkx:=Lib.hid hkx
        refine wp_region_class (C:=EntQ w g gs os l x) (by kernel_rfl) (by kernel_rfl) hS.drew ?_
        repeat
         first
          | ((with_reducible refine wpQuiet_ex ?_ ?_)
             ·(go_simp;done)
             apply Exists.intro
             refine ⟨fun W hW=>?_,?_⟩
             ·first
               | (have f1:=hW.name_
                  have f3:=hW.kind_ hkx.out
                  go_simp
                  first
                   | rfl
                   | (go_at_call 101;with_reducible exact keepE (hnm _) hW))
             simp only [Act.put,List.setIfInBounds_toArray,List.set_cons_zero,List.set_cons_succ])
          | ((with_reducible refine wpQuiet_pass ?_ ?_)
             ·(first | rfl | (go_simp;done))
             simp only [Act.put,List.setIfInBounds_toArray,List.set_cons_zero,List.set_cons_succ])
        with_reducible refine wpQuiet_nil ?_
        intro w5 hW5
        clear hk0 hk0d hk0n
        go_wp2
        go_roundw
        case rel=>exact ⟨k+1,by go_num,by omega,hst,hW5.bel⟩
        case measure=>simp [intOf];omega
      ·obtain ⟨q,hq⟩ : ∃ q,l[k-1]?=some q:=⟨_,List.getElem?_eq_getElem (show k-1<l.length by omega)⟩
       have hk0:(0:Int)<(k:Int):=by omega
       have hat1:entAt l k=Op.bytesLess q.name x.name:=by
        obtain ⟨j,rfl⟩ : ∃ j,k=j+1:=⟨k-1,by omega⟩
        exact entAt_succ hx.out hq heb
       obtain ⟨u,s1,hu⟩ : ∃ u:Nat,IntKind.i64.wrap ((k:Int)-1)=(u:Int)∧u=k-1:=⟨k-1,by rw [IntWalk.i64_in _ (by omega)];omega,rfl⟩
       have s3:(u:Int)<(l.length:Int):=by omega
       have s4:u<l.length:=by omega
       have hqu:Hid (l[u]?=some q):=by show _=_;rw [hu];exact hq
       clear hu hq heb
       rcases two_ways q.name x.name with ⟨l1,l2,l3,l4⟩ | ⟨l1,l2,l3,l4⟩ | ⟨l1,l2,l3,l4⟩
       all_goals rw [l1] at hat1
       ·have hst:=Lib.hid (ents_step hall.out hat1)
        clear hat1 hr hall
        rcases hk12 with hkx | hkx
        ·have hkx:=Lib.hid hkx
         refine wp_region_class (C:=EntQ w g gs os l x) (by kernel_rfl) (by kernel_rfl) hS.drew ?_
         repeat
          first
           | ((with_reducible refine wpQuiet_ex ?_ ?_)
              ·(go_simp;done)
              apply Exists.intro
              refine ⟨fun W hW=>?_,?_⟩
              ·first
                | (have f1:=hW.name_
                   have f3:=hW.kind_ hkx.out
                   have f2:W.cell? ⟨gs,os+u*34,none⟩=some (.string (B q.name)):=(range_ent (hW.at_ _ q hqu.out)).1
                   go_simp
                   first
                    | rfl
                    | (go_at_call 101;with_reducible exact keepE (hnm _) hW))
              simp only [Act.put,List.setIfInBounds_toArray,List.set_cons_zero,List.set_cons_succ])
           | ((with_reducible refine wpQuiet_pass ?_ ?_)
              ·(first | rfl | (go_simp;done))
              simp only [Act.put,List.setIfInBounds_toArray,List.set_cons_zero,List.set_cons_succ])
         with_reducible refine wpQuiet_nil ?_
         intro w5 hW5
         clear s1 s3 s4 l1 l2 l3 l4 hk0
         go_wp2
         go_roundw
         case rel=>exact ⟨k+1,by go_num,by omega,hst,hW5.bel⟩
         case measure=>simp [intOf];omega
        ·have hkx:=Lib.hid hkx
         refine wp_region_class (C:=EntQ w g gs os l x) (by kernel_rfl) (by kernel_rfl) hS.drew ?_
         repeat
          first
           | ((with_reducible refine wpQuiet_ex ?_ ?_)
              ·(go_simp;done)
              apply Exists.intro
              refine ⟨fun W hW=>?_,?_⟩
              ·first
                | (have f1:=hW.name_
                   have f3:=hW.kind_ hkx.out
                   have f2:W.cell? ⟨gs,os+u*34,none⟩=some (.string (B q.name)):=(range_ent (hW.at_ _ q hqu.out)).1
                   go_simp
                   first
                    | rfl
                    | (go_at_call 101;with_reducible exact keepE (hnm _) hW))
              simp only [Act.put,List.setIfInBounds_toArray,List.set_cons_zero,List.set_cons_succ])
           | ((with_reducible refine wpQuiet_pass ?_ ?_)
              ·(first | rfl | (go_simp;done))
              simp only [Act.put,List.setIfInBounds_toArray,List.set_cons_zero,List.set_cons_succ])
         with_reducible refine wpQuiet_nil ?_
         intro w5 hW5
         clear s1 s3 s4 l1 l2 l3 l4 hk0
         go_wp2
         go_roundw
         case rel=>exact ⟨k+1,by go_num,by omega,hst,hW5.bel⟩
         case measure=>simp [intOf];omega
       ·have hf:Hid (r=false):=by show r=false;rw [hr.out];exact ents_bad hlt hat1
        clear hat1 hr hall
        rcases hk12 with hkx | hkx
        ·have hkx:=Lib.hid hkx
         refine wp_region_class (C:=EntQ w g gs os l x) (by kernel_rfl) (by kernel_rfl) hS.drew ?_
         repeat
          first
           | ((with_reducible refine wpQuiet_ex ?_ ?_)
              ·(go_simp;done)
              apply Exists.intro
              refine ⟨fun W hW=>?_,?_⟩
              ·first
                | (have f1:=hW.name_
                   have f3:=hW.kind_ hkx.out
                   have f2:W.cell? ⟨gs,os+u*34,none⟩=some (.string (B q.name)):=(range_ent (hW.at_ _ q hqu.out)).1
                   go_simp
                   first
                    | rfl
                    | (go_at_call 101;with_reducible exact keepE (hnm _) hW))
              simp only [Act.put,List.setIfInBounds_toArray,List.set_cons_zero,List.set_cons_succ])
           | ((with_reducible refine wpQuiet_pass ?_ ?_)
              ·(first | rfl | (go_simp;done))
              simp only [Act.put,List.setIfInBounds_toArray,List.set_cons_zero,List.set_cons_succ])
         with_reducible refine wpQuiet_nil ?_
         intro w5 hW5
         go_wp2
         go_ret
         exact ⟨by rw [hf.out];rfl,hW5.bel⟩
        ·have hkx:=Lib.hid hkx
         refine wp_region_class (C:=EntQ w g gs os l x) (by kernel_rfl) (by kernel_rfl) hS.drew ?_
         repeat
          first
           | ((with_reducible refine wpQuiet_ex ?_ ?_)
              ·(go_simp;done)
              apply Exists.intro
              refine ⟨fun W hW=>?_,?_⟩
              ·first
                | (have f1:=hW.name_
                   have f3:=hW.kind_ hkx.out
                   have f2:W.cell? ⟨gs,os+u*34,none⟩=some (.string (B q.name)):=(range_ent (hW.at_ _ q hqu.out)).1
                   go_simp
                   first
                    | rfl
                    | (go_at_call 101;with_reducible exact keepE (hnm _) hW))
              simp only [Act.put,List.setIfInBounds_toArray,List.set_cons_zero,List.set_cons_succ])
           | ((with_reducible refine wpQuiet_pass ?_ ?_)
              ·(first | rfl | (go_simp;done))
              simp only [Act.put,List.setIfInBounds_toArray,List.set_cons_zero,List.set_cons_succ])
         with_reducible refine wpQuiet_nil ?_
         intro w5 hW5
         go_wp2
         go_ret
         exact ⟨by rw [hf.out];rfl,hW5.bel⟩
       ·have hf:Hid (r=false):=by show r=false;rw [hr.out];exact ents_bad hlt hat1
        clear hat1 hr hall
        rcases hk12 with hkx | hkx
        ·have hkx:=Lib.hid hkx
         refine wp_region_class (C:=EntQ w g gs os l x) (by kernel_rfl) (by kernel_rfl) hS.drew ?_
         repeat
          first
           | ((with_reducible refine wpQuiet_ex ?_ ?_)
              ·(go_simp;done)
              apply Exists.intro
              refine ⟨fun W hW=>?_,?_⟩
              ·first
                | (have f1:=hW.name_
                   have f3:=hW.kind_ hkx.out
                   have f2:W.cell? ⟨gs,os+u*34,none⟩=some (.string (B q.name)):=(range_ent (hW.at_ _ q hqu.out)).1
                   go_simp
                   first
                    | rfl
                    | (go_at_call 101;with_reducible exact keepE (hnm _) hW))
              simp only [Act.put,List.setIfInBounds_toArray,List.set_cons_zero,List.set_cons_succ])
           | ((with_reducible refine wpQuiet_pass ?_ ?_)
              ·(first | rfl | (go_simp;done))
              simp only [Act.put,List.setIfInBounds_toArray,List.set_cons_zero,List.set_cons_succ])
         with_reducible refine wpQuiet_nil ?_
         intro w5 hW5
         go_wp2
         go_ret
         exact ⟨by rw [hf.out];rfl,hW5.bel⟩
        ·have hkx:=Lib.hid hkx
         refine wp_region_class (C:=EntQ w g gs os l x) (by kernel_rfl) (by kernel_rfl) hS.drew ?_
         repeat
          first
           | ((with_reducible refine wpQuiet_ex ?_ ?_)
              ·(go_simp;done)
              apply Exists.intro
              refine ⟨fun W hW=>?_,?_⟩
              ·first
                | (have f1:=hW.name_
                   have f3:=hW.kind_ hkx.out
                   have f2:W.cell? ⟨gs,os+u*34,none⟩=some (.string (B q.name)):=(range_ent (hW.at_ _ q hqu.out)).1
                   go_simp
                   first
                    | rfl
                    | (go_at_call 101;with_reducible exact keepE (hnm _) hW))
              simp only [Act.put,List.setIfInBounds_toArray,List.set_cons_zero,List.set_cons_succ])
           | ((with_reducible refine wpQuiet_pass ?_ ?_)
              ·(first | rfl | (go_simp;done))
              simp only [Act.put,List.setIfInBounds_toArray,List.set_cons_zero,List.set_cons_succ])
         with_reducible refine wpQuiet_nil ?_
         intro w5 hW5
         go_wp2
         go_ret
         exact ⟨by rw [hf.out];rfl,hW5.bel⟩
     ·have d1:(x.kind != 1)=true:=by simp only [bne_iff_ne];exact fun e=>hk12 (.inl e)
      have d2:(x.kind != 2)=true:=by simp only [bne_iff_ne];exact fun e=>hk12 (.inr e)
      have d3:(x.kind==1)=false:=by rw [beq_eq_false_iff_ne];exact fun e=>hk12 (.inl e)
      have d4:(x.kind==2)=false:=by rw [beq_eq_false_iff_ne];exact fun e=>hk12 (.inr e)
      have heb:entB x=false:=by unfold entB;rw [d3,d4];simp
      have hf:Hid (r=false):=by show r=false;rw [hr.out];exact ents_bad hlt (entAt_no hx.out heb)
      have d5 : ¬ x.kind=1:=fun e=>hk12 (.inl e)
      have d6 : ¬ x.kind=2:=fun e=>hk12 (.inr e)
      clear hr hall bn hk12 heb
      refine wp_region_class (C:=EntQ w g gs os l x) (by kernel_rfl) (by kernel_rfl) hS.drew ?_
      repeat
       first
        | ((with_reducible refine wpQuiet_ex ?_ ?_)
           ·(go_simp;done)
           apply Exists.intro
           refine ⟨fun W hW=>?_,?_⟩
           ·first
             | (have f1:=hW.name_
                have f3:=hW.kind_ rfl
                go_simp
                first
                 | rfl
                 | (go_at_call 101;with_reducible exact keepE (hnm _) hW))
           simp only [Act.put,List.setIfInBounds_toArray,List.set_cons_zero,List.set_cons_succ])
        | ((with_reducible refine wpQuiet_pass ?_ ?_)
           ·(first | rfl | (go_simp;done))
           simp only [Act.put,List.setIfInBounds_toArray,List.set_cons_zero,List.set_cons_succ])
      with_reducible refine wpQuiet_nil ?_
      intro w5 hW5
      go_wp2
      go_ret
      exact ⟨by rw [hf.out];rfl,hW5.bel⟩
  ·have hki : ¬ (k:Int)<(l.length:Int):=by omega
   have hf:Hid (r=decide (l.length≤64)):=by
    show r=_
    rw [hr.out]
    have:=hall.out
    rw [show k=l.length from by omega] at this
    exact ents_all this
   clear hall hat hr
   by_cases h64:l.length≤64
   ·have i64:(l.length:Int)≤64:=by omega
    go_wp2
    go_ret
    exact ⟨by rw [hf.out,decide_eq_true h64];rfl,hbel⟩
   ·have i64 : ¬ (l.length:Int)≤64:=by omega
    go_wp2
    go_ret
    exact ⟨by rw [hf.out,decide_eq_false h64];rfl,hbel⟩
end Go.Proofs.YtlojebhcemfodaaGreatDoor
namespace Go.Proofs.YtlojebhcemfodaaGreatDoor
open Go.RowKit
attribute [local go_sem ↓] ldvO_eq
set_option maxRecDepth 100000 in
set_option maxHeartbeats 4000000 in
theorem may_calls (o:ObjL) (A1 A2:Option Addr) (k1 k2:Nat) (w:World) (hv:ObjV w (.slice A1 o.ents.length k1) (.slice A2 o.pars.length k2) o):Calls Tryz.prog 79 #[.agg (objC o (.slice A1 o.ents.length k1) (.slice A2 o.pars.length k2)).toArray] w fun e w'=>e = .returned (.bool (mayB o))∧Below w.heap.size w w':=by
 have ho:=hv.ok
 have hO:=boxed (w:=w) (ve := .slice A1 o.ents.length k1) (vp := .slice A2 o.pars.length k2) ho
 have b0:Below w.heap.size w (w.alloc (.cells (objC o (.slice A1 o.ents.length k1) (.slice A2 o.pars.length k2)).toArray 54)):=(Below.refl _ _).alloc (Nat.le_refl _) _
 have hv0:=hv.below b0
 have hal:=fun W=>Lib.hid (alone_calls o ho A1 A2 k1 k2 W)
 have hld:=fun W (h:ObjB W w.heap.size o (.slice A1 o.ents.length k1) (.slice A2 o.pars.length k2))=>run_ldvO h ho
 obtain ⟨W0,hW0⟩ : ∃ W0,w.alloc (.cells (objC o (.slice A1 o.ents.length k1) (.slice A2 o.pars.length k2)).toArray 54)=W0:=⟨_,rfl⟩
 rw [hW0] at hO b0 hv0
 have hen:=fun W (hb:Below W0.heap.size W0 W)=>Lib.hid (entries_calls o.ents ho.ents _ W (hv0.ents.below hb))
 have hnm:=fun W=>Lib.hid (name_calls o.name W)
 have hki:=fun W=>Lib.hid (kind_calls o.of_ W)
 have c0:=hO.kind
 have q0:=hld W0 hO
 obtain ⟨r,hr⟩ : ∃ r,Hid (r=mayB o):=⟨_,Lib.hid rfl⟩
 rw [←hr.out]
 have hr2:=hr.out
 unfold mayB at hr2
 replace hr2:=Lib.hid hr2
 have d2:=fun W (hb:Below W0.heap.size W0 W)=>(hO.below hb).ents
 have d35:=fun W (hb:Below W0.heap.size W0 W)=>(hO.below hb).pars
 have d70:=fun W (hb:Below W0.heap.size W0 W)=>(hO.below hb).of_
 have d71:=fun W (hb:Below W0.heap.size W0 W)=>(hO.below hb).name
 clear hr hO hv hv0 ho hld
 generalize (objC o (.slice A1 o.ents.length k1) (.slice A2 o.pars.length k2)).toArray=cs at *
 generalize aloneB o=A at *
 generalize entsB o.ents=E at *
 generalize nameB o.name=N at *
 generalize kindB o.of_=K at *
 have s0:=b0.size
 by_cases h2:o.kind=2
 ·rw [h2] at c0
  have hf:Hid (r=(A&&E)):=by show r=_;rw [hr2.out,if_pos h2]
  clear hr2 h2 hnm hki d35 d70 d71
  have hal:=hal W0
  cases A with
  | false=>
    clear hen d2
    go_enter Tryz.func79,Tryz.ntmps79
    go_wp2_with (first
     | ((with_reducible refine hal.out.mono ?_);rintro e w1 ⟨rfl,hb1⟩))
    go_ret
    exact ⟨by rw [hf.out];rfl,bthen b0 s0 hb1⟩
  | true=>
    go_enter Tryz.func79,Tryz.ntmps79
    go_wp2_with (first
     | ((with_reducible refine hal.out.mono ?_);rintro e w1 ⟨rfl,hb1⟩
        have c2:=d2 w1 hb1
        have hen:=hen w1 hb1
        clear hal d2)
     | ((with_reducible refine hen.out.mono ?_);rintro e w2 ⟨rfl,hb2⟩))
    go_ret
    exact ⟨by rw [hf.out];rfl,bthen b0 s0 (bthen hb1 hb1.size hb2)⟩
 have e2:(o.kind==2)=false:=by rw [beq_eq_false_iff_ne];exact h2
 by_cases h3:o.kind=3
 ·rw [h3] at c0
  have hf:Hid (r=(A&&decide ((o.pars.length:Int)≤8))):=by
   show r=_;rw [hr2.out,if_neg h2,if_pos h3]
   congr 1
   rw [Bool.eq_iff_iff,decide_eq_true_iff,decide_eq_true_iff];omega
  clear hr2 h2 h3 e2 hnm hki d2 d70 d71 hen
  have hal:=hal W0
  cases A with
  | false=>
    clear d35
    go_enter Tryz.func79,Tryz.ntmps79
    go_wp2_with (first
     | ((with_reducible refine hal.out.mono ?_);rintro e w1 ⟨rfl,hb1⟩))
    go_ret
    exact ⟨by rw [hf.out];rfl,bthen b0 s0 hb1⟩
  | true=>
    go_enter Tryz.func79,Tryz.ntmps79
    go_wp2_with (first
     | ((with_reducible refine hal.out.mono ?_);rintro e w1 ⟨rfl,hb1⟩
        have c35:=d35 w1 hb1
        clear hal d35))
    go_ret
    exact ⟨by rw [hf.out];rfl,bthen b0 s0 hb1⟩
 have e3:(o.kind==3)=false:=by rw [beq_eq_false_iff_ne];exact h3
 by_cases h4:o.kind=4
 ·rw [h4] at c0
  have hf:Hid (r=(A&&K&&N)):=by show r=_;rw [hr2.out,if_neg h2,if_neg h3,if_pos h4]
  clear hr2 h2 h3 h4 e2 e3 hen d2 d35
  have hal:=hal W0
  cases A with
  | false=>
    clear hnm hki d70 d71
    go_enter Tryz.func79,Tryz.ntmps79
    go_wp2_with (first
     | ((with_reducible refine hal.out.mono ?_);rintro e w1 ⟨rfl,hb1⟩))
    go_ret
    exact ⟨by rw [hf.out];rfl,bthen b0 s0 hb1⟩
  | true=>
    cases K with
    | false=>
      clear hnm d71
      go_enter Tryz.func79,Tryz.ntmps79
      go_wp2_with (first
       | ((with_reducible refine hal.out.mono ?_);rintro e w1 ⟨rfl,hb1⟩
          have c70:=d70 w1 hb1
          have hki:=hki w1
          clear hal d70)
       | ((with_reducible refine hki.out.mono ?_);rintro e w2 ⟨rfl,rfl⟩))
      go_ret
      exact ⟨by rw [hf.out];rfl,bthen b0 s0 hb1⟩
    | true=>
      go_enter Tryz.func79,Tryz.ntmps79
      go_wp2_with (first
       | ((with_reducible refine hal.out.mono ?_);rintro e w1 ⟨rfl,hb1⟩
          have c70:=d70 w1 hb1
          have c71:=d71 w1 hb1
          have hki:=hki w1
          have hnm:=hnm w1
          clear hal d70 d71)
       | ((with_reducible refine hki.out.mono ?_);rintro e w2 ⟨rfl,rfl⟩)
       | ((with_reducible refine hnm.out.mono ?_);rintro e w3 ⟨rfl,rfl⟩))
      go_ret
      exact ⟨by rw [hf.out];rfl,bthen b0 s0 hb1⟩
 have e4:(o.kind==4)=false:=by rw [beq_eq_false_iff_ne];exact h4
 have hf:Hid (r=(o.kind==1&&A)):=by show r=_;rw [hr2.out,if_neg h2,if_neg h3,if_neg h4]
 have hal:=hal W0
 clear hr2 hnm hki d2 d35 d70 d71 hen
 by_cases h1:o.kind=1
 ·rw [h1] at c0 hf
  clear h1 h2 h3 h4 e2 e3 e4
  go_enter Tryz.func79,Tryz.ntmps79
  go_wp2_with (first
   | ((with_reducible refine hal.out.mono ?_);rintro e w1 ⟨rfl,hb1⟩))
  go_ret
  exact ⟨by rw [hf.out];rfl,bthen b0 s0 hb1⟩
 ·have e1:(o.kind==1)=false:=by rw [beq_eq_false_iff_ne];exact h1
  rw [e1] at hf
  clear hal
  go_enter Tryz.func79,Tryz.ntmps79
  go_wp2
  go_ret
  exact ⟨by rw [hf.out];simp [e1],b0⟩
end Go.Proofs.YtlojebhcemfodaaGreatDoor
namespace Go.Proofs.YtlojebhcemfodaaGreatDoor
open Go.RowKit
attribute [local go_sem ↓] ldvI_eq
theorem commit_eq (o:ObjL):commitN o=(decide (o.tree=List.replicate 32 0)&&decide ((o.pars.length:Int)=0)&&decide ((o.time:Int)=0)&&o.text.isEmpty):=by
 rw [show decide ((o.pars.length:Int)=0)=(o.pars.length==0) from by rw [Bool.eq_iff_iff,decide_eq_true_iff,beq_iff_eq];omega,show decide ((o.time:Int)=0)=(o.time==0) from by rw [Bool.eq_iff_iff,decide_eq_true_iff,beq_iff_eq];omega]
 rfl
theorem tag_eq (o:ObjL):tagN o=(decide (o.target=List.replicate 32 0)&&decide (o.of_=0)&&o.name.isEmpty):=by
 rw [show decide (o.of_=0)=(o.of_==0) from by rw [Bool.eq_iff_iff,decide_eq_true_iff,beq_iff_eq]]
 rfl
theorem run_zero {w:World} {g:Nat} (h:Blk w g 42 (u8s (List.replicate 32 0))):(ldvI ⟨g,0,none⟩).run Tryz.prog w = .ok (.agg #[.int .u8 0, .int .u8 0, .int .u8 0, .int .u8 0, .int .u8 0, .int .u8 0, .int .u8 0, .int .u8 0, .int .u8 0, .int .u8 0, .int .u8 0, .int .u8 0, .int .u8 0, .int .u8 0, .int .u8 0, .int .u8 0, .int .u8 0, .int .u8 0, .int .u8 0, .int .u8 0, .int .u8 0, .int .u8 0, .int .u8 0, .int .u8 0, .int .u8 0, .int .u8 0, .int .u8 0, .int .u8 0, .int .u8 0, .int .u8 0, .int .u8 0, .int .u8 0]) w:=by
 rw [zero_cells]
 exact run_ldvI_at (range_blk h) (by simp)
theorem lit_new_zero {ops:Array Oper} {rest:List Oper} {a:Act} {W:World} {Q:Exit→Act→World→Prop} {d:Option Tmp} {rt:TypeId} {pos:String} {af:Array Edge} (x y:Operand) (zs:Array Value) (hz:zs.size=32) (hx:a.eval x = .pointer (some ⟨W.heap.size,0,none⟩)) (hy:a.eval y = .agg #[.int .u8 0, .int .u8 0, .int .u8 0, .int .u8 0, .int .u8 0, .int .u8 0, .int .u8 0, .int .u8 0, .int .u8 0, .int .u8 0, .int .u8 0, .int .u8 0, .int .u8 0, .int .u8 0, .int .u8 0, .int .u8 0, .int .u8 0, .int .u8 0, .int .u8 0, .int .u8 0, .int .u8 0, .int .u8 0, .int .u8 0, .int .u8 0, .int .u8 0, .int .u8 0, .int .u8 0, .int .u8 0, .int .u8 0, .int .u8 0, .int .u8 0, .int .u8 0])
 (h : ∀ W1,Blk W1 W.heap.size 42 (u8s (List.replicate 32 0))→Below W.heap.size W W1→wpList Tryz.prog ops Q rest (a.put d undef) W1) :
 wpList Tryz.prog ops Q ({ dst:=d,op := .store 42 x y,type:=rt,pos:=pos,after:=af,guard:=none }::rest) a (W.alloc (.cells zs 42)):=
 wpList_store_newId rfl x y rfl (List.replicate 32 0) (by simp) zs hx (hy.trans (congrArg Value.agg zero_cells)) hz h
theorem lit_load_ent {ops:Array Oper} {rest:List Oper} {a:Act} {w:World} {Q:Exit→Act→World→Prop} {d:Option Tmp} {rt:TypeId} {pos:String} {af:Array Edge} (x:Operand) (b o:Nat) (r:EntL) (hr:EntOk r) (hc:w.rangeAt b o (entC r)) (hx:a.eval x = .pointer (some ⟨b,o,none⟩))
 (h:wpList Tryz.prog ops Q rest (a.put d (.agg (entC r).toArray)) w):wpList Tryz.prog ops Q ({ dst:=d,op := .load 134 x,type:=rt,pos:=pos,after:=af,guard:=none }::rest) a w:=
 wpList_load_mid rfl _ x rfl b o hx _ _ hc Tryz.underlying134 rfl (sizedEnt hr) h
theorem lit_new_ent {ops:Array Oper} {rest:List Oper} {a:Act} {w:World} {Q:Exit→Act→World→Prop} {d:Option Tmp} {rt:TypeId} {pos:String} {af:Array Edge} (x y:Operand) (r:EntL) (hr:EntOk r) (zs:Array Value) (hz:zs.size=34) (hx:a.eval x = .pointer (some ⟨w.heap.size,0,none⟩)) (hy:a.eval y = .agg (entC r).toArray)
 (h : ∀ W1,Blk W1 w.heap.size 134 (entC r).toArray→Below w.heap.size w W1→wpList Tryz.prog ops Q rest (a.put d undef) W1) :
 wpList Tryz.prog ops Q ({ dst:=d,op := .store 134 x y,type:=rt,pos:=pos,after:=af,guard:=none }::rest) a (w.alloc (.cells zs 134)):=
 wpList_store_newEnt rfl x y rfl r hr zs hx hy hz h
theorem treeN_two (o:ObjL) (h:o.kind=2):mayB o=(blobN o&&commitN o&&tagN o&&entsB o.ents):=by unfold mayB aloneB;rw [if_pos h,if_neg (by omega),if_pos h]
theorem may_one (o:ObjL) (h:o.kind=1):mayB o=(treeN o&&commitN o&&tagN o):=by unfold mayB aloneB;rw [if_neg (by omega),if_neg (by omega),if_neg (by omega),if_pos h,h];rfl
theorem may_three (o:ObjL) (h:o.kind=3):mayB o=(blobN o&&treeN o&&tagN o&&decide (o.pars.length≤8)):=by unfold mayB aloneB;rw [if_neg (by omega),if_pos h,if_neg (by omega),if_neg (by omega),if_pos h]
theorem may_four (o:ObjL) (h:o.kind=4):mayB o=(blobN o&&treeN o&&commitN o&&kindB o.of_&&nameB o.name):=by unfold mayB aloneB;rw [if_neg (by omega),if_neg (by omega),if_pos h,if_neg (by omega),if_neg (by omega),if_neg (by omega)]
theorem may_none (o:ObjL) (h:o.kind<1∨4<o.kind):mayB o=false:=by
 unfold mayB
 rw [if_neg (by omega),if_neg (by omega),if_neg (by omega)]
 have:(o.kind==1)=false:=by rw [beq_eq_false_iff_ne];omega
 rw [this];rfl
set_option maxRecDepth 100000 in
set_option maxHeartbeats 4000000 in
theorem refMay_calls2 (o:ObjL) (hk:o.kind=2) (A1 A2:Option Addr) (k1 k2:Nat) (w:World) (hv:ObjV w (.slice A1 o.ents.length k1) (.slice A2 o.pars.length k2) o):Calls Tryz.prog 49 #[.agg (objC o (.slice A1 o.ents.length k1) (.slice A2 o.pars.length k2)).toArray] w fun e w'=>e = .returned (.bool (mayB o))∧Below w.heap.size w w':=by
 have ho:=hv.ok
 have hO:=boxed (w:=w) (ve := .slice A1 o.ents.length k1) (vp := .slice A2 o.pars.length k2) ho
 have b0:Below w.heap.size w (w.alloc (.cells (objC o (.slice A1 o.ents.length k1) (.slice A2 o.pars.length k2)).toArray 54)):=(Below.refl _ _).alloc (Nat.le_refl _) _
 have hv0:=hv.below b0
 obtain ⟨W0,hW0⟩ : ∃ W0,w.alloc (.cells (objC o (.slice A1 o.ents.length k1) (.slice A2 o.pars.length k2)).toArray 54)=W0:=⟨_,rfl⟩
 rw [hW0] at hO b0 hv0
 have c0:=hO.kind
 have g1:=fun W=>run_ldvI_at (w:=W) (g:=w.heap.size) (o:=3) (l:=o.tree)
 have g2:=fun W=>run_ldvI_at (w:=W) (g:=w.heap.size) (o:=38) (l:=o.target)
 have z1:=fun W=>equalIn_zero o.tree ho.tree W
 have z2:=fun W=>equalIn_zero o.target ho.target W
 have e1:=Lib.hid (commit_eq o)
 have e2:=Lib.hid (tag_eq o)
 have ht:o.time<4294967296:=ho.time
 obtain ⟨r,hr⟩ : ∃ r,Hid (r=mayB o):=⟨_,Lib.hid rfl⟩
 rw [←hr.out]
 have hr2:=hr.out
 rw [treeN_two o hk,commit_eq,tag_eq] at hr2
 have hX:blobN o=List.isEmpty o.data:=rfl
 rw [hX] at hr2
 replace hr2:=Lib.hid hr2
 rw [hk] at c0
 have htr:=Lib.hid ho.tree
 have hta:=Lib.hid ho.target
 have hoE:=Lib.hid ho.ents
 obtain ⟨E,hE⟩ : ∃ E,Hid (E=entsB o.ents):=⟨_,Lib.hid rfl⟩
 rw [←hE.out] at hr2
 clear hr ho hX hv e1 e2
 generalize decide (o.tree=List.replicate 32 0)=T at *
 generalize decide (o.target=List.replicate 32 0)=G at *
 obtain ⟨Pz,hPz⟩ : ∃ Pz,decide ((o.pars.length:Int)=0)=Pz:=⟨_,rfl⟩
 have hP1:0<o.pars.length→Pz=false:=fun h=>by rw [←hPz];exact decide_eq_false (by omega)
 have hP2 : ¬ 0<o.pars.length→Pz=true:=fun h=>by rw [←hPz];exact decide_eq_true (by omega)
 replace hP1:=Lib.hid hP1
 replace hP2:=Lib.hid hP2
 have hr3:=hr2.out
 rw [hPz] at hr3
 replace hr2:=Lib.hid hr3
 clear hPz hr3
 generalize hcs:(objC o (.slice A1 o.ents.length k1) (.slice A2 o.pars.length k2)).toArray=cs at *
 clear hcs
 have s0:=b0.size
 go_enter Tryz.func49,Tryz.ntmps49
 go_upto_region 4 with (first
  | ((with_reducible refine lit_new_zero (.tmp 3) (.tmp 16) _ ?_ ?_ ?_ ?_);rfl;rfl;rfl
     intro W1 hb1 hbl1
     have hO1:=hO.below hbl1
     have c1:=hO1.data
     have c2:=hO1.ents
     have c35:=hO1.pars
     have c36:=hO1.time
     have c37:=hO1.text
     have c70:=hO1.of_
     have c71:=hO1.name
     have c0':=hO1.kind
     rw [hk] at c0'
     have q1:=g1 W1 hO1.tree htr.out
     have q2:=g2 W1 hO1.target hta.out
     have q3:=run_zero hb1))
 clear c0 hO hb1 htr hta g1 g2 hW0
 have hE64:(64:Int)<(o.ents.length:Int)→E=false:=fun h=>by
  rw [hE.out];unfold entsB
  rw [Bool.and_eq_false_iff]
  exact .inr (decide_eq_false (by omega))
 have b1:=b0.trans (hbl1.mono s0)
 have hat:Hid (0<o.ents.length → ∃ g os,A1=some ⟨g,os,none⟩∧g<W1.heap.size ∧ ∀ i x,o.ents[i]?=some x→W1.rangeAt g (os+i*34) (entC x)):=by
  obtain ⟨A,cap,he,_,_,h⟩:=hv0.ents.below hbl1
  injection he with he _ _
  subst he
  exact h
 have sz1:=Nat.le_trans s0 hbl1.size
 clear b0 hbl1 hv0
 go_upto_region 16 with fail
 all_goals try
  (go_ret
   refine ⟨?_,b1⟩
   rw [hr2.out]
   have hP1:=hP1.out
   have hP2:=hP2.out
   clear z1 z2 c1 c2 c35 c36 c37 c70 c71 q1 q2 q3 hO1 c0' hE hr2 hat hoE
   simp_all
   done)
 have hrE:Hid (r=E):=by
  show r=E
  rw [hr2.out]
  have hP1:=hP1.out
  have hP2:=hP2.out
  clear z1 z2 c1 c2 c35 c36 c37 c70 c71 q1 q2 q3 hO1 c0' hE hr2 hat hoE
  simp_all
 have h64:(o.ents.length:Int)≤64:=by first | assumption | omega
 clear hP1 hP2 hr2 z1 z2 c1 c35 c36 c37 c70 c71 q1 q2 q3 c0' hE64 c2 ht
 go_cut [5] (fun s5 wx=>s5 = .int .i64 0∧wx=W1)
 case first=>
  go_wp2
  go_meet
  case rel=>exact ⟨rfl,rfl⟩
 obtain ⟨rfl,rfl⟩:=hcut
 go_wp2
 go_loopw [5] (fun vi wr => ∃ k:Nat,vi = .int .i64 k∧k≤o.ents.length∧Hid ((List.range k).all (entAt o.ents)=true)∧Below wc.heap.size wc wr) (fun vi _=>o.ents.length-(intOf vi).toNat)
 case atStart=>exact ⟨0,rfl,by omega,rfl,Below.refl _ _⟩
 case round=>
  obtain ⟨k,rfl,hk',hall,hbel⟩:=hrel
  have hsz:=hbel.size
  have hOr:=hO1.below hbel
  have c2:=hOr.ents
  by_cases hlt:k<o.ents.length
  ·have hki:(k:Int)<(o.ents.length:Int):=by omega
   obtain ⟨gs,os,rfl,hgs,hcell⟩:=hat.out (by omega)
   obtain ⟨x,hx⟩ : ∃ x,o.ents[k]?=some x:=⟨_,List.getElem?_eq_getElem hlt⟩
   have hxok:EntOk x:=hoE.out x (List.mem_of_getElem? hx)
   have hx0:=rangeAt_below (hcell k x hx) hgs hbel
   have hxh:=Lib.hid hx
   clear hx hat hoE
   have hnm:=fun W=>Lib.hid (refName_calls x.name hxok.name W)
   cases bn:nameB x.name with
   | false=>
     have hf:Hid (r=false):=by show r=false;rw [hrE.out,hE.out];exact ents_bad hlt (entAt_no hxh.out (by unfold entB;rw [bn];rfl))
     rw [bn] at hnm
     clear hE hrE hall bn
     go_wp2_with (first
      | ((with_reducible refine lit_load_ent (.tmp 113) gs (os+k*34) x hxok hx0 ?_ ?_);rfl)
      | ((with_reducible refine lit_new_ent (.tmp 6) (.tmp 114) x hxok _ ?_ ?_ ?_ ?_);rfl;rfl;rfl;intro W2 hb2 hbl2
         have cn:=(range_ent (range_blkEnt hb2)).1
         have hnm:=hnm W2)
      | ((with_reducible refine hnm.out.mono ?_);rintro e w3 ⟨rfl,rfl⟩))
     all_goals try (exfalso;omega)
     go_ret
     exact ⟨by rw [hf.out];rfl,b1.trans ((bthen hbel hsz hbl2).mono sz1)⟩
   | true=>
     rw [bn] at hnm
     by_cases hk12:x.kind=1∨x.kind=2
     ·have heb:entB x=true:=by
       unfold entB
       rw [bn]
       rcases hk12 with h | h<;>simp [h]
      have d1 : ¬ x.kind<1:=by omega
      have d2 : ¬ 2<x.kind:=by omega
      clear bn hk12
      rcases Nat.eq_zero_or_pos k with h0 | h0
      ·have hk0 : ¬ (0:Int)<(k:Int):=by omega
       have hk0d:decide ((0:Int)<(k:Int))=false:=by simpa using h0
       have hk0n:decide (0<k)=false:=by simp [h0]
       have hx00:o.ents[0]?=some x:=by rw [←h0];exact hxh.out
       have hok0:entAt o.ents k=true:=by rw [h0];exact entAt_zero hx00 heb
       have hst:=Lib.hid (ents_step hall.out hok0)
       clear hx00 hok0 h0 heb hall hE hrE
       go_wp2_with (first
        | ((with_reducible refine lit_load_ent (.tmp 113) gs (os+k*34) x hxok hx0 ?_ ?_);rfl)
        | ((with_reducible refine lit_new_ent (.tmp 6) (.tmp 114) x hxok _ ?_ ?_ ?_ ?_);rfl;rfl;rfl;intro W2 hb2 hbl2
           have cn:=(range_ent (range_blkEnt hb2)).1
           have ck:=(range_ent (range_blkEnt hb2)).2
           have c2':=(hOr.below hbl2).ents
           have bel2:=b1.trans ((bthen hbel hsz hbl2).mono sz1)
           have bel1:=bthen hbel hsz hbl2
           have hnm:=hnm W2)
        | ((with_reducible refine hnm.out.mono ?_);rintro e w3 ⟨rfl,rfl⟩))
       all_goals try (exfalso;omega)
       go_quiet (fail)
       clear hk0 hk0d hk0n
       go_wp2
       go_roundw
       case rel=>exact ⟨k+1,by go_num,by omega,hst,bdrewN bel1 nq⟩
       case measure=>simp [intOf];omega
      ·obtain ⟨q,hq⟩ : ∃ q,o.ents[k-1]?=some q:=⟨_,List.getElem?_eq_getElem (show k-1<o.ents.length by omega)⟩
       have hk0:(0:Int)<(k:Int):=by omega
       have hat1:entAt o.ents k=Op.bytesLess q.name x.name:=by
        obtain ⟨j,rfl⟩ : ∃ j,k=j+1:=⟨k-1,by omega⟩
        exact entAt_succ hxh.out hq heb
       obtain ⟨u,s1,hu⟩ : ∃ u:Nat,IntKind.i64.wrap ((k:Int)-1)=(u:Int)∧u=k-1:=⟨k-1,by rw [IntWalk.i64_in _ (by omega)];omega,rfl⟩
       have s3:(u:Int)<(o.ents.length:Int):=by omega
       have s4:u<o.ents.length:=by omega
       have hqu:Hid (o.ents[u]?=some q):=by show _=_;rw [hu];exact hq
       clear hu hq heb
       rcases two_ways q.name x.name with ⟨l1,l2,l3,l4⟩ | ⟨l1,l2,l3,l4⟩ | ⟨l1,l2,l3,l4⟩
       all_goals rw [l1] at hat1
       ·have hst:=Lib.hid (ents_step hall.out hat1)
        clear hat1 hall hE hrE
        go_wp2_with (first
         | ((with_reducible refine lit_load_ent (.tmp 113) gs (os+k*34) x hxok hx0 ?_ ?_);rfl)
         | ((with_reducible refine lit_new_ent (.tmp 6) (.tmp 114) x hxok _ ?_ ?_ ?_ ?_);rfl;rfl;rfl;intro W2 hb2 hbl2
            have cn:=(range_ent (range_blkEnt hb2)).1
            have ck:=(range_ent (range_blkEnt hb2)).2
            have c2':=(hOr.below hbl2).ents
            have bel2:=b1.trans ((bthen hbel hsz hbl2).mono sz1)
            have bel1:=bthen hbel hsz hbl2
            have c3:W2.cell? ⟨gs,os+u*34,none⟩=some (.string (B q.name)):=(range_ent (rangeAt_below (hcell u q hqu.out) hgs bel1)).1
            have hnm:=hnm W2)
         | ((with_reducible refine hnm.out.mono ?_);rintro e w3 ⟨rfl,rfl⟩))
        all_goals try (exfalso;omega)
        go_quiet (fail)
        clear s1 s3 s4 l1 l2 l3 l4 hk0
        go_wp2
        go_roundw
        case rel=>exact ⟨k+1,by go_num,by omega,hst,bdrewN bel1 nq⟩
        case measure=>simp [intOf];omega
       ·have hf:Hid (r=false):=by show r=false;rw [hrE.out,hE.out];exact ents_bad hlt hat1
        clear hat1 hall hE hrE
        go_wp2_with (first
         | ((with_reducible refine lit_load_ent (.tmp 113) gs (os+k*34) x hxok hx0 ?_ ?_);rfl)
         | ((with_reducible refine lit_new_ent (.tmp 6) (.tmp 114) x hxok _ ?_ ?_ ?_ ?_);rfl;rfl;rfl;intro W2 hb2 hbl2
            have cn:=(range_ent (range_blkEnt hb2)).1
            have ck:=(range_ent (range_blkEnt hb2)).2
            have c2':=(hOr.below hbl2).ents
            have bel2:=b1.trans ((bthen hbel hsz hbl2).mono sz1)
            have bel1:=bthen hbel hsz hbl2
            have c3:W2.cell? ⟨gs,os+u*34,none⟩=some (.string (B q.name)):=(range_ent (rangeAt_below (hcell u q hqu.out) hgs bel1)).1
            have hnm:=hnm W2)
         | ((with_reducible refine hnm.out.mono ?_);rintro e w3 ⟨rfl,rfl⟩))
        all_goals try (exfalso;omega)
        go_quiet (fail)
        go_wp2
        go_ret
        exact ⟨by rw [hf.out];rfl,bdrewN bel2 nq⟩
       ·have hf:Hid (r=false):=by show r=false;rw [hrE.out,hE.out];exact ents_bad hlt hat1
        clear hat1 hall hE hrE
        go_wp2_with (first
         | ((with_reducible refine lit_load_ent (.tmp 113) gs (os+k*34) x hxok hx0 ?_ ?_);rfl)
         | ((with_reducible refine lit_new_ent (.tmp 6) (.tmp 114) x hxok _ ?_ ?_ ?_ ?_);rfl;rfl;rfl;intro W2 hb2 hbl2
            have cn:=(range_ent (range_blkEnt hb2)).1
            have ck:=(range_ent (range_blkEnt hb2)).2
            have c2':=(hOr.below hbl2).ents
            have bel2:=b1.trans ((bthen hbel hsz hbl2).mono sz1)
            have bel1:=bthen hbel hsz hbl2
            have c3:W2.cell? ⟨gs,os+u*34,none⟩=some (.string (B q.name)):=(range_ent (rangeAt_below (hcell u q hqu.out) hgs bel1)).1
            have hnm:=hnm W2)
         | ((with_reducible refine hnm.out.mono ?_);rintro e w3 ⟨rfl,rfl⟩))
        all_goals try (exfalso;omega)
        go_quiet (fail)
        go_wp2
        go_ret
        exact ⟨by rw [hf.out];rfl,bdrewN bel2 nq⟩
     ·have heb:entB x=false:=by
       unfold entB
       have e1:(x.kind==1)=false:=by rw [beq_eq_false_iff_ne];omega
       have e2:(x.kind==2)=false:=by rw [beq_eq_false_iff_ne];omega
       rw [e1,e2];simp
      have hf:Hid (r=false):=by show r=false;rw [hrE.out,hE.out];exact ents_bad hlt (entAt_no hxh.out heb)
      clear heb hall hE hrE bn
      by_cases d1:x.kind<1
      ·clear hk12
       go_wp2_with (first
        | ((with_reducible refine lit_load_ent (.tmp 113) gs (os+k*34) x hxok hx0 ?_ ?_);rfl)
        | ((with_reducible refine lit_new_ent (.tmp 6) (.tmp 114) x hxok _ ?_ ?_ ?_ ?_);rfl;rfl;rfl;intro W2 hb2 hbl2
           have cn:=(range_ent (range_blkEnt hb2)).1
           have ck:=(range_ent (range_blkEnt hb2)).2
           have c2':=(hOr.below hbl2).ents
           have bel2:=b1.trans ((bthen hbel hsz hbl2).mono sz1)
           have bel1:=bthen hbel hsz hbl2
           have hnm:=hnm W2)
        | ((with_reducible refine hnm.out.mono ?_);rintro e w3 ⟨rfl,rfl⟩))
       all_goals try (exfalso;omega)
       go_ret
       exact ⟨by rw [hf.out];rfl,bel2⟩
      ·have d2:2<x.kind:=by omega
       clear hk12
       go_wp2_with (first
        | ((with_reducible refine lit_load_ent (.tmp 113) gs (os+k*34) x hxok hx0 ?_ ?_);rfl)
        | ((with_reducible refine lit_new_ent (.tmp 6) (.tmp 114) x hxok _ ?_ ?_ ?_ ?_);rfl;rfl;rfl;intro W2 hb2 hbl2
           have cn:=(range_ent (range_blkEnt hb2)).1
           have ck:=(range_ent (range_blkEnt hb2)).2
           have c2':=(hOr.below hbl2).ents
           have bel2:=b1.trans ((bthen hbel hsz hbl2).mono sz1)
           have bel1:=bthen hbel hsz hbl2
           have hnm:=hnm W2)
        | ((with_reducible refine hnm.out.mono ?_);rintro e w3 ⟨rfl,rfl⟩))
       all_goals try (exfalso;omega)
       go_ret
       exact ⟨by rw [hf.out];rfl,bel2⟩
  ·have hki : ¬ (k:Int)<(o.ents.length:Int):=by omega
   have hf:Hid (r=true):=by
    show r=true
    rw [hrE.out,hE.out]
    have:=hall.out
    rw [show k=o.ents.length from by omega] at this
    rw [ents_all this]
    exact decide_eq_true (by omega)
   clear hall hat hE hrE
   go_wp2
   go_ret
   exact ⟨by rw [hf.out];rfl,b1.trans (hbel.mono sz1)⟩
end Go.Proofs.YtlojebhcemfodaaGreatDoor
namespace Go.Proofs.YtlojebhcemfodaaGreatDoor
open Go.RowKit
abbrev Bld (w:World) (b:Nat) (l:Txt):Prop:=Lib.IsBuilder 182 5 b b (l.map u8v) w
theorem ib_below {T e:TypeId} {B0 b:Nat} {bs:List Value} {w w':World} (h:Lib.IsBuilder T e B0 b bs w) (hb:Below w.heap.size w w'):Lib.IsBuilder T e B0 b bs w':=by
 have key : ∀ p,Lib.BuilderAt T e B0 b p bs w→Lib.BuilderAt T e B0 b p bs w':=by
  rintro p ⟨hB,v,hh,ho,hne⟩
  have hlt:b<w.heap.size:=(show Blk w b T #[p,v] from hh).lt
  exact ⟨hB,v,(hb.block b hlt).trans hh,own_below ho hb,hne⟩
 exact h.imp (key _) (key _)
theorem ib_lt {T e:TypeId} {B0 b:Nat} {bs:List Value} {w:World} (h:Lib.IsBuilder T e B0 b bs w):b<w.heap.size:=by
 rcases h with ⟨_,v,hh,_⟩ | ⟨_,v,hh,_⟩
 ·exact (show Blk w b T #[_,v] from hh).lt
 ·exact (show Blk w b T #[_,v] from hh).lt
theorem Bld.below {w w':World} {b:Nat} {l:Txt} (h:Bld w b l) (hb:Below w.heap.size w w'):Bld w' b l:=ib_below h hb
theorem Bld.lt {w:World} {b:Nat} {l:Txt} (h:Bld w b l):b<w.heap.size:=ib_lt h
end Go.Proofs.YtlojebhcemfodaaGreatDoor
namespace Go.Proofs.YtlojebhcemfodaaGreatDoor
open Go.RowKit
attribute [local go_sem ↓] ldvI_eq
/-- An object that is not great. -/
structure Small (o:ObjL):Prop where
 ents:o.ents.length≤70
 names : ∀ e∈o.ents,e.name.length≤5000
 pars:o.pars.length≤20
 data:o.data.length≤5000
 text:o.text.length≤5000
 name:o.name.length≤5000
theorem entE_len' {e:EntL} (h:e.name.length≤5000) (hi:e.id.length=32):(entE e).length≤5050:=by
 have:=put_length e.name.length
 unfold entE textE
 simp only [List.length_cons,List.length_append]
 omega
theorem entsE_len' {l:List EntL} (h : ∀ e∈l,e.name.length≤5000∧e.id.length=32):(entsE l).length≤5050*l.length:=by
 induction l with
 | nil=>simp [entsE]
 | cons e l ih=>
   have h1:=entE_len' (h e (by simp)).1 (h e (by simp)).2
   have h2:=ih fun e he=>h e (by simp [he])
   have:entsE (e::l)=entE e++entsE l:=by simp [entsE]
   rw [this]
   simp only [List.length_append,List.length_cons]
   omega
end Go.Proofs.YtlojebhcemfodaaGreatDoor
namespace Go.Proofs.YtlojebhcemfodaaGreatDoor
open Go.RowKit
theorem ObjB.under {w w':World} {B0 g:Nat} {o:ObjL} {ve vp:Value} (h:ObjB w g o ve vp) (hb:Below B0 w w') (hg:g<B0):ObjB w' g o ve vp:=⟨(hb.block g hg).trans h.blk,h.tr,h.ta⟩
theorem lit_load_id {ops:Array Oper} {rest:List Oper} {a:Act} {w:World} {Q:Exit→Act→World→Prop} {d:Option Tmp} {rt:TypeId} {pos:String} {af:Array Edge} (x:Operand) (b o:Nat) (l:List UInt8) (hl:l.length=32) (hc:w.rangeAt b o (u8s l).toList) (hx:a.eval x = .pointer (some ⟨b,o,none⟩))
 (h:wpList Tryz.prog ops Q rest (a.put d (.agg (u8s l))) w):wpList Tryz.prog ops Q ({ dst:=d,op := .load 42 x,type:=rt,pos:=pos,after:=af,guard:=none }::rest) a w:=
 wpList_load_mid rfl _ x rfl b o hx _ _ hc Tryz.underlying42 rfl (by rw [Array.length_toList,u8s_size,hl];exact sz32) (by rw [Array.toArray_toList];exact h)
theorem lit_new_id {ops:Array Oper} {rest:List Oper} {a:Act} {w:World} {Q:Exit→Act→World→Prop} {d:Option Tmp} {rt:TypeId} {pos:String} {af:Array Edge} (x y:Operand) (u:List UInt8) (lu:u.length=32) (zs:Array Value) (hz:zs.size=32) (hx:a.eval x = .pointer (some ⟨w.heap.size,0,none⟩)) (hy:a.eval y = .agg (u8s u))
 (h : ∀ W1,Blk W1 w.heap.size 42 (u8s u)→Below w.heap.size w W1→wpList Tryz.prog ops Q rest (a.put d undef) W1) :
 wpList Tryz.prog ops Q ({ dst:=d,op := .store 42 x y,type:=rt,pos:=pos,after:=af,guard:=none }::rest) a (w.alloc (.cells zs 42)):=
 wpList_store_newId rfl x y rfl u lu zs hx hy hz h
end Go.Proofs.YtlojebhcemfodaaGreatDoor
namespace Go.Proofs.YtlojebhcemfodaaGreatDoor
open Go.RowKit
attribute [local go_sem ↓] ldvO_eq
/-- What lies there while an object is encoded. -/
structure EncC (w:World) (g:Nat) (o:ObjL) (ve vp:Value) (w':World):Prop where
 obj:ObjB w' g o ve vp
 val:ObjV w' ve vp o
 bel:Below w.heap.size w w'
section
variable {w w' w'':World} {g:Nat} {o:ObjL} {ve vp:Value}
theorem EncC.drew (h:EncC w g o ve vp w'):EncC w g o ve vp w'.drew:=⟨h.obj.drew,⟨h.val.ok,h.val.ents,h.val.pars⟩,h.bel.drew⟩
theorem EncC.below (h:EncC w g o ve vp w') (hb:Below w'.heap.size w' w''):EncC w g o ve vp w'':=⟨h.obj.below hb,h.val.below hb,bthen h.bel h.bel.size hb⟩
theorem EncC.whole (h:EncC w g o ve vp w'):(ldvO ⟨g,0,none⟩).run Tryz.prog w' = .ok (.agg (objC o ve vp).toArray) w':=run_ldvO h.obj h.val.ok
end
/-- How long it is. -/
theorem whole_len {o:ObjL} (hs:Small o) (ho:ObjOk o):(bodyO o).length≤400000:=by
 have h1:=entsE_len' (l:=o.ents) (fun e he=>⟨hs.names e he,(ho.ents e he).id⟩)
 have h2:=flat_len (l:=o.pars) ho.pars
 have h3:=put_length o.pars.length
 have h4:=put_length o.time
 have h5:=put_length o.text.length
 have h6:=put_length o.name.length
 have:=hs.ents
 have:=hs.pars
 have:=hs.data
 have:=hs.text
 have:=hs.name
 have:=ho.tree
 have:=ho.target
 unfold bodyO commitE tagE textE
 repeat' split
 all_goals try simp only [List.length_append,List.length_cons,List.length_nil]
 all_goals omega
--FI
--FI
end Go.Proofs.YtlojebhcemfodaaGreatDoor
