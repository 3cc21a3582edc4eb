/- Texts of this claim, laid together: Go, GoW, Varint2, LzP, Lz, LzR, LzBP, LzBM, LzB, RsG. -/
import Derived.Test.YtodebknbchaccaaGreatDoorMa
import Derived.Maps.Own
import Derived.Maps.OwnOps
import Derived.Maps.OwnSet
import Derived.Maps.Views
import Derived.Deep.CutBlock
namespace Go.Proofs.YtodebknbchaccaaGreatDoor
open Go.RowKit
section
def maskStep (acc:List Nat) (o:Oper):Nat:=o.after.toList.foldl (fun m e=>if Region.binds .any e then m ||| (1 <<< e.on ||| acc.getD e.on 0) else m) 0
def masks : List Oper→List Nat→List Nat
 | [],acc=>acc
 | o::l,acc=>masks l (acc++[maskStep acc o])
def waitsT (ops:Array Oper) (i j:Nat):Bool:=((masks ops.toList []).getD i 0).testBit j
theorem zDT {acc:List Nat} {j:Nat} : ∀ (l:List Edge) (m:Nat),(l.foldl (fun m e=>if Region.binds .any e then m ||| (1 <<< e.on ||| acc.getD e.on 0) else m) m).testBit j=true→m.testBit j=true ∨ ∃ e∈l,Region.binds .any e=true∧(e.on=j∨(acc.getD e.on 0).testBit j=true)
 | [],m,h => .inl h
 | e::l,m,h=>by
   rw [List.foldl_cons] at h
   rcases zDT l _ h with h1 | ⟨e',he',h2⟩
   ·split at h1
    ·rename_i hb
     rw [Nat.testBit_or,Nat.testBit_or,Bool.or_eq_true,Bool.or_eq_true] at h1
     rcases h1 with h1 | h1 | h1
     ·exact .inl h1
     ·refine .inr ⟨e,by simp,hb, .inl ?_⟩
      rw [Nat.one_shiftLeft,Nat.testBit_two_pow] at h1
      simpa using h1
     ·exact .inr ⟨e,by simp,hb, .inr h1⟩
    ·exact .inl h1
   ·exact .inr ⟨e',by simp [he'],h2⟩
theorem masks_old : ∀ (l:List Oper) (acc:List Nat) (k:Nat),k<acc.length→(masks l acc).getD k 0=acc.getD k 0
 | [],acc,k,h=>rfl
 | o::l,acc,k,h=>by
   unfold masks
   rw [masks_old l _ k (by rw [List.length_append];exact Nat.lt_of_lt_of_le h (Nat.le_add_right _ _))]
   rw [List.getD_eq_getElem?_getD,List.getD_eq_getElem?_getD,List.getElem?_append_left h]
theorem masks_at : ∀ (l:List Oper) (acc:List Nat) (n j:Nat),((masks l acc).getD (acc.length+n) 0).testBit j=true → ∃ o,l[n]?=some o ∧ ∃ e∈o.after,Region.binds .any e=true∧(e.on=j∨(e.on<acc.length+n∧((masks l acc).getD e.on 0).testBit j=true))
 | [],acc,n,j,h=>by
   unfold masks at h
   rw [List.getD_eq_getElem?_getD,List.getElem?_eq_none (by omega)] at h
   simp at h
 | o::l,acc,0,j,h=>by
   have ho:(masks (o::l) acc).getD acc.length 0=maskStep acc o:=by
    unfold masks
    rw [masks_old l _ _ (by simp),List.getD_eq_getElem?_getD,List.getElem?_append_right (Nat.le_refl _),Nat.sub_self]
    rfl
   rw [Nat.add_zero,ho] at h
   rcases zDT _ _ h with h1 | ⟨e,he,h1,h2⟩
   ·simp at h1
   ·refine ⟨o,rfl,e,by simpa using he,h1,?_⟩
    rcases h2 with h2 | h2
    ·exact .inl h2
    ·have hlt:e.on<acc.length:=by
      rcases Nat.lt_or_ge e.on acc.length with h | h
      ·exact h
      ·rw [List.getD_eq_getElem?_getD,List.getElem?_eq_none h] at h2;simp at h2
     exact .inr ⟨by omega,by rw [masks_old _ _ _ hlt];exact h2⟩
 | o::l,acc,n+1,j,h=>by
   unfold masks at h ⊢
   have:=masks_at l (acc++[maskStep acc o]) n j (by rw [List.length_append];simpa [Nat.add_assoc,Nat.add_comm 1 n] using h)
   obtain ⟨o',h1,e,h2,h3,h4⟩:=this
   refine ⟨o',h1,e,h2,h3,h4.imp id fun h=>⟨?_,h.2⟩⟩
   have:=h.1
   rw [List.length_append] at this
   simp at this
   omega
theorem waitsT_spec {ops:Array Oper} {i j:Nat} (h:waitsT ops i j=true) : ∃ o,ops[i]?=some o ∧ ∃ e∈o.after,Region.binds .any e=true∧(e.on=j∨(e.on<i∧waitsT ops e.on j=true)):=by
 have:=masks_at ops.toList [] i j (by simpa [waitsT] using h)
 obtain ⟨o,h1,e,h2,h3,h4⟩:=this
 exact ⟨o,by rw [←Array.getElem?_toList];exact h1,e,h2,h3,h4.imp id fun h=>⟨by simpa using h.1,h.2⟩⟩
abbrev Foot := Nat→Prop
structure Agree (F:Foot) (w w':World):Prop where
 size:w.heap.size≤w'.heap.size
 same : ∀ k,k<w.heap.size→F k→w'.heap[k]?=w.heap[k]?
def Stab (p:Foot→World→Prop):Prop := ∀ (F F':Foot) w w',(∀ k,F k→F' k)→Agree F w w'→p F w→p F' w'
def doesAt (P:Program) (o:Oper) (a:Act) (w:World) (post:Value→World→Prop):Prop:=
 o.wp P a w (fun a' w' => ∃ u,a'=a.put o.dst u∧post u w') (fun _ _ _=>False)
section
variable {P:Program} {o:Oper} {a:Act} {w w':World} {post:Value→World→Prop}
theorem zDp {v:Value} (h:(execOp a.eval o).run P w = .ok (.value v) w') (hp:post v w'):doesAt P o a w post:=by
 unfold doesAt Oper.wp
 rw [h]
 exact ⟨v,rfl,hp⟩
theorem zEd {a b:Act} {d:Option Tmp} {u v:Value} (hs:a.tmps.size=b.tmps.size) (h:a.put d u=a.put d v):b.put d u=b.put d v:=by
 cases d with
 | none=>rfl
 | some t=>
   rcases Nat.lt_or_ge t a.tmps.size with hl | hl
   ·have e:=congrArg (fun x:Act=>x.tmps[t]?) h
    simp only [Act.put,Array.getElem?_setIfInBounds_self_of_lt hl] at e
    injection e with e
    rw [e]
   ·have h1 : ∀ x,b.tmps.setIfInBounds t x=b.tmps:=fun x=>Array.setIfInBounds_eq_of_size_le (by omega)
    simp only [Act.put,h1]
theorem zCf {b:Act} (he:execOp a.eval o=execOp b.eval o) (hs:a.tmps.size=b.tmps.size) (hd:a.defers=b.defers) (h:doesAt P o a w post):doesAt P o b w post:=by
 unfold doesAt Oper.wp at *
 rw [←he]
 generalize (execOp a.eval o).run P w=r at *
 cases r with
 | ok n w2=>
   cases n<;>simp only [Oper.upon] at h ⊢
   case value v=>
    obtain ⟨u,e,q⟩:=h
    exact ⟨u,zEd hs e,q⟩
   case skip=>
    obtain ⟨u,e,q⟩:=h
    exact ⟨u,zEd hs e,q⟩
   case defer d=>
    obtain ⟨u,e,q⟩:=h
    have e1:=congrArg (fun x:Act=>x.defers.length) e
    simp [zBq] at e1
   case enter f args=>
    refine Calls.mono h ?_
    intro e w3 he
    cases e with
    | returned v=>
      obtain ⟨u,e,q⟩:=he
      exact ⟨u,zEd hs e,q⟩
    | panicked c=>exact he
    | outgrown=>exact he
   case row r args=>
    refine Rows.mono h ?_
    rintro v w3 ⟨u,e,q⟩
    exact ⟨u,zEd hs e,q⟩
 | halt x w2=>cases x<;>simp only [Oper.upon] at h
end
inductive Sp where
 | det (f:List Value→Value)
 | new (r:List Value→Value→Foot→World→Prop)
 | der (j:Nat) (r:List Value→Value→Foot→World→Prop)
 | al (T:TypeId) (Z:Array Value)
 | st (j:Nat) (T:TypeId) (n:Nat)
 | wr (r:List Value→Value→Foot→World→Prop)
 | ov (j:Nat) (r:List Value→Value→Foot→World→Prop)
def vals (o:Oper) (a:Act):List Value:=o.op.operands.toList.map a.eval
abbrev Pres := List (Nat×Option Nat×(World→Prop))
abbrev Facts := List (Nat×(Foot→World→Prop))
def alP (B:Nat) (v:Value) (T:TypeId) (n:Nat) (F:Foot) (w:World):Prop := ∃ b,v = .pointer (some ⟨b,0,none⟩)∧B≤b∧F b ∧ ∃ cs:Array Value,cs.size=n∧Blk w b T cs
def stP (B:Nat) (x y:Value) (T:TypeId) (F:Foot) (w:World):Prop := ∃ b cs,x = .pointer (some ⟨b,0,none⟩)∧y = .agg cs∧B≤b∧F b∧Blk w b T cs
theorem alP_stab (B:Nat) (v:Value) (T:TypeId) (n:Nat):Stab (alP B v T n):=fun _ _ _ _ hf ha ⟨b,e,h0,hb,cs,hc,hk⟩=>⟨b,e,h0,hf b hb,cs,hc,(ha.same b hk.lt hb).trans hk⟩
theorem stP_stab (B:Nat) (x y:Value) (T:TypeId):Stab (stP B x y T):=fun _ _ _ _ hf ha ⟨b,cs,e,e2,h0,hb,hk⟩=>⟨b,cs,e,e2,h0,hf b hb,(ha.same b hk.lt hb).trans hk⟩
section
variable (P:Program) (ops:Array Oper) (w0:World) (rows:List (Option Nat)) (pres:Pres) (sps:List Sp)
def OldB (k:Nat):Prop:=k<w0.heap.size∧some k ∉ rows
structure Have (i:Nat) (D:Facts) (w:World):Prop where
 fact : ∀ q∈D,waitsT ops i q.1=true → ∃ F,q.2 F w
 pre : ∀ q∈pres,waitsT ops q.1 i=true→q.2.2 w
def NewR (r:Value→Foot→World→Prop) (row:Option Nat) (w:World) (u:Value) (w':World):Prop := ∀ F:Foot,(∀ k,OldB w0 rows k→F k)→(∀ k,some k=row→F k)→(∀ k,w.heap.size≤k→k<w'.heap.size→F k)→r u F w'
structure OverR (Old:Nat→Prop) (r:Value→Foot→World→Prop) (F:Foot) (w:World) (u:Value) (w':World):Prop where
 os:w'.os=w.os
 tape:w'.tape=w.tape
 output:w'.output=w.output
 size:w.heap.size≤w'.heap.size
 block : ∀ k,k<w.heap.size→(F k→Old k)→w'.heap[k]?=w.heap[k]?
 rel : ∀ F':Foot,(∀ k,F k→F' k)→(∀ k,w.heap.size≤k→k<w'.heap.size→F' k)→r u F' w'
def spAt (i:Nat):Sp:=sps.getD i (.det fun _=>undef)
def isVal : Sp→Bool | .new _=>true | .der _ _=>true | .wr _=>true | .ov _ _=>true | _=>false
def isOv : Sp→Bool | .ov _ _=>true | _=>false
def ovs : Bool:=sps.any isOv
def gOf : Nat→Nat→Nat
 | 0,i=>i
 | f+1,i=>match spAt sps i with
   | .der j _=>gOf f j
   | .ov j _=>gOf f j
   | .st j _ _=>j
   | _=>i
def gAt (i:Nat):Nat:=gOf sps sps.length i
def keepB (i m:Nat):Bool := !isOv (spAt sps i)||gAt sps m != gAt sps i
def keepD (i:Nat) (s:Sp) (D:Facts):Facts:=match s with
 | .ov _ _=>D.filter fun q=>gAt sps q.1 != gAt sps i
 | _=>D
theorem zCt (i:Nat) (D:Facts) (q:Nat×(Foot→World→Prop)):q∈keepD sps i (spAt sps i) D↔q∈D∧keepB sps i q.1=true:=by
 unfold keepD keepB
 cases spAt sps i<;>simp [isOv,List.mem_filter]
def noAl : Sp→Bool | .al _ _=>false | _=>true
def gOk (i:Nat):Bool:=match spAt sps i with
 | .det _=>true
 | .der j _=>gAt sps i==gAt sps j
 | .ov j _=>gAt sps i==gAt sps j&&noAl (spAt sps (gAt sps i))
 | .st j _ _=>gAt sps i==j
 | _=>gAt sps i==i
def sepB (i k:Nat):Bool:=k==i||waitsT ops i k||waitsT ops k i||(gAt sps k != gAt sps i&&(List.range ops.size).all fun m=>gAt sps m != gAt sps i || !waitsT ops k m)
def ovB : Bool := !ovs sps||(List.range ops.size).all fun i=>gOk sps i&&(!isOv (spAt sps i)||(List.range ops.size).all fun k=>sepB ops sps i k)
def claim (i:Nat) (o:Oper) (s:Sp) (a:Act) (D:Facts):Prop:=match s with
 | .det f => ∀ w,Far rows w0 w→Have ops pres i D w→doesAt P o a w fun u w'=>u=f (vals o a)∧Below w.heap.size w w'
 | .new r=>(∀ ρ v,Stab (r ρ v)) ∧ ∀ w,Far rows w0 w→Have ops pres i D w→doesAt P o a w fun u w'=>Below w.heap.size w w'∧NewR w0 rows (r (vals o a)) none w u w'
 | .der j r=>(∀ ρ v,Stab (r ρ v))∧waitsT ops i j=true∧isVal (spAt sps j)=true ∧ ∀ (w:World) (F:Foot),Far rows w0 w→(∀ k,OldB w0 rows k→F k)→Have ops pres i D w→(∀ p,(j,p)∈D→p F w)→doesAt P o a w fun u w'=>w'=w∧r (vals o a) u F w
 | .al T Z=>o.op = .alloc T ∧ ∀ w,(zeroValue T).run P w = .ok (.agg Z) w
 | .st j T n=>waitsT ops i j=true∧o.dst=none∧(P.info? T).map (·.size)=some n∧(∃ Z:Array Value,spAt sps j = .al T Z∧Z.size=n) ∧ ∃ x y,o.op = .store T x y∧(j,alP w0.heap.size (a.eval x) T n)∈D ∧ ∀ w,Far rows w0 w→Have ops pres i D w → ∃ cs:Array Value,a.eval y = .agg cs∧cs.size=n∧cs.all (·.oneCell')=true
 | .wr r=>(∀ ρ v,Stab (r ρ v)) ∧ ∃ row p0,(i,row,p0)∈pres ∧ ∀ w,Far rows w0 w→Have ops pres i D w→p0 w→doesAt P o a w fun u w'=>w.grownBy w' row∧NewR w0 rows (r (vals o a)) row w u w'
 | .ov j r=>(∀ ρ v,Stab (r ρ v))∧waitsT ops i j=true∧isVal (spAt sps j)=true ∧ ∀ (w:World) (F:Foot),Far rows w0 w→(∀ k,OldB w0 rows k→F k)→Have ops pres i D w→(∀ p,(j,p)∈D→p F w)→doesAt P o a w fun u w'=>OverR (OldB w0 rows) (r (vals o a)) F w u w'
def dom (s:Sp) (ρ:List Value) (v:Value):Prop:=match s with
 | .det f=>v=f ρ
 | .st _ _ _=>v=undef
 | _=>True
def ext (i:Nat) (o:Oper) (s:Sp) (a:Act) (v:Value):Facts:=match s with
 | .det _=>[]
 | .new r=>[(i,r (vals o a) v)]
 | .der _ r=>[(i,r (vals o a) v)]
 | .wr r=>[(i,r (vals o a) v)]
 | .ov _ r=>[(i,r (vals o a) v)]
 | .al T Z=>[(i,alP w0.heap.size v T Z.size)]
 | .st _ T _=>match o.op with
   | .store _ x y=>[(i,stP w0.heap.size (a.eval x) (a.eval y) T)]
   | _=>[]
def Lx (E:Act→Facts→Prop):List Nat→Act→Facts→Prop
 | [],a,D=>E a D
 | i::U,a,D => ∀ o,ops[i]?=some o→if Region.wanted o (yielded ops a.tmps)=true then claim P ops w0 rows pres sps i o (spAt sps i) a D ∧ ∀ v,dom (spAt sps i) (vals o a) v→Lx E U (a.put o.dst v) (ext w0 i o (spAt sps i) a v++keepD sps i (spAt sps i) D) else Lx E U (a.put o.dst undef) D
end
section
variable {P:Program} {ops:Array Oper} {w0:World} {rows:List (Option Nat)} {pres:Pres} {sps:List Sp} {E:Act→Facts→Prop} {i k:Nat} {o ok oi:Oper} {s:Sp} {a b:Act} {D D':Facts} {w:World}
theorem Have.of (h:Have ops pres i D w) (hD : ∀ q,waitsT ops i q.1=true→q∈D'→q∈D):Have ops pres i D' w:=⟨fun q hq hw=>h.fact q (hD q hw hq) hw,h.pre⟩
theorem zBc (hx : ∀ x∈o.op.operands,a.eval x=b.eval x):vals o a=vals o b:=by
 exact List.map_congr_left fun x h=>hx x (by simpa using h)
theorem zBP (hns : ∀ cs b,o.op ≠ .select cs b) (hx : ∀ x∈o.op.operands,a.eval x=b.eval x) (hsz:a.tmps.size=b.tmps.size) (hdf:a.defers=b.defers) (hD : ∀ q,waitsT ops i q.1=true→(q∈D↔q∈D'))
 (h:claim P ops w0 rows pres sps i o s a D):claim P ops w0 rows pres sps i o s b D':=by
 have he:execOp a.eval o=execOp b.eval o:=execOp_congr o hns hx
 have hv:=zBc hx
 have hH : ∀ w,Have ops pres i D' w→Have ops pres i D w:=fun w h=>h.of fun q hw hq=>(hD q hw).1 hq
 cases s with
 | det f=>exact fun w hw hh=>by rw [←hv];exact zCf he hsz hdf (h w hw (hH w hh))
 | new r=>exact ⟨h.1,fun w hw hh=>by rw [←hv];exact zCf he hsz hdf (h.2 w hw (hH w hh))⟩
 | der j r=>
   obtain ⟨h1,h2,h3,h4⟩:=h
   exact ⟨h1,h2,h3,fun w F hw hF hh hp=>by rw [←hv];exact zCf he hsz hdf (h4 w F hw hF (hH w hh) fun p hq=>hp p ((hD _ h2).1 hq))⟩
 | al T Z=>exact h
 | st j T n=>
   obtain ⟨h1,h2,h3,h4,x,y,h5,h6,h7⟩:=h
   have hop:x∈o.op.operands∧y∈o.op.operands:=by rw [h5];simp [Op.operands]
   refine ⟨h1,h2,h3,h4,x,y,h5,?_,fun w hw hh=>?_⟩
   ·rw [←hx x hop.1];exact (hD _ h1).1 h6
   ·rw [←hx y hop.2];exact h7 w hw (hH w hh)
 | wr r=>
   obtain ⟨h1,row,p0,h3,h4⟩:=h
   exact ⟨h1,row,p0,h3,fun w hw hh hp=>by rw [←hv];exact zCf he hsz hdf (h4 w hw (hH w hh) hp)⟩
 | ov j r=>
   obtain ⟨h1,h2,h3,h4⟩:=h
   exact ⟨h1,h2,h3,fun w F hw hF hh hp=>by rw [←hv];exact zCf he hsz hdf (h4 w F hw hF (hH w hh) fun p hq=>hp p ((hD _ h2).1 hq))⟩
theorem zDx (hx : ∀ x∈o.op.operands,a.eval x=b.eval x) (v:Value):ext w0 i o s a v=ext w0 i o s b v:=by
 cases s with
 | st j T n=>
   unfold ext
   cases ho:o.op<;>simp only
   rename_i t x y
   rw [hx x (by rw [ho];simp [Op.operands]),hx y (by rw [ho];simp [Op.operands])]
 | new r=>simp only [ext,zBc hx]
 | der j r=>simp only [ext,zBc hx]
 | wr r=>simp only [ext,zBc hx]
 | ov j r=>simp only [ext,zBc hx]
 | _=>rfl
theorem dom_some (s:Sp) (ρ:List Value) : ∃ v,dom s ρ v:=by
 cases s with
 | det f=>exact ⟨f ρ,rfl⟩
 | st j T n=>exact ⟨undef,rfl⟩
 | _=>exact ⟨undef,trivial⟩
structure Indep (ops:Array Oper) (sps:List Sp) (ok oi:Oper) (k i:Nat):Prop where
 ap:ok.apart ops oi=true
 ik:waitsT ops i k=false
 ki:waitsT ops k i=false
 kk : ∀ m,waitsT ops k m=true→keepB sps i m=true
 ii : ∀ m,waitsT ops i m=true→keepB sps k m=true
 si:keepB sps i k=true
 sk:keepB sps k i=true
theorem zAP (ap:ok.apart ops oi=true) (a:Act) (v:Value):(∀ x∈oi.op.operands,(a.put ok.dst v).eval x=a.eval x)∧(∀ x∈ok.op.operands,(a.put oi.dst v).eval x=a.eval x):=by
 obtain ⟨h1,_,h3⟩:=Oper.apart_spec ap
 refine ⟨fun x hx=>Act.eval_put fun d hd hxd=>h1 d hd ?_,fun x hx=>Act.eval_put fun d hd hxd=>h3 d hd ?_⟩ <;>
 ·subst hxd
  exact List.mem_append_left _ (List.mem_filterMap.2 ⟨.tmp d,by simpa using hx,rfl⟩)
theorem ext_at (i:Nat) (o:Oper) (s:Sp) (a:Act) (v:Value) : ∀ q∈ext w0 i o s a v,q.1=i:=by
 intro q hq
 cases s with
 | det f=>simp [ext] at hq
 | st j T n=>
   unfold ext at hq
   cases ho:o.op<;>rw [ho] at hq<;>simp at hq
   rw [hq]
 | _=>simp [ext] at hq;rw [hq]
theorem Lx_mem (hE : ∀ a D D',(∀ q,q∈D↔q∈D')→E a D→E a D') (hns : ∀ (i:Nat) (o:Oper),ops[i]?=some o → ∀ cs b,o.op ≠ .select cs b) : ∀ (U:List Nat) (a:Act) (D D':Facts),(∀ q,q∈D↔q∈D')→Lx P ops w0 rows pres sps E U a D→Lx P ops w0 rows pres sps E U a D'
 | [],a,D,D',hD,h=>hE a D D' hD h
 | i::U,a,D,D',hD,h=>by
   intro o ho
   have h1:=h o ho
   split
   ·rename_i hw
    rw [if_pos hw] at h1
    exact ⟨zBP (hns i o ho) (fun _ _=>rfl) rfl rfl (fun q _=>hD q) h1.1,fun v hv=>Lx_mem hE hns U _ _ _ (fun q=>by rw [List.mem_append,List.mem_append,zCt,zCt,hD q]) (h1.2 v hv)⟩
   ·rename_i hw
    rw [if_neg hw] at h1
    exact Lx_mem hE hns U _ _ _ hD h1
theorem Lx_pull (hE : ∀ a D D',(∀ q,q∈D↔q∈D')→E a D→E a D') (hns : ∀ (i:Nat) (o:Oper),ops[i]?=some o → ∀ cs b,o.op ≠ .select cs b) (hoi:ops[i]?=some oi) (U2:List Nat) : ∀ (U1:List Nat) (a:Act) (D:Facts),
 (∀ k∈U1, ∃ ok,ops[k]?=some ok∧Indep ops sps ok oi k i)→Lx P ops w0 rows pres sps E (U1++i::U2) a D →
 if Region.wanted oi (yielded ops a.tmps)=true then claim P ops w0 rows pres sps i oi (spAt sps i) a D ∧ ∀ v,dom (spAt sps i) (vals oi a) v→Lx P ops w0 rows pres sps E (U1++U2) (a.put oi.dst v) (ext w0 i oi (spAt sps i) a v++keepD sps i (spAt sps i) D) else Lx P ops w0 rows pres sps E (U1++U2) (a.put oi.dst undef) D
 | [],a,D,_,h=>h oi hoi
 | k::U1,a,D,hin,h=>by
   obtain ⟨ok,hok,ap,hik,hki,hkk,hii,hsi,hsk⟩:=hin k (by simp)
   have hin' : ∀ k∈U1, ∃ ok,ops[k]?=some ok∧Indep ops sps ok oi k i:=fun k hk=>hin k (by simp [hk])
   obtain ⟨a1,a2,a3⟩:=Oper.apart_spec ap
   have hk:=h ok hok
   have wk : ∀ (a:Act) v,Region.wanted oi (yielded ops (a.put ok.dst v).tmps)=Region.wanted oi (yielded ops a.tmps):=fun a v=>wanted_put oi a ok.dst v a1
   have wi : ∀ (a:Act) v,Region.wanted ok (yielded ops (a.put oi.dst v).tmps)=Region.wanted ok (yielded ops a.tmps):=fun a v=>wanted_put ok a oi.dst v a3
   have hDi : ∀ v q,waitsT ops i q.1=true→(q∈ext w0 k ok (spAt sps k) a v++keepD sps k (spAt sps k) D↔q∈D):=fun v q hw=>by
    rw [List.mem_append,zCt]
    refine ⟨fun h=>(h.resolve_left fun hq=>?_).1,fun h => .inr ⟨h,hii _ hw⟩⟩
    rw [ext_at _ _ _ _ _ q hq,hik] at hw
    cases hw
   have hDk : ∀ v q,waitsT ops k q.1=true→(q∈D↔q∈ext w0 i oi (spAt sps i) a v++keepD sps i (spAt sps i) D):=fun v q hw=>by
    rw [List.mem_append,zCt]
    refine ⟨fun h => .inr ⟨h,hkk _ hw⟩,fun h=>(h.resolve_left fun hq=>?_).1⟩
    rw [ext_at _ _ _ _ _ q hq,hki] at hw
    cases hw
   by_cases hwk:Region.wanted ok (yielded ops a.tmps)=true
   ·rw [if_pos hwk] at hk
    obtain ⟨hcl,hnext⟩:=hk
    obtain ⟨v0,hv0⟩:=dom_some (spAt sps k) (vals ok a)
    have h0:=Lx_pull hE hns hoi U2 U1 _ _ hin' (hnext v0 hv0)
    rw [wk] at h0
    by_cases hwi:Region.wanted oi (yielded ops a.tmps)=true
    ·rw [if_pos hwi] at h0 ⊢
     refine ⟨zBP (hns i oi hoi) (zAP ap a v0).1 (zCH _ _ _) (zBq _ _ _) (hDi v0) h0.1,fun v hv=>?_⟩
     intro ok' hok'
     obtain rfl:ok=ok':=Option.some.inj (hok.symm.trans hok')
     rw [wi,if_pos hwk]
     refine ⟨zBP (hns k ok hok) (fun x hx=>((zAP ap a v).2 x hx).symm) (zCH _ _ _).symm (zBq _ _ _).symm (hDk v) hcl,fun u hu=>?_⟩
     rw [zBc (zAP ap a v).2] at hu
     have h1:=Lx_pull hE hns hoi U2 U1 _ _ hin' (hnext u hu)
     rw [wk,if_pos hwi] at h1
     have h2:=h1.2 v (by rw [zBc (zAP ap a u).1];exact hv)
     rw [Act.put_comm a u v a2,zDx (zAP ap a u).1] at h2
     rw [zDx (zAP ap a v).2]
     refine Lx_mem hE hns _ _ _ _ (fun q=>?_) h2
     simp only [List.mem_append,zCt]
     have ei:q∈ext w0 i oi (spAt sps i) a v→keepB sps k q.1=true:=fun hq=>by rw [ext_at _ _ _ _ _ q hq];exact hsk
     have ek:q∈ext w0 k ok (spAt sps k) a u→keepB sps i q.1=true:=fun hq=>by rw [ext_at _ _ _ _ _ q hq];exact hsi
     constructor
     ·rintro (h | ⟨h | ⟨h,h1⟩,h2⟩)
      ·exact .inr ⟨.inl h,ei h⟩
      ·exact .inl h
      ·exact .inr ⟨.inr ⟨h,h2⟩,h1⟩
     ·rintro (h | ⟨h | ⟨h,h1⟩,h2⟩)
      ·exact .inr ⟨.inl h,ek h⟩
      ·exact .inl h
      ·exact .inr ⟨.inr ⟨h,h2⟩,h1⟩
    ·rw [if_neg hwi] at h0 ⊢
     intro ok' hok'
     obtain rfl:ok=ok':=Option.some.inj (hok.symm.trans hok')
     rw [wi,if_pos hwk]
     refine ⟨zBP (hns k ok hok) (fun x hx=>((zAP ap a undef).2 x hx).symm) (zCH _ _ _).symm (zBq _ _ _).symm (fun _ _=>Iff.rfl) hcl,fun u hu=>?_⟩
     rw [zBc (zAP ap a undef).2] at hu
     have h1:=Lx_pull hE hns hoi U2 U1 _ _ hin' (hnext u hu)
     rw [wk,if_neg hwi,Act.put_comm a u undef a2] at h1
     rw [zDx (zAP ap a undef).2]
     exact h1
   ·rw [if_neg hwk] at hk
    have h0:=Lx_pull hE hns hoi U2 U1 _ _ hin' hk
    rw [wk] at h0
    by_cases hwi:Region.wanted oi (yielded ops a.tmps)=true
    ·rw [if_pos hwi] at h0 ⊢
     refine ⟨zBP (hns i oi hoi) (zAP ap a undef).1 (zCH _ _ _) (zBq _ _ _) (fun _ _=>Iff.rfl) h0.1,fun v hv=>?_⟩
     intro ok' hok'
     obtain rfl:ok=ok':=Option.some.inj (hok.symm.trans hok')
     rw [wi,if_neg hwk]
     have h2:=h0.2 v (by rw [zBc (zAP ap a undef).1];exact hv)
     rw [Act.put_comm a undef v a2,zDx (zAP ap a undef).1] at h2
     exact h2
    ·rw [if_neg hwi] at h0 ⊢
     intro ok' hok'
     obtain rfl:ok=ok':=Option.some.inj (hok.symm.trans hok')
     rw [wi,if_neg hwk]
     rw [Act.put_comm a undef undef a2] at h0
     exact h0
end
structure GoI (P:Program) (ops:Array Oper) (w0:World) (rows:List (Option Nat)) (pres:Pres) (sps:List Sp) (E:Act→Facts→Prop) (U:List Nat) (listed:Array Bool) (a:Act) (w:World) (D:Facts) (foot:Nat→Foot) (grp:Nat→Nat):Prop where
 size:listed.size=ops.size
 u : ∀ i,i∈U↔i<ops.size∧listed.getD i false=false
 sorted:U.Pairwise (· < ·)
 lx:Lx P ops w0 rows pres sps E U a D
 far:Far rows w0 w
 facts : ∀ q∈D,listed.getD q.1 false=true∧Stab q.2∧q.2 (fun k=>OldB w0 rows k∨foot q.1 k) w
 new_ : ∀ i,listed.getD i false=true → ∀ k,foot i k→k<w.heap.size ∧ ¬ OldB w0 rows k
 old_ : ∀ i,listed.getD i false=true → ∀ k,foot i k→k<w0.heap.size → ∃ m p0,listed.getD m false=true∧(m,some k,p0)∈pres
 closed : ∀ m j,listed.getD m false=true→waitsT ops m j=true→listed.getD j false=true
 dis : ∀ i j,listed.getD i false=true→listed.getD j false=true → ∀ k,foot i k→foot j k→grp i=grp j
 kept : ∀ k,k<w0.heap.size→(∀ m p0,listed.getD m false=true→(m,some k,p0) ∉ pres)→w.heap[k]?=w0.heap[k]?
 gal : ∀ i T Z,listed.getD i false=true→(∃ k,foot i k)→spAt sps (grp i) = .al T Z→i=grp i ∨ ∃ T' n,spAt sps i = .st (grp i) T' n
 ents : ∀ q∈D, ∀ T Z,spAt sps q.1 = .al T Z → ∃ v,q.2=alP w0.heap.size v T Z.size
 gself : ∀ i T Z,spAt sps i = .al T Z→listed.getD i false=true→grp i=i
 gst:ovs sps=true → ∀ i,listed.getD i false=true→grp i=gAt sps i
structure Once (w0:World) (rows:List (Option Nat)) (pres:Pres) (sps:List Sp):Prop where
 st : ∀ i i' j T n T' n',spAt sps i = .st j T n→spAt sps i' = .st j T' n'→i=i'
 wr : ∀ q∈pres, ∀ q'∈pres, ∀ k,q.2.1=some k→q'.2.1=some k→q=q'
 row : ∀ q∈pres, ∀ k,q.2.1=some k→some k∈rows∧k<w0.heap.size
 at_ : ∀ q∈pres,q.2.2 w0
 stab : ∀ q∈pres, ∀ w,Agree (fun k=>k<w0.heap.size∧(some k ∉ rows∨some k=q.2.1)) w0 w→q.2.2 w
section
variable {P:Program} {ops:Array Oper} {w0:World} {rows:List (Option Nat)} {pres:Pres} {sps:List Sp} {E:Act→Facts→Prop} {i:Nat} {o:Oper} {a:Act} {D:Facts} {w w':World} {U1 U2:List Nat} {listed:Array Bool} {foot:Nat→Foot} {grp:Nat→Nat} {v:Value}
theorem GoI.next (h:GoI P ops w0 rows pres sps E (U1++i::U2) listed a w D foot grp) (hdep : ∀ j,waitsT ops i j=true→listed.getD j false=true) (X:Facts) (f:Foot) (g:Nat) {D1:Facts} (hD1 : ∀ q∈D1,q∈D) (hgs:ovs sps=true→g=gAt sps i) (hlx:Lx P ops w0 rows pres sps E (U1++U2) (a.put o.dst v) (X++D1)) (hfar:Far rows w0 w')
 (hold : ∀ q∈D1,q.2 (fun k=>OldB w0 rows k∨foot q.1 k) w') (hX : ∀ q∈X,q.1=i∧Stab q.2∧q.2 (fun k=>OldB w0 rows k∨f k) w') (hsz:w.heap.size≤w'.heap.size)
 (hnew : ∀ k,f k→k<w'.heap.size ∧ ¬ OldB w0 rows k) (ho : ∀ k,f k→k<w0.heap.size→(∃ p0,(i,some k,p0)∈pres) ∨ ∃ j,listed.getD j false=true∧foot j k)
 (hd : ∀ j,listed.getD j false=true → ∀ k,f k→foot j k→g=grp j) (hk : ∀ k,k<w0.heap.size→(∀ p0,(i,some k,p0) ∉ pres)→(∀ m p0,listed.getD m false=true→(m,some k,p0) ∉ pres)→w'.heap[k]?=w.heap[k]?)
 (hg : ∀ T Z,(∃ k,f k)→spAt sps g = .al T Z→i=g ∨ ∃ T' n,spAt sps i = .st g T' n) (hs : ∀ T Z,spAt sps i = .al T Z→g=i) (he : ∀ q∈X, ∀ T Z,spAt sps i = .al T Z → ∃ v,q.2=alP w0.heap.size v T Z.size) :
 ∃ D' foot' grp',GoI P ops w0 rows pres sps E (U1++U2) (listed.setIfInBounds i true) (a.put o.dst v) w' D' foot' grp':=by
 obtain ⟨hin,hil⟩:=(h.u i).1 (by simp)
 have his:i<listed.size:=by rw [h.size];exact hin
 have L : ∀ j,(listed.setIfInBounds i true).getD j false=true→j=i∨listed.getD j false=true:=fun j hj=>by
  rw [zA1 his] at hj
  by_cases e:j=i
  ·exact .inl e
  ·rw [if_neg e] at hj;exact .inr hj
 have L' : ∀ j,listed.getD j false=true→j≠i:=fun j hj e=>by rw [e,hil] at hj;cases hj
 have Lm : ∀ j,listed.getD j false=true→(listed.setIfInBounds i true).getD j false=true:=fun j hj=>by rw [zA1 his,if_neg (L' j hj)];exact hj
 have Li:(listed.setIfInBounds i true).getD i false=true:=by rw [zA1 his,if_pos rfl]
 have hnin : ∀ j∈U1++U2,j≠i:=fun j hj e=>by
  subst e
  have hp:=h.sorted
  rw [List.pairwise_append] at hp
  rcases List.mem_append.1 hj with hj | hj
  ·exact absurd (hp.2.2 j hj j (by simp)) (by omega)
  ·exact absurd ((List.pairwise_cons.1 hp.2.1).1 j hj) (by omega)
 refine ⟨X++D1,fun j=>if j=i then f else foot j,fun j=>if j=i then g else grp j,?_⟩
 constructor
 ·rw [Array.size_setIfInBounds];exact h.size
 ·intro j
  rw [zA1 his]
  constructor
  ·intro hj
   have hne:=hnin j hj
   have:=(h.u j).1 (by rcases List.mem_append.1 hj with hj | hj<;>simp [hj])
   rw [if_neg hne];exact this
  ·rintro ⟨h1,h2⟩
   by_cases e:j=i
   ·rw [if_pos e] at h2;cases h2
   ·rw [if_neg e] at h2
    have:=(h.u j).2 ⟨h1,h2⟩
    rcases List.mem_append.1 this with hj | hj
    ·simp [hj]
    ·rcases List.mem_cons.1 hj with hj | hj
     ·exact absurd hj e
     ·simp [hj]
 ·have hp:=h.sorted
  rw [List.pairwise_append] at hp ⊢
  exact ⟨hp.1,(List.pairwise_cons.1 hp.2.1).2,fun x hx y hy=>hp.2.2 x hx y (by simp [hy])⟩
 ·exact hlx
 ·exact hfar
 ·intro q hq
  rcases List.mem_append.1 hq with hq | hq
  ·obtain ⟨e,h1,h2⟩:=hX q hq
   refine ⟨by rw [e];exact Li,h1,?_⟩
   simp only [e,if_true]
   exact h2
  ·obtain ⟨h1,h2,_⟩:=h.facts q (hD1 q hq)
   refine ⟨Lm _ h1,h2,?_⟩
   simp only [if_neg (L' _ h1)]
   exact hold q hq
 ·intro j hj k hk
  rcases L j hj with e | hj
  ·subst e;simp only [if_true] at hk;exact hnew k hk
  ·simp only [if_neg (L' j hj)] at hk
   obtain ⟨h1,h2⟩:=h.new_ j hj k hk
   exact ⟨Nat.lt_of_lt_of_le h1 hsz,h2⟩
 ·intro j hj k hk hk0
  rcases L j hj with e | hj
  ·subst e
   simp only [if_true] at hk
   rcases ho k hk hk0 with ⟨p0,e⟩ | ⟨j',h1,h2⟩
   ·exact ⟨j,p0,Li,e⟩
   ·obtain ⟨m,p0,h3,h4⟩:=h.old_ j' h1 k h2 hk0
    exact ⟨m,p0,Lm _ h3,h4⟩
  ·simp only [if_neg (L' j hj)] at hk
   obtain ⟨m,p0,h3,h4⟩:=h.old_ j hj k hk hk0
   exact ⟨m,p0,Lm _ h3,h4⟩
 ·intro m j hm hw
  rcases L m hm with e | hm
  ·rw [e] at hw;exact Lm _ (hdep j hw)
  ·exact Lm _ (h.closed m j hm hw)
 ·intro j j' hj hj' k hk hk'
  rcases L j hj with e | hl
  ·rcases L j' hj' with e' | hl'
   ·rw [e,e']
   ·rw [if_pos e] at hk ⊢
    rw [if_neg (L' j' hl')] at hk' ⊢
    exact hd j' hl' k hk hk'
  ·rcases L j' hj' with e' | hl'
   ·rw [if_pos e'] at hk' ⊢
    rw [if_neg (L' j hl)] at hk ⊢
    exact (hd j hl k hk' hk).symm
   ·rw [if_neg (L' j hl)] at hk ⊢
    rw [if_neg (L' j' hl')] at hk' ⊢
    exact h.dis j j' hl hl' k hk hk'
 ·intro k hk0 hm
  rw [hk k hk0 (fun p0=>hm i p0 Li) fun m p0 hl=>hm m p0 (Lm m hl)]
  exact h.kept k hk0 fun m p0 hl=>hm m p0 (Lm m hl)
 ·intro j T Z hj
  rcases L j hj with e | hj
  ·subst e;simp only [if_true];exact hg T Z
  ·simp only [if_neg (L' j hj)];exact h.gal j T Z hj
 ·intro q hq T Z hsp
  rcases List.mem_append.1 hq with hq | hq
  ·rw [(hX q hq).1] at hsp
   exact he q hq T Z hsp
  ·exact h.ents q (hD1 q hq) T Z hsp
 ·intro j T Z hsp hj
  rcases L j hj with e | hj
  ·subst e;simp only [if_true];exact hs T Z hsp
  ·simp only [if_neg (L' j hj)];exact h.gself j T Z hsp hj
 ·intro hov j hj
  rcases L j hj with e | hj
  ·subst e;simp only [if_true];exact hgs hov
  ·simp only [if_neg (L' j hj)];exact h.gst hov j hj
theorem GoI.keep (h:GoI P ops w0 rows pres sps E (U1++i::U2) listed a w D foot grp) (hb:Below w.heap.size w w') : ∀ q∈D,q.2 (fun k=>OldB w0 rows k∨foot q.1 k) w':=fun q hq=>by
 obtain ⟨_,h2,h3⟩:=h.facts q hq
 exact h2 _ _ w w' (fun _ h=>h) ⟨hb.size,fun k hk _=>hb.block k hk⟩ h3
theorem GoI.pre (once:Once w0 rows pres sps) (h:GoI P ops w0 rows pres sps E (U1++i::U2) listed a w D foot grp) {q:Nat×Option Nat×(World→Prop)} (hq:q∈pres) (hn:listed.getD q.1 false=false):q.2.2 w:=
 once.stab q hq w ⟨h.far.size,fun k hk hf=>by
  rcases hf.2 with hf | hf
  ·exact h.far.block k hk hf
  ·refine h.kept k hk fun m p0 hm hp=>?_
   have:=once.wr q hq _ hp k hf.symm rfl
   rw [this] at hn
   rw [hn] at hm
   cases hm⟩
theorem GoI.have_ (once:Once w0 rows pres sps) (hil:listed.getD i false=false) (h:GoI P ops w0 rows pres sps E (U1++i::U2) listed a w D foot grp):Have ops pres i D w:=⟨fun q hq _=>⟨_,(h.facts q hq).2.2⟩,fun q hq hw=>h.pre once hq (by
 cases e:listed.getD q.1 false with
 | false=>rfl
 | true=>have:=h.closed _ _ e hw;rw [hil] at this;cases this)⟩
theorem does_wp {Q:Exit→Act→World→Prop} {K:Act→World→Prop} {post:Value→World→Prop} (h:doesAt P o a w post) (hK : ∀ u w',post u w'→K (a.put o.dst u) w'):o.wp P a w K Q:=by
 unfold doesAt Oper.wp at *
 generalize (execOp a.eval o).run P w=r at *
 cases r with
 | ok n w2=>
   cases n<;>simp only [Oper.upon] at h ⊢
   case value v=>obtain ⟨u,e,q⟩:=h;rw [e];exact hK _ _ q
   case skip=>obtain ⟨u,e,q⟩:=h;rw [e];exact hK _ _ q
   case defer d=>
    obtain ⟨u,e,q⟩:=h
    have e1:=congrArg (fun x:Act=>x.defers.length) e
    simp [zBq] at e1
   case enter f args=>
    refine Calls.mono h ?_
    intro e w3 he
    cases e with
    | returned v=>obtain ⟨u,e,q⟩:=he;simp only;rw [e];exact hK _ _ q
    | panicked c=>exact he.elim
    | outgrown=>obtain ⟨_,_,hf⟩:=he;exact hf.elim
   case row r args=>
    refine Rows.mono h ?_
    rintro v w3 ⟨u,e,q⟩
    rw [e];exact hK _ _ q
 | halt x w2=>cases x<;>simp only [Oper.upon] at h
theorem gOf_al {T:TypeId} {Z:Array Value} (h:spAt sps i = .al T Z) : ∀ f,gOf sps f i=i
 | 0=>rfl
 | f+1=>by unfold gOf;rw [h]
theorem gAt_al {T:TypeId} {Z:Array Value} (h:spAt sps i = .al T Z):gAt sps i=i:=gOf_al h _
structure OvOk (ops:Array Oper) (sps:List Sp):Prop where
 g:ovs sps=true → ∀ i,i<ops.size→gOk sps i=true
 sep : ∀ i k,i<ops.size→k<ops.size→isOv (spAt sps i)=true→k≠i→waitsT ops i k=false→waitsT ops k i=false→gAt sps k≠gAt sps i ∧ ∀ m,m<ops.size→gAt sps m=gAt sps i→waitsT ops k m=false
theorem ovs_at {i:Nat} (h:isOv (spAt sps i)=true):ovs sps=true:=by
 unfold ovs
 rw [List.any_eq_true]
 unfold spAt at h
 rw [List.getD_eq_getElem?_getD] at h
 cases e:sps[i]? with
 | none=>rw [e] at h;simp [isOv] at h
 | some s=>rw [e] at h;exact ⟨s,List.mem_of_getElem? e,h⟩
theorem ovOk_of (h:ovB ops sps=true):OvOk ops sps:=by
 unfold ovB at h
 rw [Bool.or_eq_true] at h
 have h2:ovs sps=true → ∀ i,i<ops.size→gOk sps i=true∧(isOv (spAt sps i)=true → ∀ k,k<ops.size→sepB ops sps i k=true):=fun ho i hi=>by
  rcases h with h | h
  ·rw [ho] at h;cases h
  ·have:=List.all_eq_true.1 h i (List.mem_range.2 hi)
   rw [Bool.and_eq_true] at this
   refine ⟨this.1,fun hv k hk=>?_⟩
   have h3:=this.2
   rw [hv] at h3
   exact List.all_eq_true.1 (by simpa using h3) k (List.mem_range.2 hk)
 refine ⟨fun ho i hi=>(h2 ho i hi).1,fun i k hi hk hv hne hik hki=>?_⟩
 have h3:=(h2 (ovs_at hv) i hi).2 hv k hk
 unfold sepB at h3
 rw [hik,hki] at h3
 simp only [Bool.or_false,Bool.or_eq_true,beq_iff_eq,hne,false_or,Bool.and_eq_true,bne_iff_ne,ne_eq] at h3
 refine ⟨h3.1,fun m hm hg=>?_⟩
 have h4:=List.all_eq_true.1 h3.2 m (List.mem_range.2 hm)
 rw [hg] at h4
 simpa using h4
theorem keepB_sep (hov:OvOk ops sps) {i k:Nat} (hi:i<ops.size) (hk:k<ops.size) (hne:k≠i) (hik:waitsT ops i k=false) (hki:waitsT ops k i=false):keepB sps i k=true ∧ ∀ m,m<ops.size→waitsT ops k m=true→keepB sps i m=true:=by
 unfold keepB
 cases hv:isOv (spAt sps i) with
 | false=>simp
 | true=>
   obtain ⟨h1,h2⟩:=hov.sep i k hi hk hv hne hik hki
   refine ⟨by simpa using h1,fun m hm hw=>?_⟩
   have:gAt sps m≠gAt sps i:=fun e=>by have:=h2 m hm e;rw [hw] at this;cases this
   simpa using this
theorem GoI.step {Q:Exit→Act→World→Prop} (hov:OvOk ops sps) (once:Once w0 rows pres sps) (hz : ∀ k,OldB w0 rows k→k<w0.heap.size) (ho:ops[i]?=some o) (hdep : ∀ j,waitsT ops i j=true→listed.getD j false=true)
 (hpull:if Region.wanted o (yielded ops a.tmps)=true then claim P ops w0 rows pres sps i o (spAt sps i) a D ∧ ∀ v,dom (spAt sps i) (vals o a) v→Lx P ops w0 rows pres sps E (U1++U2) (a.put o.dst v) (ext w0 i o (spAt sps i) a v++keepD sps i (spAt sps i) D) else Lx P ops w0 rows pres sps E (U1++U2) (a.put o.dst undef) D)
 (h:GoI P ops w0 rows pres sps E (U1++i::U2) listed a w D foot grp) :
 wpOp P ops Q i (fun a' w' => ∃ D' foot' grp',GoI P ops w0 rows pres sps E (U1++U2) (listed.setIfInBounds i true) a' w' D' foot' grp') a w:=by
 have hil:listed.getD i false=false:=((h.u i).1 (by simp)).2
 have hik:i<ops.size:=((h.u i).1 (by simp)).1
 have hsz0:=h.far.size
 have hgok:=fun ho=>hov.g ho i hik
 unfold gOk at hgok
 have hhv:=h.have_ once hil
 have hne : ∀ j,listed.getD j false=true→j≠i:=fun j hj e=>by rw [e,hil] at hj;cases hj
 have hB : ∀ {w'},Below w.heap.size w w'→Far rows w0 w':=fun hb=>h.far.then_ (T:=[]) (Far.of_below hb) (fun k hk=>by simp at hk)
 unfold wpOp
 rw [ho]
 simp only
 by_cases hw:Region.wanted o (yielded ops a.tmps)=true
 ·rw [if_pos hw] at hpull ⊢
  obtain ⟨hcl,hnx⟩:=hpull
  left
  cases hs:spAt sps i with
  | det f=>
    rw [hs] at hcl hnx hgok
    refine does_wp (hcl w h.far hhv) ?_
    rintro u w' ⟨rfl,hb⟩
    exact h.next hdep [] (fun _=>False) (gAt sps i) (fun _ h=>h) (fun _=>rfl) (hnx _ rfl) (hB hb) (h.keep hb) (fun q hq=>by simp at hq) hb.size (fun k hk=>hk.elim) (fun k hk=>hk.elim) (fun _ _ k hk=>hk.elim) (fun k hk _ _=>hb.block k (by omega)) (fun T Z hf _=>hf.elim fun _ h=>h.elim) (fun T Z e=>by rw [hs] at e;cases e) (fun q hq=>by simp at hq)
  | new r=>
    rw [hs] at hcl hnx hgok
    refine does_wp (hcl.2 w h.far hhv) ?_
    rintro u w' ⟨hb,hr⟩
    refine h.next hdep [(i,r (vals o a) u)] (fun k=>w.heap.size≤k∧k<w'.heap.size) i (fun _ h=>h) (fun ho=>by have:=hgok ho;simp only [beq_iff_eq] at this;exact this.symm) (hnx u trivial) (hB hb) (h.keep hb) (fun q hq=>?_) hb.size (fun k hk=>⟨hk.2,fun ho=>by have:=ho.1;omega⟩) (fun k hk h0=>by omega) (fun j hj k hk hf=>by have:=(h.new_ j hj k hf).1;omega) (fun k hk _ _=>hb.block k (by omega)) (fun T Z _ _ => .inl rfl) (fun _ _ _=>rfl) (fun q hq T Z e=>by rw [hs] at e;cases e)
    rw [List.mem_singleton] at hq
    subst hq
    exact ⟨rfl,hcl.1 _ u,hr _ (fun k hk => .inl hk) (fun k hk=>by cases hk) (fun k h1 h2 => .inr ⟨h1,h2⟩)⟩
  | der j r=>
    rw [hs] at hcl hnx hgok
    obtain ⟨h1,h2,h3,h4⟩:=hcl
    have hj:=hdep j h2
    refine does_wp (h4 w (fun k=>OldB w0 rows k∨foot j k) h.far (fun k hk => .inl hk) hhv (fun p hp=>(h.facts _ hp).2.2)) ?_
    rintro u w' ⟨rfl,hr⟩
    refine h.next hdep [(i,r (vals o a) u)] (foot j) (grp j) (fun _ h=>h) (fun ho=>by have:=hgok ho;simp only [beq_iff_eq] at this;rw [this];exact h.gst ho j hj) (hnx u trivial) h.far (fun q hq=>(h.facts q hq).2.2) (fun q hq=>?_) (Nat.le_refl _) (h.new_ j hj) (fun k hk h0 => .inr ⟨j,hj,hk⟩) (fun j' hj' k hk hk'=>h.dis j j' hj hj' k hk hk') (fun k _ _ _=>rfl) (fun T Z hf e=>?_) (fun T Z e=>by rw [hs] at e;cases e) (fun q hq T Z e=>by rw [hs] at e;cases e)
    ·rw [List.mem_singleton] at hq
     subst hq
     exact ⟨rfl,h1 _ u,hr⟩
    ·rcases h.gal j T Z hj hf e with e1 | ⟨T',n,e1⟩
     ·rw [←e1] at e;rw [e] at h3;cases h3
     ·rw [e1] at h3;cases h3
  | al T Z=>
    rw [hs] at hcl hnx hgok
    refine alloc_step hcl.1 (hcl.2 w) ?_
    have hb:Below w.heap.size w (w.alloc (.cells Z T)):=(Below.refl _ _).alloc (Nat.le_refl _) _
    have hs1:(w.alloc (.cells Z T)).heap.size=w.heap.size+1:=zBk _ _
    refine h.next hdep [(i,alP w0.heap.size (.pointer (some ⟨w.heap.size,0,none⟩)) T Z.size)] (fun k=>k=w.heap.size) i (fun _ h=>h) (fun ho=>by have:=hgok ho;simp only [beq_iff_eq] at this;exact this.symm) (hnx _ trivial) (hB hb) (h.keep hb) (fun q hq=>?_) hb.size (fun k hk=>⟨by omega,fun ho=>by have:=ho.1;omega⟩) (fun k hk h0=>by omega) (fun j hj k hk hf=>by have:=(h.new_ j hj k hf).1;omega) (fun k hk _ _=>hb.block k (by omega)) (fun T Z _ _ => .inl rfl) (fun _ _ _=>rfl) (fun q hq T' Z' e=>?_)
    ·rw [List.mem_singleton] at hq
     subst hq
     exact ⟨rfl,alP_stab _ _ _ _,w.heap.size,rfl,hsz0, .inr rfl,Z,rfl,Blk.new _ _ _⟩
    ·rw [List.mem_singleton] at hq
     subst hq
     rw [hs] at e
     injection e with e1 e2
     subst e1 e2
     exact ⟨_,rfl⟩
  | st j T n=>
    rw [hs] at hcl hnx hgok
    obtain ⟨h1,h2,h3,⟨Z,h4,h5⟩,x,y,h6,h7,h8⟩:=hcl
    have hj:=hdep j h1
    obtain ⟨cs,hy,hcs,hone⟩:=h8 w h.far hhv
    obtain ⟨b,hb1,hb2,hb3,c0,hc0,hbk⟩:=(h.facts _ h7).2.2
    have hfj:foot j b:=hb3.resolve_left fun ho=>by have:=ho.1;omega
    have hgj:grp j=j:=h.gself j T Z h4 hj
    refine wp_store_row T x y h6 b cs hb1 hy T c0 hbk (by rw [hcs];exact h3) (hc0.trans hcs.symm) hone ?_
    have hn:=hnx undef rfl
    have hext:ext w0 i o (.st j T n) a undef=[(i,stP w0.heap.size (a.eval x) (a.eval y) T)]:=by simp only [ext,h6]
    rw [hext] at hn
    have hset : ∀ k,k≠b→(w.setRow b cs).heap[k]?=w.heap[k]?:=fun k hk=>setRow_other _ _ _ _ hk
    have hss:(w.setRow b cs).heap.size=w.heap.size:=by simp
    refine h.next hdep [(i,stP w0.heap.size (a.eval x) (a.eval y) T)] (foot j) (grp j) (fun _ h=>h) (fun ho=>by have:=hgok ho;simp only [beq_iff_eq] at this;rw [hgj,this]) hn ?_ (fun q hq=>?_) (fun q hq=>?_) (by omega) (fun k hk=>by rw [hss];exact h.new_ j hj k hk) (fun k hk h0 => .inr ⟨j,hj,hk⟩) (fun j' hj' k hk hk'=>h.dis j j' hj hj' k hk hk') (fun k hk _ _=>hset k (by omega)) (fun T' Z' _ _ => .inr ⟨T,n,by rw [hgj];exact hs⟩) (fun T Z e=>by rw [hs] at e;cases e) (fun q hq T Z e=>by rw [hs] at e;cases e)
    ·exact ⟨h.far.os,h.far.tape,h.far.output,by rw [hss];exact h.far.size,fun k hk hn=>(hset k (by omega)).trans (h.far.block k hk hn)⟩
    ·obtain ⟨hl,hst,hq2⟩:=h.facts q hq
     by_cases hfb:foot q.1 b
     ·have hg:=h.dis q.1 j hl hj b hfb hfj
      rw [hgj] at hg
      have hqj:q.1=j:=by
       rcases h.gal q.1 T Z hl ⟨b,hfb⟩ (by rw [hg];exact h4) with e | ⟨T',n',e⟩
       ·rw [e,hg]
       ·rw [hg] at e
        exact absurd (once.st _ _ _ _ _ _ _ e hs) (hne _ hl)
      obtain ⟨v,hv⟩:=h.ents q hq T Z (by rw [hqj];exact h4)
      rw [hv] at hq2 ⊢
      obtain ⟨b',e1,e2,e3,c1,hc1,hk1⟩:=hq2
      refine ⟨b',e1,e2,e3,?_⟩
      by_cases hbb:b'=b
      ·subst hbb
       exact ⟨cs,by rw [hcs,h5],setRow_heap _ _ _ _ _ _ hk1⟩
      ·exact ⟨c1,hc1,(hset b' hbb).trans hk1⟩
     ·refine hst _ _ w _ (fun _ h=>h) ⟨by omega,fun k hk hf=>hset k fun e=>?_⟩ hq2
      subst e
      rcases hf with hf | hf
      ·have:=hf.1;omega
      ·exact hfb hf
    ·rw [List.mem_singleton] at hq
     subst hq
     exact ⟨rfl,stP_stab _ _ _ _,b,cs,hb1,hy,hb2, .inr hfj,setRow_heap _ _ _ _ _ _ hbk⟩
  | wr r=>
    rw [hs] at hcl hnx hgok
    obtain ⟨h1,row,p0,h3,h4⟩:=hcl
    have hnl : ∀ k,some k=row → ∀ m p,listed.getD m false=true→(m,some k,p) ∉ pres:=fun k hk m p hm hp=>by
     have e:=once.wr _ h3 _ hp k hk.symm rfl
     injection e with e _
     exact hne m hm e.symm
    have hrow : ∀ k,some k=row→some k∈rows∧k<w0.heap.size:=fun k hk=>once.row _ h3 k hk.symm
    have hp:p0 w:=h.pre once h3 hil
    refine does_wp (h4 w h.far hhv hp) ?_
    rintro u w' ⟨hb,hr⟩
    have hblk : ∀ k,k<w.heap.size→some k≠row→w'.heap[k]?=w.heap[k]?:=fun k hk hn=>hb.block k hk hn
    have hoth : ∀ j,listed.getD j false=true → ∀ k,foot j k→some k≠row:=fun j hj k hf e=>by
     obtain ⟨m,p,hm,e1⟩:=h.old_ j hj k hf (hrow k e).2
     exact hnl k e m p hm e1
    refine h.next hdep [(i,r (vals o a) u)] (fun k=>(w.heap.size≤k∧k<w'.heap.size)∨some k=row) i (fun _ h=>h) (fun ho=>by have:=hgok ho;simp only [beq_iff_eq] at this;exact this.symm) (hnx u trivial) ?_ (fun q hq=>?_) (fun q hq=>?_) hb.size (fun k hk=>?_) (fun k hk h0=>?_) (fun j hj k hk hf=>?_) (fun k hk hn _=>hblk k (by omega) fun e=>?_) (fun T Z _ _ => .inl rfl) (fun _ _ _=>rfl) (fun q hq T Z e=>by rw [hs] at e;cases e)
    ·exact ⟨hb.os.trans h.far.os,hb.tape.trans h.far.tape,hb.output.trans h.far.output,Nat.le_trans hsz0 hb.size,fun k hk hn=>(hblk k (by omega) fun e=>hn (hrow k e).1).trans (h.far.block k hk hn)⟩
    ·obtain ⟨hl,hst,hq2⟩:=h.facts q hq
     refine hst _ _ w w' (fun _ h=>h) ⟨hb.size,fun k hk hf=>hblk k hk fun e=>?_⟩ hq2
     rcases hf with hf | hf
     ·exact hf.2 (hrow k e).1
     ·exact hoth _ hl k hf e
    ·rw [List.mem_singleton] at hq
     subst hq
     exact ⟨rfl,h1 _ u,hr _ (fun k hk => .inl hk) (fun k hk => .inr (.inr hk)) (fun k h1 h2 => .inr (.inl ⟨h1,h2⟩))⟩
    ·rcases hk with hk | hk
     ·exact ⟨hk.2,fun ho=>by have:=ho.1;omega⟩
     ·exact ⟨by have:=(hrow k hk).2;have:=hb.size;omega,fun ho=>ho.2 (hrow k hk).1⟩
    ·rcases hk with hk | hk
     ·omega
     ·exact .inl ⟨p0,by rw [hk];exact h3⟩
    ·rcases hk with hk | hk
     ·have:=(h.new_ j hj k hf).1;omega
     ·exact absurd hk (hoth j hj k hf)
    ·exact hn p0 (by rw [e];exact h3)
  | ov j r=>
    rw [hs] at hcl hnx hgok
    obtain ⟨h1,h2,h3,h4⟩:=hcl
    have hj:=hdep j h2
    obtain ⟨hgi,hal⟩:gAt sps i=gAt sps j∧noAl (spAt sps (gAt sps i))=true:=by have:=hgok (ovs_at (i:=i) (by rw [hs];rfl));simpa using this
    have hov1:ovs sps=true:=ovs_at (i:=i) (by rw [hs];rfl)
    refine does_wp (h4 w (fun k=>OldB w0 rows k∨foot j k) h.far (fun k hk => .inl hk) hhv (fun p hp=>(h.facts _ hp).2.2)) ?_
    rintro u w' ho
    have hset : ∀ k,k<w.heap.size → ¬ foot j k→w'.heap[k]?=w.heap[k]?:=fun k hk hn=>ho.block k hk fun h=>h.resolve_right hn
    have hold : ∀ k,k<w.heap.size→OldB w0 rows k→w'.heap[k]?=w.heap[k]?:=fun k hk hn=>ho.block k hk fun _=>hn
    have hnew:=h.new_ j hj
    refine h.next hdep [(i,r (vals o a) u)] (fun k=>foot j k∨(w.heap.size≤k∧k<w'.heap.size)) (grp j) (D1:=keepD sps i (.ov j r) D) (fun q hq=>?_) (fun _=>?_) (hnx u trivial) ?_ (fun q hq=>?_) (fun q hq=>?_) ho.size (fun k hk=>?_) (fun k hk h0=>?_) (fun j' hj' k hk hk'=>?_) (fun k hk hn hm=>?_) (fun T Z hf e=>?_) (fun T Z e=>by rw [hs] at e;cases e) (fun q hq T Z e=>by rw [hs] at e;cases e)
    ·exact (List.mem_filter.1 hq).1
    ·rw [hgi];exact h.gst hov1 j hj
    ·exact ⟨ho.os.trans h.far.os,ho.tape.trans h.far.tape,ho.output.trans h.far.output,Nat.le_trans hsz0 ho.size,fun k hk hn=>(hold k (by omega) ⟨hk,hn⟩).trans (h.far.block k hk hn)⟩
    ·obtain ⟨hq,hg⟩:=List.mem_filter.1 hq
     obtain ⟨hl,hst,hq2⟩:=h.facts q hq
     refine hst _ _ w w' (fun _ h=>h) ⟨ho.size,fun k hk hf=>?_⟩ hq2
     rcases hf with hf | hf
     ·exact hold k hk hf
     ·refine hset k hk fun hfj=>?_
      have e:=h.dis q.1 j hl hj k hf hfj
      rw [h.gst hov1 q.1 hl,h.gst hov1 j hj,←hgi] at e
      simp [e] at hg
    ·rw [List.mem_singleton] at hq
     subst hq
     exact ⟨rfl,h1 _ u,ho.rel _ (fun k hk=>hk.imp id .inl) (fun k h1 h2 => .inr (.inr ⟨h1,h2⟩))⟩
    ·rcases hk with hk | hk
     ·exact ⟨Nat.lt_of_lt_of_le (hnew k hk).1 ho.size,(hnew k hk).2⟩
     ·exact ⟨hk.2,fun ho=>by have:=ho.1;omega⟩
    ·rcases hk with hk | hk
     ·exact .inr ⟨j,hj,hk⟩
     ·omega
    ·rcases hk with hk | hk
     ·exact h.dis j j' hj hj' k hk hk'
     ·have:=(h.new_ j' hj' k hk').1;omega
    ·refine hset k (by omega) fun hfj=>?_
     obtain ⟨m,p0,hm1,hm2⟩:=h.old_ j hj k hfj hk
     exact hm m p0 hm1 hm2
    ·rw [h.gst hov1 j hj,←hgi] at e
     rw [e] at hal
     cases hal
 ·rw [if_neg hw] at hpull ⊢
  exact h.next hdep [] (fun _=>False) (gAt sps i) (fun _ h=>h) (fun _=>rfl) hpull h.far (fun q hq=>(h.facts q hq).2.2) (fun q hq=>by simp at hq) (Nat.le_refl _) (fun k hk=>hk.elim) (fun k hk=>hk.elim) (fun _ _ k hk=>hk.elim) (fun k hk _ _=>rfl) (fun T Z hf _=>hf.elim fun _ h=>h.elim) (fun T Z e=>gAt_al e) (fun q hq=>by simp at hq)
def pairsB (ops:Array Oper):Bool:=(List.range ops.size).all fun i=>(List.range i).all fun k=>waitsT ops i k||match ops[k]?,ops[i]? with
 | some x,some y=>x.apart ops y
 | _,_=>true
def noSelB (ops:Array Oper):Bool:=ops.all fun o=>match o.op with | .select _ _=>false | _=>true
theorem noSel_spec (h:noSelB ops=true) (i:Nat) (o:Oper) (ho:ops[i]?=some o) (cs:Array SelectCase) (b:Bool):o.op ≠ .select cs b:=by
 intro e
 unfold noSelB at h
 rw [Array.all_eq_true'] at h
 have:=h o (Array.mem_of_getElem? ho)
 rw [e] at this
 cases this
theorem waits_lt (hac:acyc ops=true) : ∀ (i:Nat) {k:Nat},waitsT ops i k=true→k<i:=by
 intro i
 induction i using Nat.strongRecOn with
 | _ i ih=>
   intro k h
   obtain ⟨o,ho,e,he,hb,h2⟩:=waitsT_spec h
   have hl:=acyc_spec hac ho he hb
   rcases h2 with h2 | ⟨_,h2⟩
   ·rw [←h2];exact hl
   ·exact Nat.lt_trans (ih e.on hl h2) hl
theorem range_split : ∀ (U:List Nat) (i:Nat),i∈U→U.Pairwise (· < ·) → ∃ U1 U2,U=U1++i::U2 ∧ ∀ k∈U1,k<i
 | [],i,h,_=>by simp at h
 | x::U,i,h,hp=>by
   rcases List.mem_cons.1 h with hx | hU
   ·subst hx;exact ⟨[],U,rfl,fun k hk=>by simp at hk⟩
   ·obtain ⟨h1,h2⟩:=List.pairwise_cons.1 hp
    obtain ⟨U1,U2,e,hl⟩:=range_split U i hU h2
    refine ⟨x::U1,U2,by rw [e];rfl,fun k hk=>?_⟩
    rcases List.mem_cons.1 hk with hk | hk
    ·rw [hk];exact h1 i hU
    ·exact hl k hk
def EndOf (w0:World) (rows:List (Option Nat)) (Q:Exit→Act→World→Prop) (a:Act) (D:Facts):Prop := ∀ w,Far rows w0 w→(∀ q∈D, ∃ F,q.2 F w)→Q .normal a w
theorem EndOf.mem {Q:Exit→Act→World→Prop} (a:Act) (D D':Facts) (hD : ∀ q,q∈D↔q∈D') (h:EndOf w0 rows Q a D):EndOf w0 rows Q a D':=fun w hw hq=>h w hw fun q h=>hq q ((hD q).1 h)
theorem wpAny_go {Q:Exit→Act→World→Prop} (hov:OvOk ops sps) (hac:acyc ops=true) (hap:pairsB ops=true) (hns:noSelB ops=true) (once:Once w0 rows pres sps) :
 ∀ (fuel:Nat) (U:List Nat) (listed:Array Bool) (a:Act) (w:World),(∃ D foot grp,GoI P ops w0 rows pres sps (EndOf w0 rows Q) U listed a w D foot grp)→U.length≤fuel→wpAny P .any ops Q fuel listed a w:=by
 have nil_end : ∀ listed a w,(∃ D foot grp,GoI P ops w0 rows pres sps (EndOf w0 rows Q) [] listed a w D foot grp)→Region.ready .any ops listed=[]∧Q .normal a w:=by
  rintro listed a w ⟨D,foot,grp,h⟩
  refine ⟨?_,h.lx w h.far fun q hq=>⟨_,(h.facts q hq).2.2⟩⟩
  rw [List.eq_nil_iff_forall_not_mem]
  intro i hi
  obtain ⟨h1,h2,_⟩:=zAq hi
  have:=(h.u i).2 ⟨h1,by rw [zAr (by rw [h.size];exact h1)];exact h2⟩
  simp at this
 intro fuel
 induction fuel with
 | zero=>
   intro U listed a w h hu
   obtain rfl:U=[]:=List.eq_nil_of_length_eq_zero (by omega)
   exact nil_end _ _ _ h
 | succ fuel ih=>
   intro U listed a w h hu
   refine ⟨fun h0=>?_,fun i hi=>?_⟩
   ·obtain ⟨D,foot,grp,hI⟩:=h
    cases U with
    | nil=>exact (nil_end _ _ _ ⟨D,foot,grp,hI⟩).2
    | cons x U=>
      obtain ⟨h1,h2⟩:=(hI.u x).1 (by simp)
      have:=all_listed hac hI.size h0 x h1
      rw [h2] at this
      cases this
   ·obtain ⟨D,foot,grp,hI⟩:=h
    obtain ⟨h1,h2,h3⟩:=zAq hi
    have ho:ops[i]?=some ops[i]:=Array.getElem?_eq_getElem h1
    have hl:listed.getD i false=false:=by rw [zAr (by rw [hI.size];exact h1)];exact h2
    obtain ⟨U1,U2,rfl,hlt⟩:=range_split U i ((hI.u i).2 ⟨h1,hl⟩) hI.sorted
    have hdep : ∀ j,waitsT ops i j=true→listed.getD j false=true:=fun j hj=>by
     obtain ⟨o,ho',e,he,hb,h4⟩:=waitsT_spec hj
     have hl:=h3 o ho' e he hb
     rcases h4 with h4 | ⟨_,h4⟩
     ·rw [←h4];exact hl
     ·exact hI.closed e.on j hl h4
    have hind : ∀ k∈U1, ∃ ok,ops[k]?=some ok∧Indep ops sps ok ops[i] k i:=fun k hk=>by
     obtain ⟨k1,k2⟩:=(hI.u k).1 (by simp [hk])
     have hki:=hlt k hk
     have hik:waitsT ops i k=false:=by
      cases hb:waitsT ops i k with
      | false=>rfl
      | true=>have:=hdep k hb;rw [k2] at this;cases this
     have hki2:waitsT ops k i=false:=by
      cases hb:waitsT ops k i with
      | false=>rfl
      | true=>have:=waits_lt hac _ hb;omega
     have s1:=keepB_sep hov h1 k1 (by omega) hik hki2
     have s2:=keepB_sep hov k1 h1 (by omega) hki2 hik
     refine ⟨ops[k],Array.getElem?_eq_getElem k1,?_,hik,hki2,fun m hw=>s1.2 m (by have:=waits_lt hac _ hw;omega) hw,fun m hw=>s2.2 m (by have:=waits_lt hac _ hw;omega) hw,s1.1,s2.1⟩
     have:=List.all_eq_true.1 (List.all_eq_true.1 hap i (List.mem_range.2 h1)) k (List.mem_range.2 hki)
     rw [hik,Array.getElem?_eq_getElem k1,ho] at this
     simpa using this
    refine wpOp_mono ?_ (GoI.step hov once (fun k hk=>hk.1) ho hdep (Lx_pull EndOf.mem (noSel_spec hns) ho U2 U1 a D hind hI.lx) hI)
    intro a' w' hn
    refine ih _ _ _ _ hn ?_
    simp only [List.length_append,List.length_cons] at hu ⊢
    omega
theorem zD1 {Q:Exit→Act→World→Prop} {id:Nat} {a0:Act} {W:World} (hov:OvOk ops sps) (hm:P.follows .mixedOrders=true) (hac:acyc ops=true) (hap:pairsB ops=true) (hns:noSelB ops=true) (once:Once W.drew rows pres sps)
 (h:Lx P ops W.drew rows pres sps (EndOf W.drew rows Q) (List.range ops.size) a0 []):(Code.region id ops true).wp P Q a0 W:=by
 refine wp_region_any hm (wpAny_go (w0:=W.drew) (rows:=rows) (sps:=sps) hov hac hap hns once _ (List.range ops.size) _ _ _ ⟨[],fun _ _=>False,fun i=>i,?_⟩ (by simp))
 constructor
 ·simp
 ·intro i
  rw [List.mem_range,zBa]
  exact ⟨fun h=>⟨h,rfl⟩,fun h=>h.1⟩
 ·exact List.pairwise_lt_range
 ·exact h
 ·exact Far.refl _ _
 ·intro q hq;simp at hq
 ·intro i hi;rw [zBa] at hi;cases hi
 ·intro i hi;rw [zBa] at hi;cases hi
 ·intro i j hi;rw [zBa] at hi;cases hi
 ·intro i j hi;rw [zBa] at hi;cases hi
 ·intro k _ _;rfl
 ·intro i T Z hi;rw [zBa] at hi;cases hi
 ·intro q hq;simp at hq
 ·intro i T Z _ hi;rfl
 ·intro _ i hi;rw [zBa] at hi;cases hi
end
section
variable (P:Program) (ops:Array Oper) (w0:World) (rows:List (Option Nat)) (pres:Pres) (sps:List Sp) (E:Act→Facts→Prop)
def LxL : Nat→List Oper→List Sp→Act→Facts→Prop
 | _,[],_,a,D=>E a D
 | i,o::rest,s::ss,a,D=>if Region.wanted o (yielded ops a.tmps)=true then claim P ops w0 rows pres sps i o s a D ∧ ∀ v,dom s (vals o a) v→LxL (i+1) rest ss (a.put o.dst v) (ext w0 i o s a v++keepD sps i s D) else LxL (i+1) rest ss (a.put o.dst undef) D
 | _,_::_,[],_,_=>False
def exSp : Nat→(List Sp→Prop)→Prop
 | 0,Q=>Q []
 | n+1,Q => ∃ s,exSp n fun l=>Q (s::l)
def stsOf (sps:List Sp):List Nat:=sps.filterMap fun s=>match s with | .st j _ _=>some j | _=>none
end
section
variable {P:Program} {ops:Array Oper} {w0:World} {rows:List (Option Nat)} {pres:Pres} {sps:List Sp} {E:Act→Facts→Prop}
theorem zDK : ∀ (rest:List Oper) (ss:List Sp) (i:Nat) (a:Act) (D:Facts),(∀ k,ops[i+k]?=rest[k]?)→(∀ k,sps[i+k]?=ss[k]?)→LxL P ops w0 rows pres sps E i rest ss a D→Lx P ops w0 rows pres sps E ((List.range rest.length).map (i + ·)) a D
 | [],_,_,_,_,_,_,h=>h
 | o::rest,[],_,_,_,_,_,h=>h.elim
 | o::rest,s::ss,i,a,D,ho,hs,h=>by
   have hsi:spAt sps i=s:=by
    have:=hs 0
    unfold spAt
    rw [List.getD_eq_getElem?_getD,show sps[i]?=some s from this]
    rfl
   have hoi:ops[i]?=some o:=ho 0
   rw [List.length_cons,List.range_succ_eq_map,List.map_cons,List.map_map]
   have key : ∀ a D,LxL P ops w0 rows pres sps E (i+1) rest ss a D→Lx P ops w0 rows pres sps E ((List.range rest.length).map ((fun x=>i+x) ∘ Nat.succ)) a D:=fun a D h=>by
    have:=zDK rest ss (i+1) a D (fun k=>by have:=ho (k+1);rwa [show i+(k+1)=i+1+k from by omega] at this) (fun k=>by have:=hs (k+1);rwa [show i+(k+1)=i+1+k from by omega] at this) h
    rwa [show ((fun x=>i+x) ∘ Nat.succ)=fun x=>i+1+x from funext fun x=>by simp;omega]
   intro o' ho'
   obtain rfl:o=o':=Option.some.inj (hoi.symm.trans ho')
   rw [Nat.add_zero,hsi]
   unfold LxL at h
   split
   ·rename_i hw
    rw [if_pos hw] at h
    exact ⟨h.1,fun v hv=>key _ _ (h.2 v hv)⟩
   ·rename_i hw
    rw [if_neg hw] at h
    exact key _ _ h
theorem nodup_at {α β:Type} {f:α→Option β} : ∀ {l:List α} {i j:Nat} {x y:α} {z:β},(l.filterMap f).Nodup→l[i]?=some x→l[j]?=some y→f x=some z→f y=some z→i=j
 | [],i,_,_,_,_,_,h,_,_,_=>by simp at h
 | u::l,i,j,x,y,z,hn,hi,hj,hx,hy=>by
   have mem : ∀ {k:Nat} {v:α},l[k]?=some v→f v=some z→z∈l.filterMap f:=fun hk hv=>List.mem_filterMap.2 ⟨_,List.mem_of_getElem? hk,hv⟩
   cases i with
   | zero=>
     cases j with
     | zero=>rfl
     | succ j=>
       simp only [List.getElem?_cons_zero,Option.some.injEq,List.getElem?_cons_succ] at hi hj
       subst hi
       rw [List.filterMap_cons,hx] at hn
       exact absurd (mem hj hy) (List.nodup_cons.1 hn).1
   | succ i=>
     cases j with
     | zero=>
       simp only [List.getElem?_cons_zero,Option.some.injEq,List.getElem?_cons_succ] at hi hj
       subst hj
       rw [List.filterMap_cons,hy] at hn
       exact absurd (mem hi hx) (List.nodup_cons.1 hn).1
     | succ j=>
       simp only [List.getElem?_cons_succ] at hi hj
       have hn':(l.filterMap f).Nodup:=by
        rw [List.filterMap_cons] at hn
        split at hn
        ·exact hn
        ·exact (List.nodup_cons.1 hn).2
       rw [nodup_at hn' hi hj hx hy]
theorem spAt_some {i:Nat} {s:Sp} (h:spAt sps i=s) (hne:s ≠ .det fun _=>undef):sps[i]?=some s:=by
 unfold spAt at h
 rw [List.getD_eq_getElem?_getD] at h
 cases e:sps[i]? with
 | none=>rw [e] at h;exact absurd h.symm hne
 | some x=>rw [e] at h;rw [←h];rfl
theorem once_of (h1:(stsOf sps).Nodup) (h2 : ∀ q∈pres, ∀ q'∈pres, ∀ k,q.2.1=some k→q'.2.1=some k→q=q') (h3 : ∀ q∈pres, ∀ k,q.2.1=some k→some k∈rows∧k<w0.heap.size) (h4 : ∀ q∈pres,q.2.2 w0)
 (h5 : ∀ q∈pres, ∀ w,Agree (fun k=>k<w0.heap.size∧(some k ∉ rows∨some k=q.2.1)) w0 w→q.2.2 w):Once w0 rows pres sps:=
 ⟨fun i i' j T n T' n' e e'=>nodup_at h1 (spAt_some e (by simp)) (spAt_some e' (by simp)) (z:=j) rfl rfl,h2,h3,h4,h5⟩
theorem exSp_spec : ∀ (n:Nat) (Q:List Sp→Prop),exSp n Q → ∃ l,Q l
 | 0,Q,h=>⟨[],h⟩
 | n+1,Q,⟨s,h⟩=>by
   obtain ⟨l,hl⟩:=exSp_spec n _ h
   exact ⟨s::l,hl⟩
end
end
section
section
variable {P:Program} {ops:Array Oper} {w0:World} {rows:List (Option Nat)} {pres:Pres} {sps:List Sp} {E:Act→Facts→Prop} {i:Nat} {o:Oper} {rest:List Oper} {s:Sp} {ss:List Sp} {a:Act} {D:Facts} {w w':World}
theorem does_quiet {V:Value} (h:Oper.quietUpon P (Below w.heap.size w) w V ((execOp a.eval o).run P w)):doesAt P o a w fun u w'=>u=V∧Below w.heap.size w w':=by
 unfold doesAt Oper.wp
 generalize (execOp a.eval o).run P w=r at *
 cases r with
 | ok n w2=>
   cases n<;>simp only [Oper.quietUpon] at h<;>simp only [Oper.upon]
   case value v=>obtain ⟨rfl,rfl⟩:=h;exact ⟨_,rfl,rfl,Below.refl _ _⟩
   case skip=>obtain ⟨rfl,rfl⟩:=h;exact ⟨_,rfl,rfl,Below.refl _ _⟩
   case enter f args=>
    obtain ⟨rfl,hc⟩:=h
    refine Calls.mono hc ?_
    rintro e w3 ⟨rfl,hb⟩
    exact ⟨_,rfl,rfl,hb⟩
 | halt x w2=>cases x<;>simp only [Oper.quietUpon] at h
theorem lx_ex (hw:Region.wanted o (yielded ops a.tmps)=true) (h : ∃ V,s = .det (fun _=>V)∧(∀ w,Far rows w0 w→Have ops pres i D w→Oper.quietUpon P (Below w.heap.size w) w V ((execOp a.eval o).run P w))∧LxL P ops w0 rows pres sps E (i+1) rest ss (a.put o.dst V) D):LxL P ops w0 rows pres sps E i (o::rest) (s::ss) a D:=by
 obtain ⟨V,rfl,h1,h2⟩:=h
 unfold LxL
 rw [if_pos hw]
 exact ⟨fun w hw hh=>does_quiet (h1 w hw hh),fun v hv=>by rw [show v=V from hv];exact h2⟩
theorem lx_pass (hw:Region.wanted o (yielded ops a.tmps)=false) (hs:s = .det fun _=>undef) (h:LxL P ops w0 rows pres sps E (i+1) rest ss (a.put o.dst undef) D):LxL P ops w0 rows pres sps E i (o::rest) (s::ss) a D:=by
 unfold LxL
 rw [hw]
 exact h
theorem lx_new (r:List Value→Value→Foot→World→Prop) (hs:s = .new r) (hw:Region.wanted o (yielded ops a.tmps)=true) (hst : ∀ ρ v,Stab (r ρ v)) (hc : ∀ w,Far rows w0 w→Have ops pres i D w→doesAt P o a w fun u w'=>Below w.heap.size w w'∧NewR w0 rows (r (vals o a)) none w u w') (h : ∀ v,LxL P ops w0 rows pres sps E (i+1) rest ss (a.put o.dst v) ((i,r (vals o a) v)::D)):LxL P ops w0 rows pres sps E i (o::rest) (s::ss) a D:=by
 subst hs
 unfold LxL
 rw [if_pos hw]
 exact ⟨⟨hst,hc⟩,fun v _=>h v⟩
theorem lx_al {d:Option Tmp} {rt:TypeId} {pos:String} {af:Array Edge} (T:TypeId) (Z:Array Value) (hz : ∀ w,(zeroValue T).run P w = .ok (.agg Z) w) (hs:s = .al T Z) (h : ∀ v,LxL P ops w0 rows pres sps E (i+1) rest ss (a.put d v) ((i,alP w0.heap.size v T Z.size)::D)) :
 LxL P ops w0 rows pres sps E i ({ dst:=d,op := .alloc T,type:=rt,pos:=pos,after:=af,guard:=none }::rest) (s::ss) a D:=by
 subst hs
 unfold LxL
 rw [if_pos (by simp [Region.wanted])]
 exact ⟨⟨rfl,hz⟩,fun v _=>h v⟩
theorem lx_st {rt:TypeId} {pos:String} {af:Array Edge} {x y:Operand} (j:Nat) (T:TypeId) (n:Nat) (hs:s = .st j T n) (hj:waitsT ops i j=true) (hn:(P.info? T).map (·.size)=some n) (hZ : ∃ Z:Array Value,spAt sps j = .al T Z∧Z.size=n) (hD:(j,alP w0.heap.size (a.eval x) T n)∈D)
 (hy : ∀ w,Far rows w0 w→Have ops pres i D w → ∃ cs:Array Value,a.eval y = .agg cs∧cs.size=n∧cs.all (·.oneCell')=true) (h:LxL P ops w0 rows pres sps E (i+1) rest ss a ((i,stP w0.heap.size (a.eval x) (a.eval y) T)::D)) :
 LxL P ops w0 rows pres sps E i ({ dst:=none,op := .store T x y,type:=rt,pos:=pos,after:=af,guard:=none }::rest) (s::ss) a D:=by
 subst hs
 unfold LxL
 rw [if_pos (by simp [Region.wanted])]
 exact ⟨⟨hj,rfl,hn,hZ,x,y,rfl,hD,hy⟩,fun v _=>h⟩
theorem lx_wr (row:Option Nat) (p0:World→Prop) (r:List Value→Value→Foot→World→Prop) (hs:s = .wr r) (hp:(i,row,p0)∈pres) (hw:Region.wanted o (yielded ops a.tmps)=true) (hst : ∀ ρ v,Stab (r ρ v))
 (hc : ∀ w,Far rows w0 w→Have ops pres i D w→p0 w→doesAt P o a w fun u w'=>w.grownBy w' row∧NewR w0 rows (r (vals o a)) row w u w') (h : ∀ v,LxL P ops w0 rows pres sps E (i+1) rest ss (a.put o.dst v) ((i,r (vals o a) v)::D)):LxL P ops w0 rows pres sps E i (o::rest) (s::ss) a D:=by
 subst hs
 unfold LxL
 rw [if_pos hw]
 exact ⟨⟨hst,row,p0,hp,hc⟩,fun v _=>h v⟩
theorem zEi : ∀ (l:List Oper) (ss:List Sp) (i:Nat) (a:Act) (D:Facts),LxL P ops w0 rows pres sps E i l ss a D → ∃ a' D',E a' D'
 | [],[],_,a,D,h=>⟨a,D,h⟩
 | [],_::_,_,a,D,h=>⟨a,D,h⟩
 | o::l,[],_,_,_,h=>h.elim
 | o::l,s::ss,i,a,D,h=>by
   unfold LxL at h
   split at h
   ·obtain ⟨v,hv⟩:=dom_some s (vals o a)
    exact zEi l ss _ _ _ (h.2 v hv)
   ·exact zEi l ss _ _ _ h
theorem zEh {E':Act→Facts→Prop} (hE : ∀ a D,E a D→E' a D) : ∀ (l:List Oper) (ss:List Sp) (i:Nat) (a:Act) (D:Facts),LxL P ops w0 rows pres sps E i l ss a D→LxL P ops w0 rows pres sps E' i l ss a D
 | [],[],_,a,D,h=>hE _ _ h
 | [],_::_,_,a,D,h=>hE _ _ h
 | o::l,[],_,_,_,h=>h.elim
 | o::l,s::ss,i,a,D,h=>by
   unfold LxL at h ⊢
   split at h
   ·rename_i hw
    rw [if_pos hw]
    exact ⟨h.1,fun v hv=>zEh hE l ss _ _ _ (h.2 v hv)⟩
   ·rename_i hw
    rw [if_neg hw]
    exact zEh hE l ss _ _ _ h
theorem Have.at (h:Have ops pres i D w) (k:Nat) {j:Nat} {p:Foot→World→Prop} (hk:D[k]?=some (j,p)) (hq:waitsT ops i j=true) : ∃ F,p F w:=h.fact _ (List.mem_of_getElem? hk) hq
theorem Have.was (h:Have ops pres i D w) (k:Nat) {j:Nat} {row:Option Nat} {p:World→Prop} (hk:pres[k]?=some (j,row,p)) (hq:waitsT ops j i=true):p w:=h.pre _ (List.mem_of_getElem? hk) hq
theorem far_nil {W:World} (h:Far [] W.drew w):Below W.heap.size W w:=⟨h.os,h.tape,h.output,h.size,fun k hk=>h.block k hk (by simp)⟩
theorem zBg {W:World} (h:Far rows W.drew w):Far rows W w:=⟨h.os,h.tape,h.output,h.size,h.block⟩
end
structure PreOk (w0:World) (pres:Pres):Prop where
 wr : ∀ q∈pres, ∀ q'∈pres, ∀ k,q.2.1=some k→q'.2.1=some k→q=q'
 lt : ∀ q∈pres, ∀ k,q.2.1=some k→k<w0.heap.size
 at_ : ∀ q∈pres,q.2.2 w0
 stab : ∀ q∈pres, ∀ w,w0.heap.size≤w.heap.size→(∀ k,q.2.1=some k→w.heap[k]?=w0.heap[k]?)→q.2.2 w
theorem PreOk.nil (w0:World):PreOk w0 []:=⟨fun q h=>by simp at h,fun q h=>by simp at h,fun q h=>by simp at h,fun q h=>by simp at h⟩
theorem PreOk.cons {w0:World} {pres:Pres} {i:Nat} {row:Option Nat} {p:World→Prop} (h:PreOk w0 pres) (hn : ∀ q∈pres, ∀ k,row=some k→q.2.1≠some k) (hl : ∀ k,row=some k→k<w0.heap.size) (hp:p w0)
 (hs : ∀ w,w0.heap.size≤w.heap.size→(∀ k,row=some k→w.heap[k]?=w0.heap[k]?)→p w):PreOk w0 ((i,row,p)::pres):=by
 refine ⟨fun q hq q' hq' k e e'=>?_,fun q hq=>?_,fun q hq=>?_,fun q hq=>?_⟩
 ·rcases List.mem_cons.1 hq with hq | hq
  ·rcases List.mem_cons.1 hq' with hq' | hq'
   ·rw [hq,hq']
   ·rw [hq] at e;exact absurd e' (hn q' hq' k e)
  ·rcases List.mem_cons.1 hq' with hq' | hq'
   ·rw [hq'] at e';exact absurd e (hn q hq k e')
   ·exact h.wr q hq q' hq' k e e'
 ·rcases List.mem_cons.1 hq with hq | hq
  ·rw [hq];exact hl
  ·exact h.lt q hq
 ·rcases List.mem_cons.1 hq with hq | hq
  ·rw [hq];exact hp
  ·exact h.at_ q hq
 ·rcases List.mem_cons.1 hq with hq | hq
  ·rw [hq];exact hs
  ·exact h.stab q hq
def rowsOfP (pres:Pres):List (Option Nat):=pres.map (·.2.1)
section
variable {P:Program} {ops:Array Oper} {W:World} {pres:Pres} {sps:List Sp} {E:Act→Facts→Prop} {i:Nat} {o:Oper} {rest:List Oper} {s:Sp} {ss:List Sp} {a:Act} {D:Facts}
theorem PreOk.once (h:PreOk W pres) (h1:(stsOf sps).Nodup):Once W.drew (rowsOfP pres) pres sps:=
 once_of h1 h.wr (fun q hq k e=>⟨List.mem_map.2 ⟨q,hq,e⟩,h.lt q hq k e⟩) (fun q hq=>h.stab q hq _ (Nat.le_refl _) fun _ _=>rfl) (fun q hq w ha=>h.stab q hq w ha.size fun k e=>ha.same k (h.lt q hq k e) ⟨h.lt q hq k e, .inr e.symm⟩)
def EndP (ops:Array Oper) (W:World) (pres:Pres) (sps:List Sp) (Q:Exit→Act→World→Prop) (a:Act) (D:Facts):Prop:=((stsOf sps).Nodup∧ovB ops sps=true) ∧ ∀ w,Far (rowsOfP pres) W w→(∀ q∈D, ∃ F,q.2 F w)→Q .normal a w
theorem zBG {Q:Exit→Act→World→Prop} {id:Nat} {a0:Act} {l:List Oper} (n:Nat) (pres:Pres) (hp:PreOk W pres) (hm:P.follows .mixedOrders=true) (hac:acyc l.toArray=true) (hap:pairsB l.toArray=true) (hns:noSelB l.toArray=true)
 (h:exSp n fun sps=>LxL P l.toArray W.drew (rowsOfP pres) pres sps (EndP l.toArray W pres sps Q) 0 l sps a0 []):(Code.region id l.toArray true).wp P Q a0 W:=by
 obtain ⟨sps,h1⟩:=exSp_spec n _ h
 obtain ⟨_,_,⟨h2,hov⟩,_⟩:=zEi _ _ _ _ _ h1
 refine zD1 (rows:=rowsOfP pres) (pres:=pres) (ovOk_of hov) hm hac hap hns (hp.once h2) ?_
 have:=zDK l sps 0 a0 [] (fun k=>by simp) (fun k=>by simp) (zEh (E':=EndOf W.drew (rowsOfP pres) Q) (fun a D he w hw hq=>he.2 w (zBg hw) hq) _ _ _ _ _ h1)
 simpa using this
theorem lxP_nil {Q:Exit→Act→World→Prop} (h1:(stsOf sps).Nodup) (h : ∀ w,Far (rowsOfP pres) W w→(∀ q∈D, ∃ F,q.2 F w)→Q .normal a w) (h2:ovB ops sps=true:=by kernel_rfl):LxL P ops W.drew (rowsOfP pres) pres sps (EndP ops W pres sps Q) i [] [] a D:=⟨⟨h1,h2⟩,h⟩
def End0 (ops:Array Oper) (W:World) (sps:List Sp) (Q:Exit→Act→World→Prop) (a:Act) (D:Facts):Prop:=((stsOf sps).Nodup∧ovB ops sps=true) ∧ ∀ w,Below W.heap.size W w→(∀ q∈D, ∃ F,q.2 F w)→Q .normal a w
theorem zAw {Q:Exit→Act→World→Prop} {id:Nat} {a0:Act} {l:List Oper} (n:Nat) (hm:P.follows .mixedOrders=true) (hac:acyc l.toArray=true) (hap:pairsB l.toArray=true) (hns:noSelB l.toArray=true)
 (h:exSp n fun sps=>LxL P l.toArray W.drew [] [] sps (End0 l.toArray W sps Q) 0 l sps a0 []):(Code.region id l.toArray true).wp P Q a0 W:=by
 obtain ⟨sps,h1⟩:=exSp_spec n _ h
 obtain ⟨_,_,⟨h2,hov⟩,_⟩:=zEi _ _ _ _ _ h1
 refine zD1 (rows:=[]) (pres:=[]) (ovOk_of hov) hm hac hap hns ((PreOk.nil W).once h2) ?_
 have:=zDK l sps 0 a0 [] (fun k=>by simp) (fun k=>by simp) (zEh (E':=EndOf W.drew [] Q) (fun a D he w hw hq=>he.2 w (far_nil hw) hq) _ _ _ _ _ h1)
 simpa using this
theorem lx0_ex (hw:Region.wanted o (yielded ops a.tmps)=true) (h : ∃ V,s = .det (fun _=>V)∧(∀ w,Below W.heap.size W w→Have ops [] i D w→Oper.quietUpon P (Below w.heap.size w) w V ((execOp a.eval o).run P w))∧LxL P ops W.drew [] [] sps E (i+1) rest ss (a.put o.dst V) D):LxL P ops W.drew [] [] sps E i (o::rest) (s::ss) a D:=by
 obtain ⟨V,h1,h2,h3⟩:=h
 exact lx_ex hw ⟨V,h1,fun w hw=>h2 w (far_nil hw),h3⟩
theorem zAZ (hw:Region.wanted o (yielded ops a.tmps)=false) (hs:s = .det fun _=>undef) (h:LxL P ops W.drew [] [] sps E (i+1) rest ss (a.put o.dst undef) D):LxL P ops W.drew [] [] sps E i (o::rest) (s::ss) a D:=lx_pass hw hs h
theorem lx0_nil {Q:Exit→Act→World→Prop} (h1:(stsOf sps).Nodup) (h : ∀ w,Below W.heap.size W w→(∀ q∈D, ∃ F,q.2 F w)→Q .normal a w) (h2:ovB ops sps=true:=by kernel_rfl):LxL P ops W.drew [] [] sps (End0 ops W sps Q) i [] [] a D:=⟨⟨h1,h2⟩,h⟩
theorem lx0_new (r:Value→Foot→World→Prop) (hs:s = .new fun _=>r) (hw:Region.wanted o (yielded ops a.tmps)=true) (hst : ∀ v,Stab (r v)) (hc : ∀ w,Below W.heap.size W w→Have ops [] i D w→doesAt P o a w fun u w'=>Below w.heap.size w w'∧NewR W.drew [] r none w u w')
 (h : ∀ v,LxL P ops W.drew [] [] sps E (i+1) rest ss (a.put o.dst v) ((i,r v)::D)):LxL P ops W.drew [] [] sps E i (o::rest) (s::ss) a D:=lx_new (fun _=>r) hs hw (fun _=>hst) (fun w hw=>hc w (far_nil hw)) h
theorem lx_move {w0:World} {rows:List (Option Nat)} {d:Option Tmp} {rt:TypeId} {pos:String} {af:Array Edge} {x:Operand} (hs:s = .det fun ρ=>ρ.headD undef) (h:LxL P ops w0 rows pres sps E (i+1) rest ss (a.put d (a.eval x)) D) :
 LxL P ops w0 rows pres sps E i ({ dst:=d,op := .move x,type:=rt,pos:=pos,after:=af,guard:=none }::rest) (s::ss) a D:=by
 subst hs
 unfold LxL
 rw [if_pos (by simp [Region.wanted])]
 have hv:(vals { dst:=d,op := .move x,type:=rt,pos:=pos,after:=af,guard:=none } a).headD undef=a.eval x:=rfl
 exact ⟨fun w hw hh=>zDp rfl ⟨hv.symm,Below.refl _ _⟩,fun v hv'=>by rw [show v=a.eval x from hv'.trans hv];exact h⟩
theorem lx_assign {w0:World} {rows:List (Option Nat)} {d:Option Tmp} {rt:TypeId} {pos:String} {af:Array Edge} {x:Operand} (hs:s = .det fun ρ=>ρ.headD undef) (h:LxL P ops w0 rows pres sps E (i+1) rest ss (a.put d (a.eval x)) D) :
 LxL P ops w0 rows pres sps E i ({ dst:=d,op := .assign x,type:=rt,pos:=pos,after:=af,guard:=none }::rest) (s::ss) a D:=by
 subst hs
 unfold LxL
 rw [if_pos (by simp [Region.wanted])]
 have hv:(vals { dst:=d,op := .assign x,type:=rt,pos:=pos,after:=af,guard:=none } a).headD undef=a.eval x:=rfl
 exact ⟨fun w hw hh=>zDp rfl ⟨hv.symm,Below.refl _ _⟩,fun v hv'=>by rw [show v=a.eval x from hv'.trans hv];exact h⟩
def extrV (k:Nat):Value→Value | .tuple xs=>xs.getD k undef | _=>undef
theorem lx_extr {w0:World} {rows:List (Option Nat)} {d:Option Tmp} {rt:TypeId} {pos:String} {af:Array Edge} {x:Operand} {k:Nat} (hs:s = .det fun ρ=>extrV k (ρ.headD undef)) (hc : ∀ w,Far rows w0 w→Have ops pres i D w → ∃ xs:Array Value,a.eval x = .tuple xs∧k<xs.size) (h:LxL P ops w0 rows pres sps E (i+1) rest ss (a.put d (extrV k (a.eval x))) D) :
 LxL P ops w0 rows pres sps E i ({ dst:=d,op := .extract x k,type:=rt,pos:=pos,after:=af,guard:=none }::rest) (s::ss) a D:=by
 subst hs
 unfold LxL
 rw [if_pos (by simp [Region.wanted])]
 have hv:extrV k ((vals { dst:=d,op := .extract x k,type:=rt,pos:=pos,after:=af,guard:=none } a).headD undef)=extrV k (a.eval x):=rfl
 refine ⟨fun w hw hh=>?_,fun v hv'=>by rw [show v=extrV k (a.eval x) from hv'.trans hv];exact h⟩
 obtain ⟨xs,hx,hk⟩:=hc w hw hh
 refine zDp (v:=extrV k (a.eval x)) ?_ ⟨hv.symm,Below.refl _ _⟩
 unfold execOp
 simp only [hx,Instr.extract,Array.getElem?_eq_getElem hk,Sem.run_bind,Sem.run_pure,Result.andThen_ok]
 simp [extrV,Array.getD,hk]
theorem zBi {w0:World} {rows:List (Option Nat)} {d:Option Tmp} {rt:TypeId} {pos:String} {af:Array Edge} {x:Operand} (hs:s = .det fun ρ=>ρ.headD undef) (h : ∃ v,a.eval x=v∧LxL P ops w0 rows pres sps E (i+1) rest ss (a.put d v) D) :
 LxL P ops w0 rows pres sps E i ({ dst:=d,op := .move x,type:=rt,pos:=pos,after:=af,guard:=none }::rest) (s::ss) a D:=by
 obtain ⟨_,rfl,h⟩:=h
 exact lx_move hs h
theorem zAO {w0:World} {rows:List (Option Nat)} {d:Option Tmp} {rt:TypeId} {pos:String} {af:Array Edge} {x:Operand} (hs:s = .det fun ρ=>ρ.headD undef) (h : ∃ v,a.eval x=v∧LxL P ops w0 rows pres sps E (i+1) rest ss (a.put d v) D) :
 LxL P ops w0 rows pres sps E i ({ dst:=d,op := .assign x,type:=rt,pos:=pos,after:=af,guard:=none }::rest) (s::ss) a D:=by
 obtain ⟨_,rfl,h⟩:=h
 exact lx_assign hs h
theorem zCn {w0:World} {rows:List (Option Nat)} {d:Option Tmp} {rt:TypeId} {pos:String} {af:Array Edge} {x:Operand} {k:Nat} (hs:s = .det fun ρ=>extrV k (ρ.headD undef)) (h : ∃ v,a.eval x=v∧(∀ w,Far rows w0 w→Have ops pres i D w → ∃ xs:Array Value,v = .tuple xs∧k<xs.size)∧LxL P ops w0 rows pres sps E (i+1) rest ss (a.put d (extrV k v)) D) :
 LxL P ops w0 rows pres sps E i ({ dst:=d,op := .extract x k,type:=rt,pos:=pos,after:=af,guard:=none }::rest) (s::ss) a D:=by
 obtain ⟨_,rfl,hc,h⟩:=h
 exact lx_extr hs hc h
theorem lx_st' {w0:World} {rows:List (Option Nat)} {rt:TypeId} {pos:String} {af:Array Edge} {x y:Operand} (j:Nat) (T:TypeId) (Z:Array Value) (hn:(P.info? T).map (·.size)=some Z.size) (hj:waitsT ops i j=true) (hZ:spAt sps j = .al T Z) (hs:s = .st j T Z.size)
 (h : ∃ vx vy,a.eval x=vx∧a.eval y=vy∧(j,alP w0.heap.size vx T Z.size)∈D∧(∀ w,Far rows w0 w→Have ops pres i D w → ∃ cs:Array Value,vy = .agg cs∧cs.size=Z.size∧cs.all (·.oneCell')=true)∧LxL P ops w0 rows pres sps E (i+1) rest ss a ((i,stP w0.heap.size vx vy T)::D)) :
 LxL P ops w0 rows pres sps E i ({ dst:=none,op := .store T x y,type:=rt,pos:=pos,after:=af,guard:=none }::rest) (s::ss) a D:=by
 obtain ⟨_,_,rfl,rfl,hD,hy,h⟩:=h
 exact lx_st j T Z.size hs hj hn ⟨Z,hZ,rfl⟩ hD hy h
theorem extr2_0 (x y:Value):extrV 0 (.tuple #[x,y])=x:=rfl
theorem extr2_1 (x y:Value):extrV 1 (.tuple #[x,y])=y:=rfl
end
theorem zBf (p:Value→Prop) (v:Value):Stab (fun _ _=>p v):=fun _ _ _ _ _ _ h=>h
def ownR (B:Nat) (e:TypeId) (size n:Nat) (xs:List Value) (v:Value) (F:Foot) (w:World):Prop:=w.ownsRow B e size v n xs ∧ ∀ k,v.ownBlock=some k→F k
theorem zCk {w w':World} {B:Nat} {e:TypeId} {size n:Nat} {v:Value} {xs:List Value} (h:w.ownsRow B e size v n xs) (hs : ∀ k,v.ownBlock=some k→w'.heap[k]?=w.heap[k]?):w'.ownsRow B e size v n xs:=by
 refine ⟨h.1,?_⟩
 rcases h.2 with hn | ⟨g,cap,cur,rfl,hb,hgg,rest⟩
 ·exact .inl hn
 ·exact .inr ⟨g,cap,cur,rfl,hb,(hs g rfl).trans hgg,rest⟩
theorem own_down {w:World} {B B':Nat} {e:TypeId} {size n:Nat} {v:Value} {xs:List Value} (h:w.ownsRow B e size v n xs) (hb:B'≤B):w.ownsRow B' e size v n xs:=by
 refine ⟨h.1,?_⟩
 rcases h.2 with hn | ⟨g,cap,cur,rfl,hg,rest⟩
 ·exact .inl hn
 ·exact .inr ⟨g,cap,cur,rfl,Nat.le_trans hb hg,rest⟩
theorem zCv (B:Nat) (e:TypeId) (size n:Nat) (xs:List Value) (v:Value):Stab (ownR B e size n xs v):=fun F F' w w' hf ha ⟨h1,h2⟩=>
 ⟨zCk h1 fun k hk=>ha.same k (World.ownsRow.lt h1 k hk).2 (h2 k hk),fun k hk=>hf k (h2 k hk)⟩
theorem zEo {B:Nat} {e:TypeId} {size n:Nat} {xs:List Value} {v:Value} {w w':World} {w0:World} {rows:List (Option Nat)} (hB:B≤w.heap.size) (h:w'.ownsRow w.heap.size e size v n xs):NewR w0 rows (ownR B e size n xs) none w v w':=fun F _ _ h3=>
 ⟨own_down h hB,fun k hk=>h3 k (World.ownsRow.lt h k hk).1 (World.ownsRow.lt h k hk).2⟩
theorem own_ne {w:World} {B B':Nat} {e e':TypeId} {size size' n n':Nat} {v v':Value} {xs xs':List Value} (h:w.ownsRow B e size v n xs) (h':w.ownsRow B' e' size' v' n' xs') (hne:e≠e') (k:Nat) (hk:v.ownBlock=some k):v'.ownBlock≠some k:=by
 intro hk'
 rcases h.2 with ⟨rfl,_⟩ | ⟨g,cap,cur,rfl,_,hg,_⟩
 ·simp [Value.ownBlock] at hk
 ·rcases h'.2 with ⟨rfl,_⟩ | ⟨g',cap',cur',rfl,_,hg',_⟩
  ·simp [Value.ownBlock] at hk'
  ·have e1:g=k:=by simpa [Value.ownBlock] using hk
   have e2:g'=k:=by simpa [Value.ownBlock] using hk'
   rw [e1] at hg
   rw [e2,hg] at hg'
   injection hg' with hg'
   injection hg' with _ ht
   exact hne ht
end
theorem and127 (c:UInt8):bits .and .u8 (c.toNat:Int) 127=((c.toNat%128:Nat):Int):=by
 have h : ∀ m:Fin 256,bits .and .u8 ((m.val:Nat):Int) 127=((m.val%128:Nat):Int):=by decide +kernel
 exact h ⟨c.toNat,c.toNat_lt⟩
theorem or_shl (N k:Nat) (c:UInt8) (hN:N<128 ^ k) (hf:N+128 ^ k*(c.toNat%128)≤18446744073709551615) :
 bits .or .u64 (N:Int) (IntKind.u64.wrap (IntKind.u64.wrap (bits .and .u8 (c.toNat:Int) 127)*2 ^ (7*k)))=((N+128 ^ k*(c.toNat%128):Nat):Int):=by
 have hp:(128:Nat) ^ k=2 ^ (7*k):=by rw [Nat.pow_mul]
 rw [hp] at hN hf ⊢
 rw [and127,IntWalk.u64_in ((c.toNat%128:Nat):Int) (by omega)]
 have h1:((c.toNat%128:Nat):Int)*2 ^ (7*k)=((2 ^ (7*k)*(c.toNat%128):Nat):Int):=by
  rw [Int.natCast_mul,Int.mul_comm];simp
 rw [h1,IntWalk.u64_in _ (by omega)]
 have h2:=u64_or_nat N (2 ^ (7*k)*(c.toNat%128)) (by omega) (by omega)
 rw [h2,Nat.or_comm,←Nat.two_pow_add_eq_or_of_lt hN,Nat.add_comm]
set_option maxRecDepth 100000 in
set_option maxHeartbeats 800000 in
theorem zC6 (l:List UInt8) (hl:l.length≤4611686018427387904) (w:World) :
 Calls Tryz.prog 132 #[.string (B l)] w fun e w'=>e = .returned (getTriple l (get l)) ∧ ∃ n,w'=w.drewN n:=by
 obtain ⟨M,hmin,hM1,hM2,hM3⟩ : ∃ M:Nat,(if (10:Int)<(l.length:Int) then (10:Int) else (l.length:Int))=(M:Int)∧M≤10∧M≤l.length∧Hid (M=10∨M=l.length):=by
  refine ⟨min l.length 10,?_,by omega,by omega,?_⟩
  ·split<;>omega
  ·show _∨_;omega
 go_enter Tryz.func132,Tryz.ntmps132
 go_wp2
 go_loop [5,11] (fun n i => ∃ k:Nat,i = .int .i64 k∧k≤M∧n = .int .u64 (val7 (l.take k))∧Hid (k≤lead l)) (fun _ i=>10-(intOf i).toNat)
 case atStart=>exact ⟨0,rfl,by omega,rfl,Nat.zero_le _⟩
 case round=>
  obtain ⟨k,rfl,h1,rfl,h3⟩:=hrel
  by_cases hk:k<M
  ·obtain ⟨c,hc⟩ : ∃ c,l[k]=c:=⟨_,rfl⟩
   have hts:=zCU l k (by omega)
   have hN:=val7_lt (l.take k)
   rw [List.length_take,Nat.min_eq_left (by omega)] at hN
   rw [hc] at hts
   by_cases h9:k=9
   ·subst h9
    by_cases hc1:1<c.toNat
    ·have hfin:Hid (get l=none):=by
      by_cases hbig:128≤c.toNat
      ·exact get_ten (lead_next h3.out (by omega) (by rw [hc];exact hbig))
      ·exact get_nine (by omega) (zDa h3.out (by omega) (by rw [hc];omega)) (by rw [hc];exact hc1)
     clear hts hN
     go_wp2
     all_goals first | (exfalso;omega) | skip
     go_ret3
     exact ⟨by rw [hfin.out];rfl,0,rfl⟩
    ·have hle:Hid (lead l=9):=zDa h3.out (by omega) (by rw [hc];omega)
     have hor0:=or_shl (val7 (l.take 9)) 9 c hN (by omega)
     rw [←hts] at hor0
     have hor:bits .or .u64 (val7 (List.take 9 l):Int) (IntKind.u64.wrap (IntKind.u64.wrap (bits .and .u8 (c.toNat:Int) 127)*9223372036854775808))=((val7 (List.take 10 l):Nat):Int):=by
      rw [show (9223372036854775808:Int)=2 ^ (7*9) from by decide]
      exact hor0
     clear hor0
     clear hts hN
     by_cases h0:c.toNat=0
     ·have hfin:Hid (get l=none):=get_zero (by omega) hle.out (by omega) (by rw [hc];exact h0)
      have h0':((c.toNat:Int)==0)=true:=by simp [h0]
      have h0h:=Lib.hid h0
      clear h0
      go_wp2
      all_goals first | (exfalso;omega) | skip
      go_ret3
      exact ⟨by rw [hfin.out];rfl,0,rfl⟩
     ·have hfin:Hid (get l=some (val7 (l.take (9+1)),9+1)):=get_yes (by omega) hle.out (by omega) (fun _=>by rw [hc];omega) (fun _=>by rw [hc];exact h0)
      have h0':((c.toNat:Int)==0)=false:=by simp;omega
      go_wp2
      all_goals first | (exfalso;omega) | skip
      go_quiet (fail)
      go_wp2
      go_ret3
      exact ⟨by rw [hfin.out];rfl,_,rfl⟩
   ·by_cases hd:128≤c.toNat
    ·have hn:Hid (k+1≤lead l):=lead_next h3.out (by omega) (by rw [hc];exact hd)
     have hor:=or_shl (val7 (l.take k)) k c hN (by
      have:128 ^ k*(c.toNat%128)≤128 ^ k*127:=Nat.mul_le_mul_left _ (by omega)
      have:128 ^ k≤128 ^ 8:=Nat.pow_le_pow_right (by omega) (by omega)
      omega)
     rw [←hts] at hor
     clear hts hN
     go_wp2
     all_goals first | (exfalso;omega) | skip
     go_round
     case rel=>exact ⟨k+1,by go_num,by omega,rfl,hn⟩
     case measure=>simp [intOf];omega
    ·have hle:Hid (lead l=k):=zDa h3.out (by omega) (by rw [hc];omega)
     have hor:=or_shl (val7 (l.take k)) k c hN (by
      have:128 ^ k*(c.toNat%128)≤128 ^ k*127:=Nat.mul_le_mul_left _ (by omega)
      have:128 ^ k≤128 ^ 8:=Nat.pow_le_pow_right (by omega) (by omega)
      omega)
     rw [←hts] at hor
     clear hts hN
     by_cases h0:0<k∧c.toNat=0
     ·obtain ⟨h0k,h0c⟩:=h0
      have hfin:Hid (get l=none):=get_zero (by omega) hle.out h0k (by rw [hc];exact h0c)
      have h0':((c.toNat:Int)==0)=true:=by simp [h0c]
      have h0h:=Lib.hid h0c
      clear h0c
      go_wp2
      all_goals first | (exfalso;omega) | skip
      go_ret3
      exact ⟨by rw [hfin.out];rfl,0,rfl⟩
     ·have hfin:Hid (get l=some (val7 (l.take (k+1)),k+1)):=get_yes (by omega) hle.out (by omega) (fun _=>by omega) (fun h=>by rw [hc];omega)
      by_cases h0k : ¬ 0<k
      ·by_cases h0c:c.toNat=0
       ·have h0':((c.toNat:Int)==0)=true:=by simp [h0c]
        have h0h:=Lib.hid h0c
        clear h0c h0
        go_wp2
        all_goals first | (exfalso;omega) | skip
        go_quiet (fail)
        go_wp2
        go_ret3
        exact ⟨by rw [hfin.out];rfl,_,rfl⟩
       ·have h0':((c.toNat:Int)==0)=false:=by simp;omega
        go_wp2
        all_goals first | (exfalso;omega) | skip
        go_quiet (fail)
        go_wp2
        go_ret3
        exact ⟨by rw [hfin.out];rfl,_,rfl⟩
      ·have h0':((c.toNat:Int)==0)=false:=by simp;omega
       go_wp2
       all_goals first | (exfalso;omega) | skip
       go_quiet (fail)
       go_wp2
       go_ret3
       exact ⟨by rw [hfin.out];rfl,_,rfl⟩
  ·have hfin:Hid (get l=none):=by
    have h3':=h3.out
    rcases hM3.out with h | h
    ·exact get_ten (by omega)
    ·exact get_end (by omega)
   go_wp2
   all_goals first | (exfalso;omega) | skip
   go_ret3
   exact ⟨by rw [hfin.out];rfl,0,rfl⟩
section
theorem zAH {l:List UInt8} {n k:Nat} (h:get l=some (n,k)):n≤18446744073709551615∧0<k∧k≤l.length:=by
 unfold get at h
 split at h
 ·rename_i hc
  simp only [Option.some.injEq,Prod.mk.injEq] at h
  obtain ⟨rfl,rfl⟩:=h
  refine ⟨get_fits hc.1 rfl hc.2.1 ?_,by omega,by omega⟩
  intro h9
  have:=hc.2.2.1
  have h1 : ¬ 1<(l.getD 9 0).toNat:=fun hh=>this ⟨h9,hh⟩
  rw [←h9,getD_lt hc.1] at h1
  omega
 ·cases h
def rd (l:List UInt8) (hv:Nat):Option (Nat×Nat×List UInt8):=
 match get l with
 | none=>none
 | some (n,k)=>
   if n%2=0 then (if n=0∨(l.drop k).length<n / 2 then none else some (n / 2,0,l.drop k))
   else match get (l.drop k) with
    | none=>none
    | some (f,m)=>if n / 2<4∨f<1∨65535<f∨hv<f then none else some (n / 2,f,(l.drop k).drop m)
section
variable {l:List UInt8} {hv n k f m:Nat}
theorem rd_plain (h:get l=some (n,k)) (h2:n%2=0) (h3:n≠0) (h4:n / 2≤(l.drop k).length):rd l hv=some (n / 2,0,l.drop k):=by
 simp only [rd,h];rw [if_pos h2,if_neg (by omega)]
theorem rd_far (h:get l=some (n,k)) (h2:n%2=1) (h3:get (l.drop k)=some (f,m)) (h4:4≤n / 2) (h5:1≤f) (h6:f≤65535) (h7:f≤hv):rd l hv=some (n / 2,f,(l.drop k).drop m):=by
 simp only [rd,h,h3];rw [if_neg (by omega),if_neg (by omega)]
end
def back : Nat→Nat→List UInt8→List UInt8
 | 0,_,out=>out
 | n+1,f,out=>back n f (out++[out.getD (out.length-f) 0])
theorem back_length (n f:Nat) (out:List UInt8):(back n f out).length=out.length+n:=by
 induction n generalizing out with
 | zero=>rfl
 | succ n ih=>rw [back,ih,List.length_append,List.length_singleton];omega
def unF : Nat→List UInt8→List UInt8→Nat→List UInt8×Nat
 | 0,_,out,_=>(out,0)
 | fu+1,s,out,most=>
   if s=[] then (out,0) else
   match rd s out.length with
   | none=>([],2)
   | some (n,f,r)=>if most-out.length<n then ([],3) else if f=0 then unF fu (r.drop n) (out++r.take n) most else unF fu r (back n f out) most
theorem unF_nil (fu:Nat) (out:List UInt8) (most:Nat):unF fu [] out most=(out,0):=by cases fu<;>simp [unF]
section
variable {fu most n f:Nat} {s out r:List UInt8}
theorem unF_bad (hs:s≠[]) (h:rd s out.length=none):unF (fu+1) s out most=([],2):=by
 rw [unF,if_neg hs];simp only [h]
theorem unF_big (hs:s≠[]) (h:rd s out.length=some (n,f,r)) (hb:most-out.length<n):unF (fu+1) s out most=([],3):=by
 rw [unF,if_neg hs];simp only [h];rw [if_pos hb]
theorem unF_plain (hs:s≠[]) (h:rd s out.length=some (n,0,r)) (hb:n≤most-out.length):unF (fu+1) s out most=unF fu (r.drop n) (out++r.take n) most:=by
 rw [unF,if_neg hs];simp only [h];rw [if_neg (by omega),if_pos trivial]
theorem unF_far (hs:s≠[]) (h:rd s out.length=some (n,f,r)) (hf:f≠0) (hb:n≤most-out.length):unF (fu+1) s out most=unF fu r (back n f out) most:=by
 rw [unF,if_neg hs];simp only [h];rw [if_neg (by omega),if_neg hf]
end
theorem rd_bounds {l:List UInt8} {hv n f:Nat} {r:List UInt8} (h:rd l hv=some (n,f,r)):n≤9223372036854775807∧r.length<l.length∧0<n∧f≤65535∧(f=0→n≤r.length)∧(f≠0→f≤hv):=by
 unfold rd at h
 split at h
 ·cases h
 ·rename_i n0 k hg
  obtain ⟨h1,h2,h3⟩:=zAH hg
  have hd:(l.drop k).length=l.length-k:=List.length_drop
  split at h
  ·split at h
   ·cases h
   ·simp only [Option.some.injEq,Prod.mk.injEq] at h
    obtain ⟨rfl,rfl,rfl⟩:=h
    exact ⟨by omega,by omega,by omega,by omega,fun _=>by omega,fun h=>by omega⟩
  ·split at h
   ·cases h
   ·rename_i f0 m hg2
    obtain ⟨h4,h5,h6⟩:=zAH hg2
    have hd2:((l.drop k).drop m).length=(l.drop k).length-m:=List.length_drop
    split at h
    ·cases h
    ·simp only [Option.some.injEq,Prod.mk.injEq] at h
     obtain ⟨rfl,rfl,rfl⟩:=h
     exact ⟨by omega,by omega,by omega,by omega,fun h=>by omega,fun _=>by omega⟩
section
variable {c:UInt8} {r:List UInt8} {most:Int}
end
end
theorem zBd {l:List UInt8} {n k:Nat} (h:get l=some (n,k)) (hl:l.length≤4611686018427387904) (w:World) :
 Calls Tryz.prog 132 #[.string (B l)] w fun e w'=>e = .returned (.tuple #[.int .u64 n, .string (B (l.drop k)), .int .i64 0]) ∧ ∃ n,w'=w.drewN n:=
 (zC6 l hl w).mono fun e w' ⟨he,hw⟩=>⟨by rw [he,h];rfl,hw⟩
theorem get_non {l:List UInt8} (h:get l=none) (hl:l.length≤4611686018427387904) (w:World) :
 Calls Tryz.prog 132 #[.string (B l)] w fun e w'=>e = .returned (.tuple #[.int .u64 0, .string (B []), .int .i64 2]) ∧ ∃ n,w'=w.drewN n:=
 (zC6 l hl w).mono fun e w' ⟨he,hw⟩=>⟨by rw [he,h];rfl,hw⟩
theorem zAt {l:List UInt8} {n k:Nat} (h:get l=some (n,k)) (hl:l.length≤4611686018427387904) (w:World) :
 Calls Tryz.prog 51 #[.string (B l)] w fun e w'=>e = .returned (.tuple #[.int .u64 n, .int .i64 k])∧w=w':=
 (zBC l hl w).mono fun e w' ⟨he,hw⟩=>⟨by rw [he,h];rfl,hw.symm⟩
theorem zCF {l:List UInt8} (h:get l=none) (hl:l.length≤4611686018427387904) (w:World) :
 Calls Tryz.prog 51 #[.string (B l)] w fun e w'=>e = .returned (.tuple #[.int .u64 0, .int .i64 0])∧w=w':=
 (zBC l hl w).mono fun e w' ⟨he,hw⟩=>⟨by rw [he,h];rfl,hw.symm⟩
section
theorem ofNat_toNat (n:Nat) (h:n<256):(UInt8.ofNat n).toNat=n:=by simp [Nat.mod_eq_of_lt h]
theorem lead_split : ∀ (i:List UInt8) (c:UInt8) (r:List UInt8),(∀ x∈i,128≤x.toNat)→c.toNat<128→lead (i++c::r)=i.length
 | [],c,r,_,hc=>by rw [List.nil_append,lead,if_neg (by omega)];rfl
 | x::i,c,r,hi,hc=>by
   rw [List.cons_append,lead,if_pos (hi x (by simp)),lead_split i c r (fun y hy=>hi y (by simp [hy])) hc]
   rfl
theorem putF_split (f:Nat) : ∀ n,Fits f n → ∃ (i:List UInt8) (c:UInt8),putF f n=i++[c]∧(∀ x∈i,128≤x.toNat)∧c.toNat<128∧i.length≤f∧val7 (putF f n)=n∧(i≠[]→c.toNat≠0)∧(i.length=f→c.toNat<2):=by
 induction f with
 | zero=>
   intro n h
   have h0:n<2:=by unfold Fits at h;omega
   refine ⟨[],UInt8.ofNat n,rfl,by simp,?_,by simp,?_,by simp,?_⟩
   ·simp;omega
   ·simp [putF,val7];omega
   ·intro _;simp;omega
 | succ f ih=>
   intro n h
   by_cases hn:n<128
   ·rw [zBu _ _ hn]
    refine ⟨[],UInt8.ofNat n,rfl,by simp,?_,by simp,?_,by simp,by simp⟩
    ·simp;omega
    ·simp [val7];omega
   ·obtain ⟨i,c,h1,h2,h3,h4,h5,h6,h7⟩:=ih (n / 128) h.next
    rw [zDm f n (by omega)]
    refine ⟨UInt8.ofNat (128+n%128)::i,c,by rw [h1];rfl,?_,h3,by simpa using h4,?_,?_,?_⟩
    ·intro x hx
     rcases List.mem_cons.1 hx with rfl | hx
     ·rw [ofNat_toNat _ (by omega)];omega
     ·exact h2 x hx
    ·rw [val7,h5,ofNat_toNat _ (by omega)];omega
    ·intro _
     by_cases hi:i=[]
     ·subst hi
      intro hc
      rw [h1] at h5
      simp [val7] at h5
      omega
     ·exact h6 hi
    ·intro hl
     exact h7 (by simpa using hl)
theorem get_put (n:Nat) (h:n≤18446744073709551615) (r:List UInt8):get (put n++r)=some (n,(put n).length):=by
 obtain ⟨i,c,h1,h2,h3,h4,h5,h6,h7⟩:=putF_split 9 n (Fits.of64 h)
 have hp:put n=i++[c]:=h1
 have hl:lead (put n++r)=i.length:=by rw [hp,List.append_assoc];exact lead_split i c r h2 h3
 have hlen:(put n).length=i.length+1:=by rw [hp];simp
 have hat:(put n++r)[i.length]'(by rw [List.length_append];omega)=c:=by simp [hp]
 have ht:(put n++r).take (i.length+1)=put n:=by rw [←hlen,List.take_left]
 rw [get_yes (e:=i.length) (by rw [List.length_append];omega) hl (by omega) (fun h9=>by rw [hat];have:=h7 h9;omega) (fun h0=>by rw [hat];exact h6 (by intro hi;rw [hi] at h0;simp at h0)),ht,hlen]
 exact congrArg (fun v=>some (v,i.length+1)) h5
theorem zDk (n:Nat) (h:n<128):(put n).length=1:=by unfold put;rw [zBu _ _ h];rfl
theorem put_two (n:Nat) (h:n<16384):(put n).length≤2:=by
 unfold put
 by_cases h1:n<128
 ·rw [zBu _ _ h1];simp
 ·rw [zDm 8 n (by omega),zBu _ _ (by omega)];simp
def un (s out:List UInt8) (most:Nat):List UInt8×Nat:=unF s.length s out most
theorem unF_fuel : ∀ (fu:Nat) (s out:List UInt8) (most:Nat),s.length≤fu→unF fu s out most=un s out most:=by
 intro fu
 induction fu using Nat.strongRecOn with
 | _ fu ih=>
   intro s out most hs
   cases s with
   | nil=>rw [unF_nil,un,unF_nil]
   | cons c r=>
     obtain ⟨g,rfl⟩ : ∃ g,fu=g+1:=⟨fu-1,by simp at hs;omega⟩
     unfold un
     rw [List.length_cons]
     have hne:c::r≠[]:=by simp
     rw [List.length_cons] at hs
     rcases hrd:rd (c::r) out.length with _ | ⟨n,f,t⟩
     ·rw [unF_bad hne hrd,unF_bad hne hrd]
     ·obtain ⟨_,q2,_⟩:=rd_bounds hrd
      rw [List.length_cons] at q2
      by_cases hb:most-out.length<n
      ·rw [unF_big hne hrd hb,unF_big hne hrd hb]
      ·by_cases hf:f=0
       ·subst hf
        have hd:(t.drop n).length≤t.length:=by rw [List.length_drop];omega
        rw [unF_plain hne hrd (by omega),unF_plain hne hrd (by omega),ih g (by omega) _ _ _ (by omega)]
        by_cases hg:r.length=g
        ·rw [hg,ih g (by omega) _ _ _ (by omega)]
        ·rw [ih r.length (by omega) _ _ _ (by omega)]
       ·rw [unF_far hne hrd hf (by omega),unF_far hne hrd hf (by omega),ih g (by omega) _ _ _ (by omega)]
        by_cases hg:r.length=g
        ·rw [hg,ih g (by omega) _ _ _ (by omega)]
        ·rw [ih r.length (by omega) _ _ _ (by omega)]
section
variable {most n f:Nat} {s out r:List UInt8}
theorem un_big (hs:s≠[]) (h:rd s out.length=some (n,f,r)) (hb:most-out.length<n):un s out most=([],3):=by
 obtain ⟨c,t,rfl⟩ : ∃ c t,s=c::t:=by cases s with
  | nil=>exact absurd rfl hs
  | cons c t=>exact ⟨c,t,rfl⟩
 exact unF_big hs h hb
theorem un_plain (hs:s≠[]) (h:rd s out.length=some (n,0,r)) (hb:n≤most-out.length):un s out most=un (r.drop n) (out++r.take n) most:=by
 obtain ⟨c,t,rfl⟩ : ∃ c t,s=c::t:=by cases s with
  | nil=>exact absurd rfl hs
  | cons c t=>exact ⟨c,t,rfl⟩
 obtain ⟨_,q2,_⟩:=rd_bounds h
 rw [List.length_cons] at q2
 unfold un
 rw [List.length_cons,unF_plain hs h hb]
 exact unF_fuel _ _ _ _ (by rw [List.length_drop];omega)
theorem un_far (hs:s≠[]) (h:rd s out.length=some (n,f,r)) (hf:f≠0) (hb:n≤most-out.length):un s out most=un r (back n f out) most:=by
 obtain ⟨c,t,rfl⟩ : ∃ c t,s=c::t:=by cases s with
  | nil=>exact absurd rfl hs
  | cons c t=>exact ⟨c,t,rfl⟩
 obtain ⟨_,q2,_⟩:=rd_bounds h
 rw [List.length_cons] at q2
 unfold un
 rw [List.length_cons,unF_far hs h hf hb]
 exact unF_fuel _ _ _ _ (by omega)
end
def Leads (e o t:List UInt8):Prop:=
 o.length≤t.length∧(∀ r most,t.length≤most→un (e++r) o most=un r t most) ∧ ∀ r most,o.length≤most→most<t.length→un (e++r) o most=([],3)
theorem Leads.refl (o:List UInt8):Leads [] o o:=⟨Nat.le_refl _,fun r most _=>rfl,fun r most h1 h2=>absurd h2 (by omega)⟩
theorem Leads.trans {e e' o t t':List UInt8} (h:Leads e o t) (h':Leads e' t t'):Leads (e++e') o t':=by
 refine ⟨Nat.le_trans h.1 h'.1,fun r most hm=>?_,fun r most h1 h2=>?_⟩
 ·rw [List.append_assoc,h.2.1 _ _ (Nat.le_trans h'.1 hm),h'.2.1 _ _ hm]
 ·rw [List.append_assoc]
  rcases Nat.lt_or_ge most t.length with hlt | hge
  ·exact h.2.2 _ _ h1 hlt
  ·rw [h.2.1 _ _ hge,h'.2.2 _ _ hge h2]
theorem put_ne (n:Nat) (r:List UInt8):put n++r≠[]:=by
 intro h
 have h1:=congrArg List.length h
 have h2:0<(put n).length:=putF_pos 9 n
 rw [List.length_append,List.length_nil] at h1
 omega
theorem Leads.plain (t o:List UInt8) (h0:t≠[]) (h1:2*t.length≤18446744073709551615):Leads (put (2*t.length)++t) o (o++t):=by
 have hpos:0<t.length:=by
  cases t with
  | nil=>exact absurd rfl h0
  | cons c r=>simp
 have hrd : ∀ r,rd (put (2*t.length)++t++r) o.length=some (t.length,0,t++r):=by
  intro r
  have hg:=get_put (2*t.length) h1 (t++r)
  rw [←List.append_assoc] at hg
  have hd:(put (2*t.length)++t++r).drop (put (2*t.length)).length=t++r:=by rw [List.append_assoc,List.drop_left]
  rw [rd_plain hg (by omega) (by omega) (by rw [hd,List.length_append];omega),hd]
  congr 2
  omega
 have hne : ∀ r,put (2*t.length)++t++r≠[]:=fun r=>by rw [List.append_assoc];exact put_ne _ _
 refine ⟨by rw [List.length_append];omega,fun r most hm=>?_,fun r most hm h2=>?_⟩
 ·rw [List.length_append] at hm
  rw [un_plain (hne r) (hrd r) (by omega),List.drop_left,List.take_left]
 ·rw [List.length_append] at h2
  exact un_big (hne r) (hrd r) (by omega)
theorem Leads.far (n f:Nat) (o:List UInt8) (h0:4≤n) (h1:2*n+1≤18446744073709551615) (h2:1≤f) (h3:f≤65535) (h4:f≤o.length):Leads (put (2*n+1)++put f) o (back n f o):=by
 have hrd : ∀ r,rd (put (2*n+1)++put f++r) o.length=some (n,f,r):=by
  intro r
  have hg:=get_put (2*n+1) h1 (put f++r)
  rw [←List.append_assoc] at hg
  have hd:(put (2*n+1)++put f++r).drop (put (2*n+1)).length=put f++r:=by rw [List.append_assoc,List.drop_left]
  have hg2:=get_put f (by omega) r
  rw [rd_far hg (by omega) (by rw [hd];exact hg2) (by omega) h2 h3 h4,hd,List.drop_left]
  congr 2
  omega
 have hne : ∀ r,put (2*n+1)++put f++r≠[]:=fun r=>by rw [List.append_assoc];exact put_ne _ _
 have hlen:=back_length n f o
 refine ⟨by omega,fun r most hm=>?_,fun r most hm h5=>?_⟩
 ·rw [un_far (hne r) (hrd r) (by omega) (by omega)]
 ·exact un_big (hne r) (hrd r) (by omega)
theorem back_alike (s:List UInt8) (a i:Nat) (ha:a<i) : ∀ n,i+n≤s.length→(∀ j (h:i+j<s.length),j<n→s[a+j]'(by omega)=s[i+j])→back n (i-a) (s.take i)=s.take (i+n):=by
 have key : ∀ n k,i+k+n≤s.length→(∀ j (h:i+j<s.length),j<k+n→s[a+j]'(by omega)=s[i+j])→back n (i-a) (s.take (i+k))=s.take (i+k+n):=by
  intro n
  induction n with
  | zero=>intro k _ _;rfl
  | succ n ih=>
    intro k hk hj
    have hl:(s.take (i+k)).length=i+k:=by rw [List.length_take];omega
    have hx:(s.take (i+k)).getD ((s.take (i+k)).length-(i-a)) 0=s[i+k]:=by
     rw [hl,show i+k-(i-a)=a+k from by omega,getD_lt (by omega),List.getElem_take]
     exact hj k (by omega) (by omega)
    rw [back,hx,←List.take_succ_eq_append_getElem (by omega)]
    have:=ih (k+1) (by omega) (fun j h hjn=>hj j h (by omega))
    rw [show i+k+(n+1)=i+(k+1)+n from by omega]
    exact this
 intro n hn hj
 have:=key n 0 (by omega) (fun j h hjn=>hj j h (by omega))
 simpa using this
end
end Go.Proofs.YtodebknbchaccaaGreatDoor
namespace Go.Proofs.YtodebknbchaccaaGreatDoor
open Go.RowKit Go.Maps
def key4 (a b c d:UInt8):Nat:=a.toNat+256*b.toNat+65536*c.toNat+16777216*d.toNat
theorem key4_lt (a b c d:UInt8):key4 a b c d<4294967296:=by
 have:=a.toNat_lt;have:=b.toNat_lt;have:=c.toNat_lt;have:=d.toNat_lt
 unfold key4;omega
theorem key4_inj {a b c d a' b' c' d':UInt8} (h:key4 a b c d=key4 a' b' c' d'):a=a'∧b=b'∧c=c'∧d=d':=by
 have:=a.toNat_lt;have:=b.toNat_lt;have:=c.toNat_lt;have:=d.toNat_lt
 have:=a'.toNat_lt;have:=b'.toNat_lt;have:=c'.toNat_lt;have:=d'.toNat_lt
 unfold key4 at h
 exact ⟨UInt8.toNat_inj.1 (by omega),UInt8.toNat_inj.1 (by omega),UInt8.toNat_inj.1 (by omega),UInt8.toNat_inj.1 (by omega)⟩
def keyAt (s:List UInt8) (i:Nat):Nat:=key4 (s.getD i 0) (s.getD (i+1) 0) (s.getD (i+2) 0) (s.getD (i+3) 0)
theorem keyAt_lt (s:List UInt8) (i:Nat):keyAt s i<4294967296:=key4_lt _ _ _ _
theorem keyAt_alike {s:List UInt8} {a i:Nat} (h:keyAt s a=keyAt s i) {j:Nat} (hj:j<4):s.getD (a+j) 0=s.getD (i+j) 0:=by
 obtain ⟨h0,h1,h2,h3⟩:=key4_inj h
 match j,hj with
 | 0,_=>exact h0
 | 1,_=>exact h1
 | 2,_=>exact h2
 | 3,_=>exact h3
abbrev kl (k:Nat):Lit := .int .u32 k
abbrev vl (i:Nat):DataW Unit := .lit (.int .i64 i)
theorem kl_key (k:Nat):WideAt.IsKeyLit (kl k):=trivial
theorem kl_ne {a b:Nat} (h:a≠b):kl a≠kl b:=by
 intro hh
 injection hh with _ hh
 exact h (by omega)
structure MapOk (s:List UInt8) (i:Nat) (D:DataW Unit):Prop where
 isMap:IsMap D
 told : ∀ k:Nat,Maps.has D (kl k)=true → ∃ a:Nat,D.atKey (kl k) (.lit (.int .i64 0))=vl a∧a+4≤s.length∧a<i∧keyAt s a=k
 first:0<i→Maps.has D (kl (keyAt s 0))=true
theorem MapOk.start (s:List UInt8):MapOk s 0 (.map []):=⟨isMap_empty,fun k h=>by simp [has_eq] at h,fun h=>absurd h (by omega)⟩
theorem MapOk.next {s:List UInt8} {i i':Nat} {D:DataW Unit} (h:MapOk s i D) (hi:i+4≤s.length) (hi':i<i'):MapOk s i' (D.put (kl (keyAt s i)) (vl i)):=by
 refine ⟨h.isMap.put _ _,fun k hk=>?_,fun _=>?_⟩
 ·by_cases he:k=keyAt s i
  ·subst he
   exact ⟨i,atKey_put_same h.isMap (kl_key _) _ _,hi,hi',rfl⟩
  ·rw [has_put_other (kl_ne he)] at hk
   obtain ⟨a,h1,h2,h3,h4⟩:=h.told k hk
   exact ⟨a,by rw [atKey_put_other (kl_ne he)];exact h1,h2,by omega,h4⟩
 ·by_cases he:keyAt s 0=keyAt s i
  ·rw [he];exact has_put_same h.isMap (kl_key _) _
  ·rw [has_put_other (kl_ne he)]
   refine h.first ?_
   rcases Nat.eq_zero_or_pos i with h0 | h0
   ·subst h0;exact absurd rfl he
   ·exact h0
def RunOk (s e:List UInt8) (fr i:Nat):Prop := ∀ (c:UInt8) (n:Nat),s=List.replicate n c→n≤4096→(i≤1∧e=[]∧fr=0)∨(i=n∧fr=n∧e.length≤5)
theorem RunOk.start (s:List UInt8):RunOk s [] 0 0:=fun _ _ _ _ => .inl ⟨by omega,rfl,rfl⟩
theorem zEc {n i:Nat} {c:UInt8} (h:i<n):(List.replicate n c).getD i 0=c:=by
 rw [getD_lt (by simpa using h)];simp
theorem keyAt_rep {n i:Nat} {c:UInt8} (h:i+4≤n):keyAt (List.replicate n c) i=key4 c c c c:=by
 unfold keyAt
 rw [zEc (by omega),zEc (by omega),zEc (by omega),zEc (by omega)]
theorem RunOk.miss {s e:List UInt8} {fr i:Nat} {D:DataW Unit} (h:RunOk s e fr i) (hm:MapOk s i D) (hi:i+4≤s.length) (hno:Maps.has D (kl (keyAt s i))=false):RunOk s e fr (i+1):=by
 intro c n hs hn
 have hl:s.length=n:=by rw [hs];simp
 rcases h c n hs hn with ⟨h1,h2,h3⟩ | ⟨h1,h2,h3⟩
 ·rcases Nat.eq_zero_or_pos i with h0 | h0
  ·exact .inl ⟨by omega,h2,h3⟩
  ·exfalso
   have:=hm.first h0
   rw [hs,keyAt_rep (by omega),←keyAt_rep (n:=n) (i:=i) (c:=c) (by omega),←hs,hno] at this
   cases this
 ·omega
theorem RunOk.far {s e:List UInt8} {fr i a:Nat} (h:RunOk s e fr i) (hi:i+4≤s.length) (ha:a<i) (hf:65535<i-a):RunOk s e fr (i+1):=by
 intro c n hs hn
 have hl:s.length=n:=by rw [hs];simp
 rcases h c n hs hn with ⟨h1,h2,h3⟩ | ⟨h1,h2,h3⟩<;>omega
theorem RunOk.hit {s e:List UInt8} {fr i a n:Nat} (h:RunOk s e fr i) (hi:i+4≤s.length) (ha:a<i) (hn:i+n≤s.length) (hmax:(h:i+n<s.length)→s[a+n]'(by omega)≠s[i+n])
 (p:List UInt8) (hp:fr=0→i=1→p.length≤2):RunOk s (e++(p++(put (2*n+1)++put (i-a)))) (i+n) (i+n):=by
 intro c m hs hm
 have hl:s.length=m:=by rw [hs];simp
 rcases h c m hs hm with ⟨h1,h2,h3⟩ | ⟨h1,h2,h3⟩
 ·have he:i=1:=by omega
  have hend:i+n=m:=by
   rcases Nat.lt_or_ge (i+n) m with hlt | hge
   ·exfalso
    refine hmax (by omega) ?_
    simp [hs]
   ·omega
  refine .inr ⟨hend,hend,?_⟩
  have hp':=hp h3 he
  have q1:=put_two (2*n+1) (by omega)
  have q2:=zDk (i-a) (by omega)
  simp only [h2,List.nil_append,List.length_append]
  omega
 ·omega
theorem alike_four {s:List UInt8} {a i n:Nat} (hi:i+4≤s.length) (ha:a<i) (hk:keyAt s a=keyAt s i) (hmax:(h:i+n<s.length)→s[a+n]'(by omega)≠s[i+n]):4≤n:=by
 rcases Nat.lt_or_ge n 4 with hlt | hge
 ·exfalso
  refine hmax (by omega) ?_
  have:=keyAt_alike hk hlt
  rwa [getD_lt (by omega),getD_lt (by omega)] at this
 ·exact hge
structure PackOk (s p:List UInt8):Prop where
 most:p.length≤s.length+1
 way:p=0::s ∨ ∃ e,p=1::e∧Leads e [] s
 run : ∀ (c:UInt8) (n:Nat),s=List.replicate n c→n≤4096→p.length≤8
end Go.Proofs.YtodebknbchaccaaGreatDoor
namespace Go.Proofs.YtodebknbchaccaaGreatDoor
open Go.RowKit
section
open Go.Maps
theorem u32_bits (a b c d:UInt8):bits .or .u32 (bits .or .u32 (bits .or .u32 ((a.toNat:Int)%4294967296) ((b.toNat:Int)%4294967296*256%4294967296)) ((c.toNat:Int)%4294967296*65536%4294967296)) ((d.toNat:Int)%4294967296*16777216%4294967296)=((key4 a b c d:Nat):Int):=by
 have ha:=a.toNat_lt;have hb:=b.toNat_lt;have hc:=c.toNat_lt;have hd:=d.toNat_lt
 have e0:(a.toNat:Int)%4294967296=((a.toNat:Nat):Int):=by omega
 have e1:(b.toNat:Int)%4294967296*256%4294967296=((2 ^ 8*b.toNat:Nat):Int):=by omega
 have e2:(c.toNat:Int)%4294967296*65536%4294967296=((2 ^ 16*c.toNat:Nat):Int):=by omega
 have e3:(d.toNat:Int)%4294967296*16777216%4294967296=((2 ^ 24*d.toNat:Nat):Int):=by omega
 rw [e0,e1,e2,e3,u32_or_nat _ _ (by omega) (by omega)]
 rw [Nat.or_comm,←Nat.two_pow_add_eq_or_of_lt (by omega)]
 rw [u32_or_nat _ _ (by omega) (by omega),Nat.or_comm,←Nat.two_pow_add_eq_or_of_lt (by omega)]
 rw [u32_or_nat _ _ (by omega) (by omega),Nat.or_comm,←Nat.two_pow_add_eq_or_of_lt (by omega)]
 congr 1
 unfold key4
 omega
def plainOf (s:List UInt8):List UInt8:=if s=[] then [] else put (2*s.length)++s
theorem zDQ (x:Int) (h0:0≤x) (h1:x≤18446744073709551615) (w:World) :
 Calls Tryz.prog 61 #[.int .u64 x] w fun e w'=>e = .returned (.string (B (put x.toNat)))∧Below w.heap.size w w':=by
 obtain ⟨n,rfl⟩:=Int.eq_ofNat_of_zero_le h0
 exact zCw n (by omega) w
end
structure StepL where
 place:Nat
 n:Nat
 text:Txt
def stepC (x:StepL):List Value:=[.int .i64 x.place, .int .i64 x.n, .string (B x.text)]
theorem stepK (l:List StepL) : ∀ x∈l,(stepC x).length=3:=fun _ _=>rfl
abbrev Steps (w:World) (v:Value) (l:List StepL):Prop:=SliceAt w 3 stepC v l
abbrev zCK (w:World) (b:Nat) (v:Value) (l:List StepL):Prop:=w.ownsRow b 197 3 v l.length (rowsOf stepC l)
theorem Tryz.stepTy : SliceTy Tryz.prog 195 197 (.agg (stepC ⟨0,0,[]⟩).toArray) 3 32:=⟨Tryz.underlying195,info_parts (by kernel_rfl),by kernel_rfl,by omega⟩
theorem built_stepN (n:Nat):Tryz.prog.built 197 [(1, .int .i64 n)]=some (stepC ⟨0,n,[]⟩).toArray:=by kernel_rfl
theorem built_stepT (t:Txt):Tryz.prog.built 197 [(2, .string (B t))]=some (stepC ⟨0,0,t⟩).toArray:=by kernel_rfl
theorem stepC_one (x:StepL) : ∀ u∈stepC x,u.oneCell'=true:=by
 intro u hu
 simp only [stepC,List.mem_cons,List.not_mem_nil,or_false] at hu
 rcases hu with rfl | rfl | rfl<;>rfl
def stepB (l:List StepL):Nat:=(l.map fun x=>20+x.text.length).sum
theorem stepB_more {l:List StepL} {k:Nat} {x:StepL} (h:l[k]?=some x):stepB (l.take (k+1))=stepB (l.take k)+(20+x.text.length):=by
 unfold stepB
 rw [List.take_add_one,h,List.map_append,List.sum_append]
 simp
theorem stepB_app (l:List StepL) (x:StepL):stepB (l++[x])=stepB l+(20+x.text.length):=by
 unfold stepB
 rw [List.map_append,List.sum_append]
 simp
structure StepOk (x:StepL):Prop where
 place:x.place≤1000000
 n:x.n≤1000000
 text:x.text.length≤1000000
def TextLe (n:Nat) (e:Ending):Prop := ∃ d:Txt,e = .returned (.string (B d))∧d.length≤n
set_option maxRecDepth 100000 in
set_option maxHeartbeats 4000000 in
theorem delta06_calls (nb nt:Nat) (hnb:nb≤1000000) (hnt:nt≤1000000) (l:List StepL) (hok : ∀ x∈l,StepOk x) (hl:l.length≤100) (va:Value) (w:World) (hva:Steps w va l) :
 Calls Tryz.prog 104 #[.int .i64 nb, .int .i64 nt,va] w fun e w'=>TextLe (20+stepB l) e∧Below w.heap.size w w':=by
 have p1:=zAn nb
 have p2:=zAn nt
 obtain ⟨A,capa,rfl,ha1,ha2,hata⟩:=hva
 have hfin:l.take l.length=l:=List.take_length
 go_enter Tryz.func104,Tryz.ntmps104
 go_wp2_with (first
  | ((with_reducible refine (zAX nb (by omega) _).mono ?_);rintro e w1 ⟨rfl,hb1⟩)
  | ((with_reducible refine (zAX nt (by omega) _).mono ?_);rintro e w2 ⟨rfl,hb2⟩
     have b2:=bthen hb1 hb1.size hb2))
 all_goals try (exfalso;omega)
 go_loopg [7,8] l.length (fun f v7 v8 wr => ∃ (k:Nat) (o:Txt),v8 = .int .i64 k∧v7 = .string (B o)∧k+f=l.length∧o.length≤20+stepB (l.take k)∧o.length≤20+2000000*k∧Below w.heap.size w wr)
 case atStart=>exact ⟨0,put nb++put nt,rfl,rfl,by omega,by rw [List.length_append];omega,by rw [List.length_append];omega,b2⟩
 case round=>
  obtain ⟨k,o,rfl,rfl,hkf,hob,hob2,hbel⟩:=hrel
  have hbs:=hbel.size
  clear b2
  cases gk with
  | zero=>
    obtain rfl:k=l.length:=by omega
    rw [hfin] at hob
    clear hata
    go_wp2_with (fail)
    all_goals try (exfalso;omega)
    go_ret
    exact ⟨⟨o,rfl,hob⟩,hbel⟩
  | succ f=>
    have hki:(k:Int)<(l.length:Int):=by omega
    obtain ⟨ga,oa,rfl,hga,hca⟩:=hata (by omega)
    obtain ⟨x,hx⟩ : ∃ x,l[k]?=some x:=⟨_,List.getElem?_eq_getElem (by omega)⟩
    obtain ⟨x1,x2,x3⟩:=hok x (List.mem_of_getElem? hx)
    have hmore:=stepB_more hx
    have hr:=fun W (hW:Below wr.heap.size wr W)=>zAb (hca k x hx) hga (bthen hbel hbs hW)
    have c0 : ∀ W,Below wr.heap.size wr W→W.cell? ⟨ga,oa+k*3,none⟩=some (.int .i64 x.place):=fun W hW=>by have:=hr W hW 0 _ rfl;rwa [Nat.add_zero] at this
    have c1 : ∀ W,Below wr.heap.size wr W→W.cell? ⟨ga,oa+k*3+1,none⟩=some (.int .i64 x.n):=fun W hW=>hr W hW 1 _ rfl
    have c2 : ∀ W,Below wr.heap.size wr W→W.cell? ⟨ga,oa+k*3+2,none⟩=some (.string (B x.text)):=fun W hW=>hr W hW 2 _ rfl
    have c20:=c2 wr (Below.refl _ _)
    clear hx hca hata hr
    by_cases ht:x.text=[]
    ·have hte:x.text.isEmpty=true:=by simp [ht]
     have hte2:(x.text==[])=true:=by simp [ht]
     have e1:=zAn (2*(x.n%100000)+1)
     have e2:=zAn x.place
     have et:(x.n:Int).tmod 100000=((x.n%100000:Nat):Int):=rfl
     have en:IntKind.u64.wrap (IntKind.i64.wrap (IntKind.i64.wrap (2*(x.n:Int).tmod 100000)+1))=((2*(x.n%100000)+1:Nat):Int):=by
      rw [et,IntWalk.i64_in (2*((x.n%100000:Nat):Int)) (by omega),IntWalk.i64_in _ (by omega),IntWalk.u64_in _ (by omega)];omega
     have ep:IntKind.u64.wrap (x.place:Int)=(x.place:Int):=by rw [IntWalk.u64_in _ (by omega)]
     have r1:=fun W=>zAX (2*(x.n%100000)+1) (by omega) W
     have r2:=fun W=>zAX x.place (by omega) W
     have r3:=fun W=>(by rw [ep];exact r2 W:Calls Tryz.prog 44 #[.int .u64 (IntKind.u64.wrap (x.place:Int))] W fun e w'=>e = .returned (.string (B (put x.place)))∧Below W.heap.size W w')
     simp only [←en] at r1
     generalize put (2*(x.n%100000)+1)=P1 at *
     generalize put x.place=P2 at *
     have f1 : ¬ 9223372036854775807<o.length+P1.length:=by omega
     have f2 : ¬ 9223372036854775807<o.length+P1.length+P2.length:=by omega
     clear ht en ep et
     go_upto_region 7 with (fail)
     refine zAw 21 (by kernel_rfl) (by kernel_rfl) (by kernel_rfl) (by kernel_rfl) ?_
     simp only [exSp]
     iterate 21 apply Exists.intro
     repeat
      first
       | ((with_reducible apply lx0_ex)
          ·(go_simp;done)
          apply Exists.intro
          apply And.intro
          ·apply Eq.refl
          apply And.intro
          ·intro W hW hD
           have q0:=c0 W hW
           have q1:=c1 W hW
           have q2:=r1 W
           have q3:=r2 W
           have q4:=r3 W
           go_simp
           first
            | rfl
            | (with_reducible exact q2)
            | (with_reducible exact q3)
            | (with_reducible exact q4)
          simp only [Act.put,zA,zB,zC])
       | ((with_reducible apply zAZ)
          ·(first | rfl | (go_simp;done))
          ·apply Eq.refl
          simp only [Act.put,zA,zB,zC])
     refine lx0_nil ?_ fun w5 hW5 hD5=>?_
     ·exact List.nodup_nil
     clear c0 c1 c2 r1 r2 r3 hD5
     go_wp2_with (fail)
     all_goals try (exfalso;omega)
     go_roundg f
     case rel=>exact ⟨k+1,o++(P1++P2),by go_num,by simp,by omega,by rw [hmore];simp only [List.length_append];omega,by simp only [List.length_append];omega,bthen hbel hbs hW5⟩
     case measure=>omega
    ·have hte:x.text.isEmpty=false:=by simp [ht]
     have hte2:(x.text==[])=false:=by simp [ht]
     have e1:=zAn (2*x.text.length)
     have r1:=fun W=>zAX (2*x.text.length) (by omega) W
     have en:IntKind.u64.wrap (IntKind.i64.wrap (2*(x.text.length:Int)))=((2*x.text.length:Nat):Int):=by rw [IntWalk.i64_in _ (by omega),IntWalk.u64_in _ (by omega)];omega
     simp only [←en] at r1
     generalize put (2*x.text.length)=P1 at *
     have f1 : ¬ 9223372036854775807<o.length+P1.length:=by omega
     have f2 : ¬ 9223372036854775807<o.length+P1.length+x.text.length:=by omega
     clear ht en
     go_upto_region 6 with (fail)
     refine zAw 18 (by kernel_rfl) (by kernel_rfl) (by kernel_rfl) (by kernel_rfl) ?_
     simp only [exSp]
     iterate 18 apply Exists.intro
     repeat
      first
       | ((with_reducible apply lx0_ex)
          ·(go_simp;done)
          apply Exists.intro
          apply And.intro
          ·apply Eq.refl
          apply And.intro
          ·intro W hW hD
           have q0:=c2 W hW
           have q2:=r1 W
           go_simp
           first
            | rfl
            | (with_reducible exact q2)
          simp only [Act.put,zA,zB,zC])
       | ((with_reducible apply zAZ)
          ·(first | rfl | (go_simp;done))
          ·apply Eq.refl
          simp only [Act.put,zA,zB,zC])
     refine lx0_nil ?_ fun w5 hW5 hD5=>?_
     ·exact List.nodup_nil
     clear c0 c1 c2 r1 hD5
     go_wp2_with (fail)
     all_goals try (exfalso;omega)
     go_roundg f
     case rel=>exact ⟨k+1,o++(P1++x.text),by go_num,by simp,by omega,by rw [hmore];simp only [List.length_append];omega,by simp only [List.length_append];omega,bthen hbel hbs hW5⟩
     case measure=>omega
end Go.Proofs.YtodebknbchaccaaGreatDoor
