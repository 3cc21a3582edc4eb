/- Texts of this claim, laid together: Stage, InvA, Go, GoW, GoA, IdIn. -/
import Derived.Test.YtbhdfaadedlcfaaGreatDoorMa
namespace Go.Proofs.YtbhdfaadedlcfaaGreatDoor
open Go.RowKit
section
def Stage (ap st:Nat) (P1 P2 P3:World→Prop) (listed:Array Bool) (w:World):Prop:=
 if listed.getD st false=true then P3 w else if listed.getD ap false=true then P2 w else P1 w
section
variable {ap st i n:Nat} {P1 P2 P3:World→Prop} {listed:Array Bool} {w w':World}
theorem zAG {l:Array Bool} {i j:Nat} (h:i≠j):(l.setIfInBounds i true).getD j false=l.getD j false:=by
 simp only [Array.getD_eq_getD_getElem?,Array.getElem?_setIfInBounds]
 rw [if_neg h]
theorem zDt {l:Array Bool} {i:Nat} (h:i<l.size):(l.setIfInBounds i true).getD i false=true:=by
 simp [Array.getD_eq_getD_getElem?,Array.getElem?_setIfInBounds,h]
theorem zA8 (n i:Nat):(Array.replicate n false).getD i false=false:=by
 simp only [Array.getD_eq_getD_getElem?,Array.getElem?_replicate]
 split<;>rfl
theorem Stage.same (h:Stage ap st P1 P2 P3 listed w) (h1:i≠ap) (h2:i≠st):Stage ap st P1 P2 P3 (listed.setIfInBounds i true) w:=by
 unfold Stage at *
 rwa [zAG h1,zAG h2]
theorem Stage.start (h:P1 w):Stage ap st P1 P2 P3 (Array.replicate n false) w:=by
 unfold Stage
 rw [zA8,zA8,if_neg (by simp),if_neg (by simp)]
 exact h
theorem Stage.one (h:Stage ap st P1 P2 P3 listed w) (ha:listed.getD ap false=false) (hs:listed.getD st false=false):P1 w:=by
 unfold Stage at h
 rwa [ha,hs,if_neg (by simp),if_neg (by simp)] at h
theorem Stage.two (h:Stage ap st P1 P2 P3 listed w) (ha:listed.getD ap false=true) (hs:listed.getD st false=false):P2 w:=by
 unfold Stage at h
 rwa [ha,hs,if_neg (by simp),if_pos rfl] at h
theorem Stage.three (h:Stage ap st P1 P2 P3 listed w) (hs:listed.getD st false=true):P3 w:=by
 unfold Stage at h
 rwa [hs,if_pos rfl] at h
theorem Stage.to1 (h:P1 w) (ha:listed.getD ap false=false) (hs:listed.getD st false=false) (h1:i≠ap) (h2:i≠st):Stage ap st P1 P2 P3 (listed.setIfInBounds i true) w:=by
 unfold Stage
 rw [zAG h1,zAG h2,ha,hs,if_neg (by simp),if_neg (by simp)]
 exact h
theorem Stage.to2 (h:P2 w) (hs:listed.getD st false=false) (hi:ap<listed.size) (hne:ap≠st):Stage ap st P1 P2 P3 (listed.setIfInBounds ap true) w:=by
 unfold Stage
 rw [zAG hne,zDt hi,hs,if_neg (by simp),if_pos rfl]
 exact h
theorem Stage.to3 (h:P3 w) (hi:st<listed.size):Stage ap st P1 P2 P3 (listed.setIfInBounds st true) w:=by
 unfold Stage
 rw [zDt hi,if_pos rfl]
 exact h
end
def StR (V:Nat→Value) (li ap:Nat) (L Q:Value→World→Prop) (i:Nat) (v:Value) (w:World):Prop:=if i=li then L v w else if i=ap then Q v w else v=V i
section
variable {V:Nat→Value} {li ap i:Nat} {L Q:Value→World→Prop} {v:Value} {w w':World}
theorem StR.at_ (h:StR V li ap L Q i v w) (h1:i≠li) (h2:i≠ap):v=V i:=by
 unfold StR at h
 rwa [if_neg h1,if_neg h2] at h
theorem StR.mk (h1:i≠li) (h2:i≠ap) (h:v=V i):StR V li ap L Q i v w:=by
 unfold StR
 rwa [if_neg h1,if_neg h2]
theorem StR.lit (h:StR V li ap L Q li v w):L v w:=by
 unfold StR at h
 rwa [if_pos rfl] at h
theorem StR.mkLit (h:L v w):StR V li ap L Q li v w:=by
 unfold StR
 rwa [if_pos rfl]
theorem StR.app (h:StR V li ap L Q ap v w) (hne:ap≠li):Q v w:=by
 unfold StR at h
 rwa [if_neg hne,if_pos rfl] at h
theorem StR.mkApp (h:Q v w) (hne:ap≠li):StR V li ap L Q ap v w:=by
 unfold StR
 rwa [if_neg hne,if_pos rfl]
theorem StR.keepL (hL : ∀ v,L v w→L v w') (hne:i≠ap) (h:StR V li ap L Q i v w):StR V li ap L Q i v w':=by
 unfold StR at *
 split
 ·rename_i hj;rw [if_pos hj] at h;exact hL v h
 ·rename_i hj
  rw [if_neg hj,if_neg hne] at h
  first
   | exact h
   | (rw [if_neg hne];exact h)
theorem StR.keepN (h1:i≠li) (h2:i≠ap) (h:StR V li ap L Q i v w):StR V li ap L Q i v w':=by
 unfold StR at *
 rwa [if_neg h1,if_neg h2] at *
theorem StR.keep (hL : ∀ v,L v w→L v w') (hQ : ∀ v,Q v w→Q v w') (j:Nat) (u:Value) (h:StR V li ap L Q j u w):StR V li ap L Q j u w':=by
 unfold StR at *
 split
 ·rename_i hj;rw [if_pos hj] at h;exact hL u h
 ·rename_i hj
  rw [if_neg hj] at h
  split
  ·rename_i hj2;rw [if_pos hj2] at h;exact hQ u h
  ·rename_i hj2;rwa [if_neg hj2] at h
end
theorem wp_skip {P:Program} {o:Oper} {a:Act} {w w':World} {K:Act→World→Prop} {Q:Exit→Act→World→Prop} (hrun:(execOp a.eval o).run P w = .ok .skip w') (hK:K (a.put o.dst undef) w'):o.wp P a w K Q:=by
 unfold Oper.wp
 rw [hrun]
 exact hK
theorem map1 {a:Act} {x:Operand} {v:Value} (h:a.eval x=v) : #[x].map a.eval = #[v]:=by simp [h]
theorem map3 {a:Act} {x y z:Operand} {v u t:Value} (h:a.eval x=v) (h2:a.eval y=u) (h3:a.eval z=t) : #[x,y,z].map a.eval = #[v,u,t]:=by simp [h,h2,h3]
theorem zDO {P:Program} {o:Oper} {a:Act} {w:World} {K:Act→World→Prop} {Q:Exit→Act→World→Prop} {f:FuncId} {args:Array Operand} {tys:Array TypeId} (ho:o.op = .call { callee := .value (.func f),args:=args,argTypes:=tys })
 {vals:Array Value} (hv:args.map a.eval=vals) (hcf:(callFunc f vals).run P w = .ok (.enter f vals) w) {R:Ending→World→Prop} (hc:Calls P f vals w R) (hK : ∀ e w',R e w' → ∃ v,e = .returned v∧K (a.put o.dst v) w'):o.wp P a w K Q:=by
 subst hv
 unfold Oper.wp execOp
 simp only [ho]
 go_simp
 refine hc.mono ?_
 intro e w' hR
 obtain ⟨v,rfl,hk⟩:=hK e w' hR
 exact hk
theorem build_step {P:Program} {o:Oper} {a:Act} {w:World} {K:Act→World→Prop} {Q:Exit→Act→World→Prop} {T:TypeId} {fs:Array (Nat×Operand)} (ho:o.op = .build T fs) {vals:List (Nat×Value)} {cs:Array Value} (hb:P.built T vals=some cs)
 (hv:(fs.map fun (i,x)=>(i,a.eval x)).toList=vals) (h:K (a.put o.dst (.agg cs)) w):o.wp P a w K Q:=
 wp_build _ _ ho (by rw [hv,hb];rfl) (by rw [hv,hb];exact h)
theorem parts2 {a:Act} {i j:Nat} {x y:Operand} {v u:Value} (h:a.eval x=v) (h2:a.eval y=u):((#[(i,x),(j,y)]:Array (Nat×Operand)).map fun (i,x)=>(i,a.eval x)).toList=[(i,v),(j,u)]:=by simp [h,h2]
theorem parts3 {a:Act} {i j k:Nat} {x y z:Operand} {v u t:Value} (h:a.eval x=v) (h2:a.eval y=u) (h3:a.eval z=t):((#[(i,x),(j,y),(k,z)]:Array (Nat×Operand)).map fun (i,x)=>(i,a.eval x)).toList=[(i,v),(j,u),(k,t)]:=by simp [h,h2,h3]
theorem slot_is {a:Act} {t:Nat} {v:Value} (h:a.tmps[t]?.getD undef=v):a.eval (.tmp t)=v:=(zAk a t).symm.trans h
structure F1 (B gO:Nat) (TO:TypeId) (cO:Array Value) (e:TypeId) (k:Nat) (ve:Value) (n:Nat) (xs:List Value) (I J:World→Prop) (w:World):Prop where
 blk:Blk w gO TO cO
 own:w.ownsRow B e k ve n xs
 inv:I w
 pre:J w
 size:B≤w.heap.size
structure F2 (B gO:Nat) (TO:TypeId) (cO:Array Value) (I:World→Prop) (w:World):Prop where
 blk:Blk w gO TO cO
 inv:I w
 size:B≤w.heap.size
def F3 (B gO off:Nat) (TO:TypeId) (cO:Array Value) (e:TypeId) (k:Nat) (n:Nat) (xs ys:List Value) (I:World→Prop) (w:World):Prop:=
 ∃ v',Blk w gO TO (cO.setIfInBounds off v')∧w.ownsRow B e k v' (n+1) (xs++ys)∧I w∧B≤w.heap.size
def LitR (B:Nat) (e:TypeId) (ve:Value) (ys:List Value) (v:Value) (w:World):Prop := ∃ b,v = .slice (some ⟨b,0,none⟩) 1 1∧Blk w b e ys.toArray∧B≤b∧ve.ownBlock≠some b
def AppR (B:Nat) (e:TypeId) (k n:Nat) (xs ys:List Value) (v:Value) (w:World):Prop:=w.ownsRow B e k v (n+1) (xs++ys)
section
variable {B gO off:Nat} {TO e:TypeId} {cO:Array Value} {k:Nat} {ve:Value} {n:Nat} {xs ys:List Value} {I J:World→Prop} {w w':World}
theorem F1.below (h:F1 B gO TO cO e k ve n xs I J w) (hb:Below w.heap.size w w') (hI:I w') (hJ:J w'):F1 B gO TO cO e k ve n xs I J w':=
 ⟨h.blk.below hb h.blk.lt,zAf h.own hb,hI,hJ,Nat.le_trans h.size hb.size⟩
theorem F1.far {S:List (Option Nat)} (h:F1 B gO TO cO e k ve n xs I J w) (hf:Far S w w') (hO:some gO ∉ S) (hS : ∀ k,some k∈S→k<B) (hI:I w') (hJ:J w'):F1 B gO TO cO e k ve n xs I J w':=
 ⟨hf.blk h.blk hO,hf.own h.own (fun k hk hm=>by have h1:=(World.ownsRow.lt h.own k hk).1;have h2:=hS k hm;omega),hI,hJ,Nat.le_trans h.size hf.size⟩
theorem LitR.below {v:Value} (h:LitR B e ve ys v w) (hb:Below w.heap.size w w'):LitR B e ve ys v w':=by
 obtain ⟨b,h1,h2,h3,h4⟩:=h
 exact ⟨b,h1,h2.below hb h2.lt,h3,h4⟩
theorem AppR.below {v:Value} (h:AppR B e k n xs ys v w) (hb:Below w.heap.size w w'):AppR B e k n xs ys v w':=zAf h hb
theorem LitR.set_ {v:Value} {p:Addr} (h:LitR B e ve ys v w) (hp:p.block<B) (u:Value):LitR B e ve ys v (w.setCell p u):=by
 obtain ⟨b,h1,h2,h3,h4⟩:=h
 exact ⟨b,h1,h2.far (by omega) u,h3,h4⟩
theorem own_set {v:Value} {m:Nat} {zs:List Value} {p:Addr} (h:w.ownsRow B e k v m zs) (hp:p.block<B) (u:Value):(w.setCell p u).ownsRow B e k v m zs:=by
 refine Far.own (S:=[some p.block]) ((Far.refl _ w).set_ (.inl (by simp)) u) h ?_
 intro q hq
 have:=(World.ownsRow.lt h q hq).1
 simp;omega
variable {P:Program}
theorem zCm {a:Act} {o:Oper} {K:Act→World→Prop} {Q:Exit→Act→World→Prop} {x:Operand} {t:TypeId} {z:Value} {size bytes:Nat} (ho:o.op = .buildSlice t 1 #[(0,x)]) (hT:SliceTy P t e z size bytes) (hle:size≤65536) (hy:ys.length=size) (hx:a.eval x = .agg ys.toArray∨(size=1∧ys=[a.eval x]∧(a.eval x).cells = #[a.eval x]))
 (h:K (a.put o.dst (.slice (some ⟨w.heap.size,0,none⟩) 1 1)) (w.alloc (.cells ys.toArray e))):o.wp P a w K Q:=by
 obtain ⟨v,hv,hc⟩ : ∃ v,a.eval x=v∧v.cells.toList=ys:=by
  rcases hx with hx | ⟨_,h2,h3⟩
  ·exact ⟨_,hx,by simp [Value.cells]⟩
  ·exact ⟨_,rfl,by rw [h3,h2]⟩
 have e1:((#[(0,x)]:Array (Nat×Operand)).map fun (i,x)=>(i,a.eval x)) = #[(0,v)]:=by simp [hv]
 have hrun:(Instr.buildSlice t 1 #[(0,v)]).run P w = .ok (.slice (some ⟨w.heap.size,0,none⟩) 1 1) (w.alloc (.cells ys.toArray e)):=by
  obtain ⟨it,hi,hz,hs,hb⟩:=hT.hi
  have h0:=hT.hsz
  refine run_buildSlice w _ _ 1 _ _ it _ hT.ht hi hz (by rw [hs];omega) (by rw [hs];omega) ?_
  rw [hs]
  have:=Great.fill_whole (s:=size) (by omega) [v] ((Array.range (1*size)).map (z.cells[· % z.cells.size]!)) (by
   intro u hu
   simp at hu
   subst hu
   rw [←Array.length_toList,hc]
   exact hy) (by simp)
  simpa [hc] using this
 unfold Oper.wp execOp
 simp only [ho,Sem.run_bind,e1,hrun,Result.andThen_ok]
 exact h
theorem zEW {a:Act} {o:Oper} {K:Act→World→Prop} {Q:Exit→Act→World→Prop} {s x:Operand} {t:TypeId} {z:Value} {bytes:Nat} (ho:o.op = .call { callee := .builtin .append,args := #[s,x],argTypes := #[t,t] }) (hT:SliceTy P t e z k bytes)
 (h:F1 B gO TO cO e k ve n xs I J w) (hgO:gO<B) {v:Value} (hl:LitR B e ve ys v w) (hy:ys.length=k) (h1 : ∀ u∈ys,u.oneCell'=true) (h63:n+1≤9223372036854775807) (hbytes:(n+1)*bytes≤140737488355328)
 (hI : ∀ w',Below B w w'→I w') (hs:a.eval s=ve) (hx:a.eval x=v)
 (hK : ∀ v' w',F2 B gO TO cO I w'→AppR B e k n xs ys v' w'→(∀ u,LitR B e ve ys u w→LitR B e ve ys u w')→Below B w w'→K (a.put o.dst v') w'):o.wp P a w K Q:=by
 obtain ⟨b,rfl,hb,hB,hne⟩:=hl
 refine wp_append_blk s x t ho e z k bytes hT B ve n xs hs h.own b 1 1 e ys.toArray hx hb (by simpa using hy) (by simpa using h1) h63 hbytes w (Below.refl _ _) h.size ?_
 intro v' w' hown hbel hgr
 refine hK v' w' ⟨(hbel.block gO hgO).trans h.blk,hI w' hbel,Nat.le_trans h.size hgr.size⟩ (by simpa [AppR] using hown) ?_ hbel
 rintro u ⟨b2,g1,g2,g3,g4⟩
 exact ⟨b2,g1,g2.grown hgr (fun e=>g4 e.symm),g3,g4⟩
theorem F2.stored (h:F2 B gO TO cO I w) {v:Value} (hv:AppR B e k n xs ys v w) (hgO:gO<B) (hI:I (w.setCell ⟨gO,off,none⟩ v)):F3 B gO off TO cO e k n xs ys I (w.setCell ⟨gO,off,none⟩ v):=
 ⟨v,h.blk.set_ off v,own_set hv hgO v,hI,by rw [World.size_setCell];exact h.size⟩
theorem AppR.set_ {v:Value} {p:Addr} (h:AppR B e k n xs ys v w) (hp:p.block<B) (u:Value):AppR B e k n xs ys v (w.setCell p u):=own_set h hp u
end
end
section
section
variable {P:Program} {ops:Array Oper} {a0:Act} {C:Array Bool→Act→World→Prop} {R:Nat→Value→World→Prop} {Q:Exit→Act→World→Prop}
end
structure VarC (al st s:Nat) (T:TypeId) (B:Nat) (Z cs:Array Value) (I:World→Prop) (listed:Array Bool) (a:Act) (w:World):Prop where
 inv:I w
 size:B≤w.heap.size
 at_:listed.getD al false=true → ∃ b,a.eval (.tmp s) = .pointer (some ⟨b,0,none⟩)∧B≤b∧Blk w b T (if listed.getD st false=true then cs else Z)
section
variable {al st s i:Nat} {T:TypeId} {B:Nat} {Z cs:Array Value} {I:World→Prop} {listed:Array Bool} {a:Act} {w w':World}
theorem eval_put {d:Option Tmp} {v:Value} (h:d≠some s):(a.put d v).eval (.tmp s)=a.eval (.tmp s):=by
 simp only [Act.eval,Array.getD_eq_getD_getElem?,put_at h]
theorem VarC.start {n:Nat} (hI:I w) (hB:B≤w.heap.size):VarC al st s T B Z cs I (Array.replicate n false) a w:=⟨hI,hB,fun h=>by rw [zA8] at h;cases h⟩
theorem VarC.below (h:VarC al st s T B Z cs I listed a w) (h1:i≠al) (h2:i≠st) {d:Option Tmp} {v:Value} (hd:d≠some s) (hb:Below w.heap.size w w') (hI:I w'):VarC al st s T B Z cs I (listed.setIfInBounds i true) (a.put d v) w':=
 ⟨hI,Nat.le_trans h.size hb.size,fun hl=>by
  rw [zAG h1] at hl
  rw [zAG h2]
  obtain ⟨b,e1,e2,e3⟩:=h.at_ hl
  exact ⟨b,by rw [eval_put hd];exact e1,e2,e3.below hb e3.lt⟩⟩
theorem VarC.same (h:VarC al st s T B Z cs I listed a w) (h1:i≠al) (h2:i≠st) {d:Option Tmp} {v:Value} (hd:d≠some s):VarC al st s T B Z cs I (listed.setIfInBounds i true) (a.put d v) w:=h.below h1 h2 hd (Below.refl _ _) h.inv
variable {P:Program} {o:Oper} {K:Act→World→Prop} {Q:Exit→Act→World→Prop}
theorem alloc_step (ho:o.op = .alloc T) (hz:(zeroValue T).run P w = .ok (.agg Z) w) (h:K (a.put o.dst (.pointer (some ⟨w.heap.size,0,none⟩))) (w.alloc (.cells Z T))):o.wp P a w K Q:=by
 unfold Oper.wp execOp
 simp only [ho]
 go_simp
 exact h
theorem VarC.laid (h:VarC al st s T B Z cs I listed a w) (hs:listed.getD st false=false) (hne:al≠st) (ht:s<a.tmps.size) (hI:I (w.alloc (.cells Z T))):VarC al st s T B Z cs I (listed.setIfInBounds al true) (a.put (some s) (.pointer (some ⟨w.heap.size,0,none⟩))) (w.alloc (.cells Z T)):=
 ⟨hI,by rw [zA4];have:=h.size;omega,fun _=>⟨w.heap.size,by simp [Act.eval,Act.put,ht],h.size,by rw [zAG hne,hs,if_neg (by simp)];exact Blk.new _ _ _⟩⟩
theorem VarC.stored (h:VarC al st s T B Z cs I listed a w) (hl:listed.getD al false=true) (hs:listed.getD st false=false) (hi:st<listed.size) {y:Operand} (ho:o.op = .store T (.tmp s) y) (hy:a.eval y = .agg cs) (hsz:(P.info? T).map (·.size)=some cs.size) (hzc:Z.size=cs.size) (hone:cs.all (·.oneCell')=true) (hne:al≠st)
 (hd:o.dst=none) (hI : ∀ b,B≤b→I (w.setRow b cs)) (hK : ∀ w',(∃ b,B≤b∧b<w.heap.size∧w'=w.setRow b cs∧Blk w b T Z)→VarC al st s T B Z cs I (listed.setIfInBounds st true) (a.put o.dst undef) w'→K (a.put o.dst undef) w'):o.wp P a w K Q:=by
 obtain ⟨b,e1,e2,e3⟩:=h.at_ hl
 rw [hs,if_neg (by simp)] at e3
 refine wp_store_row T (.tmp s) y ho b cs e1 hy T Z e3 hsz hzc hone (hK _ ⟨b,e2,e3.lt,rfl,e3⟩ ⟨hI b e2,by simpa using h.size,fun _=>⟨b,by rw [hd];exact e1,e2,?_⟩⟩)
 rw [zDt hi,if_pos rfl]
 exact setRow_heap _ _ _ _ _ _ e3
end
end
section
def maskStep (acc:List Nat) (o:Oper):Nat:=o.after.toList.foldl (fun m e=>if Region.binds .any e then m ||| (1 <<< e.on ||| acc.getD e.on 0) else m) 0
def masks : List Oper→List Nat→List Nat
 | [],acc=>acc
 | o::l,acc=>masks l (acc++[maskStep acc o])
def waitsT (ops:Array Oper) (i j:Nat):Bool:=((masks ops.toList []).getD i 0).testBit j
theorem zEy {acc:List Nat} {j:Nat} : ∀ (l:List Edge) (m:Nat),(l.foldl (fun m e=>if Region.binds .any e then m ||| (1 <<< e.on ||| acc.getD e.on 0) else m) m).testBit j=true→m.testBit j=true ∨ ∃ e∈l,Region.binds .any e=true∧(e.on=j∨(acc.getD e.on 0).testBit j=true)
 | [],m,h => .inl h
 | e::l,m,h=>by
   rw [List.foldl_cons] at h
   rcases zEy l _ h with h1 | ⟨e',he',h2⟩
   ·split at h1
    ·rename_i hb
     rw [Nat.testBit_or,Nat.testBit_or,Bool.or_eq_true,Bool.or_eq_true] at h1
     rcases h1 with h1 | h1 | h1
     ·exact .inl h1
     ·refine .inr ⟨e,by simp,hb, .inl ?_⟩
      rw [Nat.one_shiftLeft,Nat.testBit_two_pow] at h1
      simpa using h1
     ·exact .inr ⟨e,by simp,hb, .inr h1⟩
    ·exact .inl h1
   ·exact .inr ⟨e',by simp [he'],h2⟩
theorem masks_old : ∀ (l:List Oper) (acc:List Nat) (k:Nat),k<acc.length→(masks l acc).getD k 0=acc.getD k 0
 | [],acc,k,h=>rfl
 | o::l,acc,k,h=>by
   unfold masks
   rw [masks_old l _ k (by rw [List.length_append];exact Nat.lt_of_lt_of_le h (Nat.le_add_right _ _))]
   rw [List.getD_eq_getElem?_getD,List.getD_eq_getElem?_getD,List.getElem?_append_left h]
theorem masks_at : ∀ (l:List Oper) (acc:List Nat) (n j:Nat),((masks l acc).getD (acc.length+n) 0).testBit j=true → ∃ o,l[n]?=some o ∧ ∃ e∈o.after,Region.binds .any e=true∧(e.on=j∨(e.on<acc.length+n∧((masks l acc).getD e.on 0).testBit j=true))
 | [],acc,n,j,h=>by
   unfold masks at h
   rw [List.getD_eq_getElem?_getD,List.getElem?_eq_none (by omega)] at h
   simp at h
 | o::l,acc,0,j,h=>by
   have ho:(masks (o::l) acc).getD acc.length 0=maskStep acc o:=by
    unfold masks
    rw [masks_old l _ _ (by simp),List.getD_eq_getElem?_getD,List.getElem?_append_right (Nat.le_refl _),Nat.sub_self]
    rfl
   rw [Nat.add_zero,ho] at h
   rcases zEy _ _ h with h1 | ⟨e,he,h1,h2⟩
   ·simp at h1
   ·refine ⟨o,rfl,e,by simpa using he,h1,?_⟩
    rcases h2 with h2 | h2
    ·exact .inl h2
    ·have hlt:e.on<acc.length:=by
      rcases Nat.lt_or_ge e.on acc.length with h | h
      ·exact h
      ·rw [List.getD_eq_getElem?_getD,List.getElem?_eq_none h] at h2;simp at h2
     exact .inr ⟨by omega,by rw [masks_old _ _ _ hlt];exact h2⟩
 | o::l,acc,n+1,j,h=>by
   unfold masks at h ⊢
   have:=masks_at l (acc++[maskStep acc o]) n j (by rw [List.length_append];simpa [Nat.add_assoc,Nat.add_comm 1 n] using h)
   obtain ⟨o',h1,e,h2,h3,h4⟩:=this
   refine ⟨o',h1,e,h2,h3,h4.imp id fun h=>⟨?_,h.2⟩⟩
   have:=h.1
   rw [List.length_append] at this
   simp at this
   omega
theorem waitsT_spec {ops:Array Oper} {i j:Nat} (h:waitsT ops i j=true) : ∃ o,ops[i]?=some o ∧ ∃ e∈o.after,Region.binds .any e=true∧(e.on=j∨(e.on<i∧waitsT ops e.on j=true)):=by
 have:=masks_at ops.toList [] i j (by simpa [waitsT] using h)
 obtain ⟨o,h1,e,h2,h3,h4⟩:=this
 exact ⟨o,by rw [←Array.getElem?_toList];exact h1,e,h2,h3,h4.imp id fun h=>⟨by simpa using h.1,h.2⟩⟩
abbrev Foot := Nat→Prop
structure Agree (F:Foot) (w w':World):Prop where
 size:w.heap.size≤w'.heap.size
 same : ∀ k,k<w.heap.size→F k→w'.heap[k]?=w.heap[k]?
def Stab (p:Foot→World→Prop):Prop := ∀ (F F':Foot) w w',(∀ k,F k→F' k)→Agree F w w'→p F w→p F' w'
def doesAt (P:Program) (o:Oper) (a:Act) (w:World) (post:Value→World→Prop):Prop:=
 o.wp P a w (fun a' w' => ∃ u,a'=a.put o.dst u∧post u w') (fun _ _ _=>False)
section
variable {P:Program} {o:Oper} {a:Act} {w w':World} {post:Value→World→Prop}
theorem zBO {v:Value} (h:(execOp a.eval o).run P w = .ok (.value v) w') (hp:post v w'):doesAt P o a w post:=by
 unfold doesAt Oper.wp
 rw [h]
 exact ⟨v,rfl,hp⟩
theorem zEY {a b:Act} {d:Option Tmp} {u v:Value} (hs:a.tmps.size=b.tmps.size) (h:a.put d u=a.put d v):b.put d u=b.put d v:=by
 cases d with
 | none=>rfl
 | some t=>
   rcases Nat.lt_or_ge t a.tmps.size with hl | hl
   ·have e:=congrArg (fun x:Act=>x.tmps[t]?) h
    simp only [Act.put,Array.getElem?_setIfInBounds_self_of_lt hl] at e
    injection e with e
    rw [e]
   ·have h1 : ∀ x,b.tmps.setIfInBounds t x=b.tmps:=fun x=>Array.setIfInBounds_eq_of_size_le (by omega)
    simp only [Act.put,h1]
theorem zCv {b:Act} (he:execOp a.eval o=execOp b.eval o) (hs:a.tmps.size=b.tmps.size) (hd:a.defers=b.defers) (h:doesAt P o a w post):doesAt P o b w post:=by
 unfold doesAt Oper.wp at *
 rw [←he]
 generalize (execOp a.eval o).run P w=r at *
 cases r with
 | ok n w2=>
   cases n<;>simp only [Oper.upon] at h ⊢
   case value v=>
    obtain ⟨u,e,q⟩:=h
    exact ⟨u,zEY hs e,q⟩
   case skip=>
    obtain ⟨u,e,q⟩:=h
    exact ⟨u,zEY hs e,q⟩
   case defer d=>
    obtain ⟨u,e,q⟩:=h
    have e1:=congrArg (fun x:Act=>x.defers.length) e
    simp [zBr] at e1
   case enter f args=>
    refine Calls.mono h ?_
    intro e w3 he
    cases e with
    | returned v=>
      obtain ⟨u,e,q⟩:=he
      exact ⟨u,zEY hs e,q⟩
    | panicked c=>exact he
    | outgrown=>exact he
   case row r args=>
    refine Rows.mono h ?_
    rintro v w3 ⟨u,e,q⟩
    exact ⟨u,zEY hs e,q⟩
 | halt x w2=>cases x<;>simp only [Oper.upon] at h
end
inductive Sp where
 | det (f:List Value→Value)
 | new (r:List Value→Value→Foot→World→Prop)
 | der (j:Nat) (r:List Value→Value→Foot→World→Prop)
 | al (T:TypeId) (Z:Array Value)
 | st (j:Nat) (T:TypeId) (n:Nat)
 | wr (r:List Value→Value→Foot→World→Prop)
 | ov (j:Nat) (r:List Value→Value→Foot→World→Prop)
def vals (o:Oper) (a:Act):List Value:=o.op.operands.toList.map a.eval
abbrev Pres := List (Nat×Option Nat×(World→Prop))
abbrev Facts := List (Nat×(Foot→World→Prop))
def alP (B:Nat) (v:Value) (T:TypeId) (n:Nat) (F:Foot) (w:World):Prop := ∃ b,v = .pointer (some ⟨b,0,none⟩)∧B≤b∧F b ∧ ∃ cs:Array Value,cs.size=n∧Blk w b T cs
def stP (B:Nat) (x y:Value) (T:TypeId) (F:Foot) (w:World):Prop := ∃ b cs,x = .pointer (some ⟨b,0,none⟩)∧y = .agg cs∧B≤b∧F b∧Blk w b T cs
theorem alP_stab (B:Nat) (v:Value) (T:TypeId) (n:Nat):Stab (alP B v T n):=fun _ _ _ _ hf ha ⟨b,e,h0,hb,cs,hc,hk⟩=>⟨b,e,h0,hf b hb,cs,hc,(ha.same b hk.lt hb).trans hk⟩
theorem stP_stab (B:Nat) (x y:Value) (T:TypeId):Stab (stP B x y T):=fun _ _ _ _ hf ha ⟨b,cs,e,e2,h0,hb,hk⟩=>⟨b,cs,e,e2,h0,hf b hb,(ha.same b hk.lt hb).trans hk⟩
section
variable (P:Program) (ops:Array Oper) (w0:World) (rows:List (Option Nat)) (pres:Pres) (sps:List Sp)
def OldB (k:Nat):Prop:=k<w0.heap.size∧some k ∉ rows
structure Have (i:Nat) (D:Facts) (w:World):Prop where
 fact : ∀ q∈D,waitsT ops i q.1=true → ∃ F,q.2 F w
 pre : ∀ q∈pres,waitsT ops q.1 i=true→q.2.2 w
def NewR (r:Value→Foot→World→Prop) (row:Option Nat) (w:World) (u:Value) (w':World):Prop := ∀ F:Foot,(∀ k,OldB w0 rows k→F k)→(∀ k,some k=row→F k)→(∀ k,w.heap.size≤k→k<w'.heap.size→F k)→r u F w'
structure OverR (Old:Nat→Prop) (r:Value→Foot→World→Prop) (F:Foot) (w:World) (u:Value) (w':World):Prop where
 os:w'.os=w.os
 tape:w'.tape=w.tape
 output:w'.output=w.output
 size:w.heap.size≤w'.heap.size
 block : ∀ k,k<w.heap.size→(F k→Old k)→w'.heap[k]?=w.heap[k]?
 rel : ∀ F':Foot,(∀ k,F k→F' k)→(∀ k,w.heap.size≤k→k<w'.heap.size→F' k)→r u F' w'
def spAt (i:Nat):Sp:=sps.getD i (.det fun _=>undef)
def isVal : Sp→Bool | .new _=>true | .der _ _=>true | .wr _=>true | .ov _ _=>true | _=>false
def isOv : Sp→Bool | .ov _ _=>true | _=>false
def ovs : Bool:=sps.any isOv
def gOf : Nat→Nat→Nat
 | 0,i=>i
 | f+1,i=>match spAt sps i with
   | .der j _=>gOf f j
   | .ov j _=>gOf f j
   | .st j _ _=>j
   | _=>i
def gAt (i:Nat):Nat:=gOf sps sps.length i
def keepB (i m:Nat):Bool := !isOv (spAt sps i)||gAt sps m != gAt sps i
def keepD (i:Nat) (s:Sp) (D:Facts):Facts:=match s with
 | .ov _ _=>D.filter fun q=>gAt sps q.1 != gAt sps i
 | _=>D
theorem zCS (i:Nat) (D:Facts) (q:Nat×(Foot→World→Prop)):q∈keepD sps i (spAt sps i) D↔q∈D∧keepB sps i q.1=true:=by
 unfold keepD keepB
 cases spAt sps i<;>simp [isOv,List.mem_filter]
def noAl : Sp→Bool | .al _ _=>false | _=>true
def gOk (i:Nat):Bool:=match spAt sps i with
 | .det _=>true
 | .der j _=>gAt sps i==gAt sps j
 | .ov j _=>gAt sps i==gAt sps j&&noAl (spAt sps (gAt sps i))
 | .st j _ _=>gAt sps i==j
 | _=>gAt sps i==i
def sepB (i k:Nat):Bool:=k==i||waitsT ops i k||waitsT ops k i||(gAt sps k != gAt sps i&&(List.range ops.size).all fun m=>gAt sps m != gAt sps i || !waitsT ops k m)
def ovB : Bool := !ovs sps||(List.range ops.size).all fun i=>gOk sps i&&(!isOv (spAt sps i)||(List.range ops.size).all fun k=>sepB ops sps i k)
def claim (i:Nat) (o:Oper) (s:Sp) (a:Act) (D:Facts):Prop:=match s with
 | .det f => ∀ w,Far rows w0 w→Have ops pres i D w→doesAt P o a w fun u w'=>u=f (vals o a)∧Below w.heap.size w w'
 | .new r=>(∀ ρ v,Stab (r ρ v)) ∧ ∀ w,Far rows w0 w→Have ops pres i D w→doesAt P o a w fun u w'=>Below w.heap.size w w'∧NewR w0 rows (r (vals o a)) none w u w'
 | .der j r=>(∀ ρ v,Stab (r ρ v))∧waitsT ops i j=true∧isVal (spAt sps j)=true ∧ ∀ (w:World) (F:Foot),Far rows w0 w→(∀ k,OldB w0 rows k→F k)→Have ops pres i D w→(∀ p,(j,p)∈D→p F w)→doesAt P o a w fun u w'=>w'=w∧r (vals o a) u F w
 | .al T Z=>o.op = .alloc T ∧ ∀ w,(zeroValue T).run P w = .ok (.agg Z) w
 | .st j T n=>waitsT ops i j=true∧o.dst=none∧(P.info? T).map (·.size)=some n∧(∃ Z:Array Value,spAt sps j = .al T Z∧Z.size=n) ∧ ∃ x y,o.op = .store T x y∧(j,alP w0.heap.size (a.eval x) T n)∈D ∧ ∀ w,Far rows w0 w→Have ops pres i D w → ∃ cs:Array Value,a.eval y = .agg cs∧cs.size=n∧cs.all (·.oneCell')=true
 | .wr r=>(∀ ρ v,Stab (r ρ v)) ∧ ∃ row p0,(i,row,p0)∈pres ∧ ∀ w,Far rows w0 w→Have ops pres i D w→p0 w→doesAt P o a w fun u w'=>w.grownBy w' row∧NewR w0 rows (r (vals o a)) row w u w'
 | .ov j r=>(∀ ρ v,Stab (r ρ v))∧waitsT ops i j=true∧isVal (spAt sps j)=true ∧ ∀ (w:World) (F:Foot),Far rows w0 w→(∀ k,OldB w0 rows k→F k)→Have ops pres i D w→(∀ p,(j,p)∈D→p F w)→doesAt P o a w fun u w'=>OverR (OldB w0 rows) (r (vals o a)) F w u w'
def dom (s:Sp) (ρ:List Value) (v:Value):Prop:=match s with
 | .det f=>v=f ρ
 | .st _ _ _=>v=undef
 | _=>True
def ext (i:Nat) (o:Oper) (s:Sp) (a:Act) (v:Value):Facts:=match s with
 | .det _=>[]
 | .new r=>[(i,r (vals o a) v)]
 | .der _ r=>[(i,r (vals o a) v)]
 | .wr r=>[(i,r (vals o a) v)]
 | .ov _ r=>[(i,r (vals o a) v)]
 | .al T Z=>[(i,alP w0.heap.size v T Z.size)]
 | .st _ T _=>match o.op with
   | .store _ x y=>[(i,stP w0.heap.size (a.eval x) (a.eval y) T)]
   | _=>[]
def Lx (E:Act→Facts→Prop):List Nat→Act→Facts→Prop
 | [],a,D=>E a D
 | i::U,a,D => ∀ o,ops[i]?=some o→if Region.wanted o (yielded ops a.tmps)=true then claim P ops w0 rows pres sps i o (spAt sps i) a D ∧ ∀ v,dom (spAt sps i) (vals o a) v→Lx E U (a.put o.dst v) (ext w0 i o (spAt sps i) a v++keepD sps i (spAt sps i) D) else Lx E U (a.put o.dst undef) D
end
section
variable {P:Program} {ops:Array Oper} {w0:World} {rows:List (Option Nat)} {pres:Pres} {sps:List Sp} {E:Act→Facts→Prop} {i k:Nat} {o ok oi:Oper} {s:Sp} {a b:Act} {D D':Facts} {w:World}
theorem Have.of (h:Have ops pres i D w) (hD : ∀ q,waitsT ops i q.1=true→q∈D'→q∈D):Have ops pres i D' w:=⟨fun q hq hw=>h.fact q (hD q hw hq) hw,h.pre⟩
theorem zBf (hx : ∀ x∈o.op.operands,a.eval x=b.eval x):vals o a=vals o b:=by
 exact List.map_congr_left fun x h=>hx x (by simpa using h)
theorem zB5 (hns : ∀ cs b,o.op ≠ .select cs b) (hx : ∀ x∈o.op.operands,a.eval x=b.eval x) (hsz:a.tmps.size=b.tmps.size) (hdf:a.defers=b.defers) (hD : ∀ q,waitsT ops i q.1=true→(q∈D↔q∈D'))
 (h:claim P ops w0 rows pres sps i o s a D):claim P ops w0 rows pres sps i o s b D':=by
 have he:execOp a.eval o=execOp b.eval o:=execOp_congr o hns hx
 have hv:=zBf hx
 have hH : ∀ w,Have ops pres i D' w→Have ops pres i D w:=fun w h=>h.of fun q hw hq=>(hD q hw).1 hq
 cases s with
 | det f=>exact fun w hw hh=>by rw [←hv];exact zCv he hsz hdf (h w hw (hH w hh))
 | new r=>exact ⟨h.1,fun w hw hh=>by rw [←hv];exact zCv he hsz hdf (h.2 w hw (hH w hh))⟩
 | der j r=>
   obtain ⟨h1,h2,h3,h4⟩:=h
   exact ⟨h1,h2,h3,fun w F hw hF hh hp=>by rw [←hv];exact zCv he hsz hdf (h4 w F hw hF (hH w hh) fun p hq=>hp p ((hD _ h2).1 hq))⟩
 | al T Z=>exact h
 | st j T n=>
   obtain ⟨h1,h2,h3,h4,x,y,h5,h6,h7⟩:=h
   have hop:x∈o.op.operands∧y∈o.op.operands:=by rw [h5];simp [Op.operands]
   refine ⟨h1,h2,h3,h4,x,y,h5,?_,fun w hw hh=>?_⟩
   ·rw [←hx x hop.1];exact (hD _ h1).1 h6
   ·rw [←hx y hop.2];exact h7 w hw (hH w hh)
 | wr r=>
   obtain ⟨h1,row,p0,h3,h4⟩:=h
   exact ⟨h1,row,p0,h3,fun w hw hh hp=>by rw [←hv];exact zCv he hsz hdf (h4 w hw (hH w hh) hp)⟩
 | ov j r=>
   obtain ⟨h1,h2,h3,h4⟩:=h
   exact ⟨h1,h2,h3,fun w F hw hF hh hp=>by rw [←hv];exact zCv he hsz hdf (h4 w F hw hF (hH w hh) fun p hq=>hp p ((hD _ h2).1 hq))⟩
theorem zDw (hx : ∀ x∈o.op.operands,a.eval x=b.eval x) (v:Value):ext w0 i o s a v=ext w0 i o s b v:=by
 cases s with
 | st j T n=>
   unfold ext
   cases ho:o.op<;>simp only
   rename_i t x y
   rw [hx x (by rw [ho];simp [Op.operands]),hx y (by rw [ho];simp [Op.operands])]
 | new r=>simp only [ext,zBf hx]
 | der j r=>simp only [ext,zBf hx]
 | wr r=>simp only [ext,zBf hx]
 | ov j r=>simp only [ext,zBf hx]
 | _=>rfl
theorem dom_some (s:Sp) (ρ:List Value) : ∃ v,dom s ρ v:=by
 cases s with
 | det f=>exact ⟨f ρ,rfl⟩
 | st j T n=>exact ⟨undef,rfl⟩
 | _=>exact ⟨undef,trivial⟩
structure Indep (ops:Array Oper) (sps:List Sp) (ok oi:Oper) (k i:Nat):Prop where
 ap:ok.apart ops oi=true
 ik:waitsT ops i k=false
 ki:waitsT ops k i=false
 kk : ∀ m,waitsT ops k m=true→keepB sps i m=true
 ii : ∀ m,waitsT ops i m=true→keepB sps k m=true
 si:keepB sps i k=true
 sk:keepB sps k i=true
theorem zAR (ap:ok.apart ops oi=true) (a:Act) (v:Value):(∀ x∈oi.op.operands,(a.put ok.dst v).eval x=a.eval x)∧(∀ x∈ok.op.operands,(a.put oi.dst v).eval x=a.eval x):=by
 obtain ⟨h1,_,h3⟩:=Oper.apart_spec ap
 refine ⟨fun x hx=>Act.eval_put fun d hd hxd=>h1 d hd ?_,fun x hx=>Act.eval_put fun d hd hxd=>h3 d hd ?_⟩ <;>
 ·subst hxd
  exact List.mem_append_left _ (List.mem_filterMap.2 ⟨.tmp d,by simpa using hx,rfl⟩)
theorem ext_at (i:Nat) (o:Oper) (s:Sp) (a:Act) (v:Value) : ∀ q∈ext w0 i o s a v,q.1=i:=by
 intro q hq
 cases s with
 | det f=>simp [ext] at hq
 | st j T n=>
   unfold ext at hq
   cases ho:o.op<;>rw [ho] at hq<;>simp at hq
   rw [hq]
 | _=>simp [ext] at hq;rw [hq]
theorem Lx_mem (hE : ∀ a D D',(∀ q,q∈D↔q∈D')→E a D→E a D') (hns : ∀ (i:Nat) (o:Oper),ops[i]?=some o → ∀ cs b,o.op ≠ .select cs b) : ∀ (U:List Nat) (a:Act) (D D':Facts),(∀ q,q∈D↔q∈D')→Lx P ops w0 rows pres sps E U a D→Lx P ops w0 rows pres sps E U a D'
 | [],a,D,D',hD,h=>hE a D D' hD h
 | i::U,a,D,D',hD,h=>by
   intro o ho
   have h1:=h o ho
   split
   ·rename_i hw
    rw [if_pos hw] at h1
    exact ⟨zB5 (hns i o ho) (fun _ _=>rfl) rfl rfl (fun q _=>hD q) h1.1,fun v hv=>Lx_mem hE hns U _ _ _ (fun q=>by rw [List.mem_append,List.mem_append,zCS,zCS,hD q]) (h1.2 v hv)⟩
   ·rename_i hw
    rw [if_neg hw] at h1
    exact Lx_mem hE hns U _ _ _ hD h1
theorem Lx_pull (hE : ∀ a D D',(∀ q,q∈D↔q∈D')→E a D→E a D') (hns : ∀ (i:Nat) (o:Oper),ops[i]?=some o → ∀ cs b,o.op ≠ .select cs b) (hoi:ops[i]?=some oi) (U2:List Nat) : ∀ (U1:List Nat) (a:Act) (D:Facts),
 (∀ k∈U1, ∃ ok,ops[k]?=some ok∧Indep ops sps ok oi k i)→Lx P ops w0 rows pres sps E (U1++i::U2) a D →
 if Region.wanted oi (yielded ops a.tmps)=true then claim P ops w0 rows pres sps i oi (spAt sps i) a D ∧ ∀ v,dom (spAt sps i) (vals oi a) v→Lx P ops w0 rows pres sps E (U1++U2) (a.put oi.dst v) (ext w0 i oi (spAt sps i) a v++keepD sps i (spAt sps i) D) else Lx P ops w0 rows pres sps E (U1++U2) (a.put oi.dst undef) D
 | [],a,D,_,h=>h oi hoi
 | k::U1,a,D,hin,h=>by
   obtain ⟨ok,hok,ap,hik,hki,hkk,hii,hsi,hsk⟩:=hin k (by simp)
   have hin' : ∀ k∈U1, ∃ ok,ops[k]?=some ok∧Indep ops sps ok oi k i:=fun k hk=>hin k (by simp [hk])
   obtain ⟨a1,a2,a3⟩:=Oper.apart_spec ap
   have hk:=h ok hok
   have wk : ∀ (a:Act) v,Region.wanted oi (yielded ops (a.put ok.dst v).tmps)=Region.wanted oi (yielded ops a.tmps):=fun a v=>wanted_put oi a ok.dst v a1
   have wi : ∀ (a:Act) v,Region.wanted ok (yielded ops (a.put oi.dst v).tmps)=Region.wanted ok (yielded ops a.tmps):=fun a v=>wanted_put ok a oi.dst v a3
   have hDi : ∀ v q,waitsT ops i q.1=true→(q∈ext w0 k ok (spAt sps k) a v++keepD sps k (spAt sps k) D↔q∈D):=fun v q hw=>by
    rw [List.mem_append,zCS]
    refine ⟨fun h=>(h.resolve_left fun hq=>?_).1,fun h => .inr ⟨h,hii _ hw⟩⟩
    rw [ext_at _ _ _ _ _ q hq,hik] at hw
    cases hw
   have hDk : ∀ v q,waitsT ops k q.1=true→(q∈D↔q∈ext w0 i oi (spAt sps i) a v++keepD sps i (spAt sps i) D):=fun v q hw=>by
    rw [List.mem_append,zCS]
    refine ⟨fun h => .inr ⟨h,hkk _ hw⟩,fun h=>(h.resolve_left fun hq=>?_).1⟩
    rw [ext_at _ _ _ _ _ q hq,hki] at hw
    cases hw
   by_cases hwk:Region.wanted ok (yielded ops a.tmps)=true
   ·rw [if_pos hwk] at hk
    obtain ⟨hcl,hnext⟩:=hk
    obtain ⟨v0,hv0⟩:=dom_some (spAt sps k) (vals ok a)
    have h0:=Lx_pull hE hns hoi U2 U1 _ _ hin' (hnext v0 hv0)
    rw [wk] at h0
    by_cases hwi:Region.wanted oi (yielded ops a.tmps)=true
    ·rw [if_pos hwi] at h0 ⊢
     refine ⟨zB5 (hns i oi hoi) (zAR ap a v0).1 (zDb _ _ _) (zBr _ _ _) (hDi v0) h0.1,fun v hv=>?_⟩
     intro ok' hok'
     obtain rfl:ok=ok':=Option.some.inj (hok.symm.trans hok')
     rw [wi,if_pos hwk]
     refine ⟨zB5 (hns k ok hok) (fun x hx=>((zAR ap a v).2 x hx).symm) (zDb _ _ _).symm (zBr _ _ _).symm (hDk v) hcl,fun u hu=>?_⟩
     rw [zBf (zAR ap a v).2] at hu
     have h1:=Lx_pull hE hns hoi U2 U1 _ _ hin' (hnext u hu)
     rw [wk,if_pos hwi] at h1
     have h2:=h1.2 v (by rw [zBf (zAR ap a u).1];exact hv)
     rw [Act.put_comm a u v a2,zDw (zAR ap a u).1] at h2
     rw [zDw (zAR ap a v).2]
     refine Lx_mem hE hns _ _ _ _ (fun q=>?_) h2
     simp only [List.mem_append,zCS]
     have ei:q∈ext w0 i oi (spAt sps i) a v→keepB sps k q.1=true:=fun hq=>by rw [ext_at _ _ _ _ _ q hq];exact hsk
     have ek:q∈ext w0 k ok (spAt sps k) a u→keepB sps i q.1=true:=fun hq=>by rw [ext_at _ _ _ _ _ q hq];exact hsi
     constructor
     ·rintro (h | ⟨h | ⟨h,h1⟩,h2⟩)
      ·exact .inr ⟨.inl h,ei h⟩
      ·exact .inl h
      ·exact .inr ⟨.inr ⟨h,h2⟩,h1⟩
     ·rintro (h | ⟨h | ⟨h,h1⟩,h2⟩)
      ·exact .inr ⟨.inl h,ek h⟩
      ·exact .inl h
      ·exact .inr ⟨.inr ⟨h,h2⟩,h1⟩
    ·rw [if_neg hwi] at h0 ⊢
     intro ok' hok'
     obtain rfl:ok=ok':=Option.some.inj (hok.symm.trans hok')
     rw [wi,if_pos hwk]
     refine ⟨zB5 (hns k ok hok) (fun x hx=>((zAR ap a undef).2 x hx).symm) (zDb _ _ _).symm (zBr _ _ _).symm (fun _ _=>Iff.rfl) hcl,fun u hu=>?_⟩
     rw [zBf (zAR ap a undef).2] at hu
     have h1:=Lx_pull hE hns hoi U2 U1 _ _ hin' (hnext u hu)
     rw [wk,if_neg hwi,Act.put_comm a u undef a2] at h1
     rw [zDw (zAR ap a undef).2]
     exact h1
   ·rw [if_neg hwk] at hk
    have h0:=Lx_pull hE hns hoi U2 U1 _ _ hin' hk
    rw [wk] at h0
    by_cases hwi:Region.wanted oi (yielded ops a.tmps)=true
    ·rw [if_pos hwi] at h0 ⊢
     refine ⟨zB5 (hns i oi hoi) (zAR ap a undef).1 (zDb _ _ _) (zBr _ _ _) (fun _ _=>Iff.rfl) h0.1,fun v hv=>?_⟩
     intro ok' hok'
     obtain rfl:ok=ok':=Option.some.inj (hok.symm.trans hok')
     rw [wi,if_neg hwk]
     have h2:=h0.2 v (by rw [zBf (zAR ap a undef).1];exact hv)
     rw [Act.put_comm a undef v a2,zDw (zAR ap a undef).1] at h2
     exact h2
    ·rw [if_neg hwi] at h0 ⊢
     intro ok' hok'
     obtain rfl:ok=ok':=Option.some.inj (hok.symm.trans hok')
     rw [wi,if_neg hwk]
     rw [Act.put_comm a undef undef a2] at h0
     exact h0
end
structure GoI (P:Program) (ops:Array Oper) (w0:World) (rows:List (Option Nat)) (pres:Pres) (sps:List Sp) (E:Act→Facts→Prop) (U:List Nat) (listed:Array Bool) (a:Act) (w:World) (D:Facts) (foot:Nat→Foot) (grp:Nat→Nat):Prop where
 size:listed.size=ops.size
 u : ∀ i,i∈U↔i<ops.size∧listed.getD i false=false
 sorted:U.Pairwise (· < ·)
 lx:Lx P ops w0 rows pres sps E U a D
 far:Far rows w0 w
 facts : ∀ q∈D,listed.getD q.1 false=true∧Stab q.2∧q.2 (fun k=>OldB w0 rows k∨foot q.1 k) w
 new_ : ∀ i,listed.getD i false=true → ∀ k,foot i k→k<w.heap.size ∧ ¬ OldB w0 rows k
 old_ : ∀ i,listed.getD i false=true → ∀ k,foot i k→k<w0.heap.size → ∃ m p0,listed.getD m false=true∧(m,some k,p0)∈pres
 closed : ∀ m j,listed.getD m false=true→waitsT ops m j=true→listed.getD j false=true
 dis : ∀ i j,listed.getD i false=true→listed.getD j false=true → ∀ k,foot i k→foot j k→grp i=grp j
 kept : ∀ k,k<w0.heap.size→(∀ m p0,listed.getD m false=true→(m,some k,p0) ∉ pres)→w.heap[k]?=w0.heap[k]?
 gal : ∀ i T Z,listed.getD i false=true→(∃ k,foot i k)→spAt sps (grp i) = .al T Z→i=grp i ∨ ∃ T' n,spAt sps i = .st (grp i) T' n
 ents : ∀ q∈D, ∀ T Z,spAt sps q.1 = .al T Z → ∃ v,q.2=alP w0.heap.size v T Z.size
 gself : ∀ i T Z,spAt sps i = .al T Z→listed.getD i false=true→grp i=i
 gst:ovs sps=true → ∀ i,listed.getD i false=true→grp i=gAt sps i
structure Once (w0:World) (rows:List (Option Nat)) (pres:Pres) (sps:List Sp):Prop where
 st : ∀ i i' j T n T' n',spAt sps i = .st j T n→spAt sps i' = .st j T' n'→i=i'
 wr : ∀ q∈pres, ∀ q'∈pres, ∀ k,q.2.1=some k→q'.2.1=some k→q=q'
 row : ∀ q∈pres, ∀ k,q.2.1=some k→some k∈rows∧k<w0.heap.size
 at_ : ∀ q∈pres,q.2.2 w0
 stab : ∀ q∈pres, ∀ w,Agree (fun k=>k<w0.heap.size∧(some k ∉ rows∨some k=q.2.1)) w0 w→q.2.2 w
section
variable {P:Program} {ops:Array Oper} {w0:World} {rows:List (Option Nat)} {pres:Pres} {sps:List Sp} {E:Act→Facts→Prop} {i:Nat} {o:Oper} {a:Act} {D:Facts} {w w':World} {U1 U2:List Nat} {listed:Array Bool} {foot:Nat→Foot} {grp:Nat→Nat} {v:Value}
theorem GoI.next (h:GoI P ops w0 rows pres sps E (U1++i::U2) listed a w D foot grp) (hdep : ∀ j,waitsT ops i j=true→listed.getD j false=true) (X:Facts) (f:Foot) (g:Nat) {D1:Facts} (hD1 : ∀ q∈D1,q∈D) (hgs:ovs sps=true→g=gAt sps i) (hlx:Lx P ops w0 rows pres sps E (U1++U2) (a.put o.dst v) (X++D1)) (hfar:Far rows w0 w')
 (hold : ∀ q∈D1,q.2 (fun k=>OldB w0 rows k∨foot q.1 k) w') (hX : ∀ q∈X,q.1=i∧Stab q.2∧q.2 (fun k=>OldB w0 rows k∨f k) w') (hsz:w.heap.size≤w'.heap.size)
 (hnew : ∀ k,f k→k<w'.heap.size ∧ ¬ OldB w0 rows k) (ho : ∀ k,f k→k<w0.heap.size→(∃ p0,(i,some k,p0)∈pres) ∨ ∃ j,listed.getD j false=true∧foot j k)
 (hd : ∀ j,listed.getD j false=true → ∀ k,f k→foot j k→g=grp j) (hk : ∀ k,k<w0.heap.size→(∀ p0,(i,some k,p0) ∉ pres)→(∀ m p0,listed.getD m false=true→(m,some k,p0) ∉ pres)→w'.heap[k]?=w.heap[k]?)
 (hg : ∀ T Z,(∃ k,f k)→spAt sps g = .al T Z→i=g ∨ ∃ T' n,spAt sps i = .st g T' n) (hs : ∀ T Z,spAt sps i = .al T Z→g=i) (he : ∀ q∈X, ∀ T Z,spAt sps i = .al T Z → ∃ v,q.2=alP w0.heap.size v T Z.size) :
 ∃ D' foot' grp',GoI P ops w0 rows pres sps E (U1++U2) (listed.setIfInBounds i true) (a.put o.dst v) w' D' foot' grp':=by
 obtain ⟨hin,hil⟩:=(h.u i).1 (by simp)
 have his:i<listed.size:=by rw [h.size];exact hin
 have L : ∀ j,(listed.setIfInBounds i true).getD j false=true→j=i∨listed.getD j false=true:=fun j hj=>by
  rw [zA0 his] at hj
  by_cases e:j=i
  ·exact .inl e
  ·rw [if_neg e] at hj;exact .inr hj
 have L' : ∀ j,listed.getD j false=true→j≠i:=fun j hj e=>by rw [e,hil] at hj;cases hj
 have Lm : ∀ j,listed.getD j false=true→(listed.setIfInBounds i true).getD j false=true:=fun j hj=>by rw [zA0 his,if_neg (L' j hj)];exact hj
 have Li:(listed.setIfInBounds i true).getD i false=true:=by rw [zA0 his,if_pos rfl]
 have hnin : ∀ j∈U1++U2,j≠i:=fun j hj e=>by
  subst e
  have hp:=h.sorted
  rw [List.pairwise_append] at hp
  rcases List.mem_append.1 hj with hj | hj
  ·exact absurd (hp.2.2 j hj j (by simp)) (by omega)
  ·exact absurd ((List.pairwise_cons.1 hp.2.1).1 j hj) (by omega)
 refine ⟨X++D1,fun j=>if j=i then f else foot j,fun j=>if j=i then g else grp j,?_⟩
 constructor
 ·rw [Array.size_setIfInBounds];exact h.size
 ·intro j
  rw [zA0 his]
  constructor
  ·intro hj
   have hne:=hnin j hj
   have:=(h.u j).1 (by rcases List.mem_append.1 hj with hj | hj<;>simp [hj])
   rw [if_neg hne];exact this
  ·rintro ⟨h1,h2⟩
   by_cases e:j=i
   ·rw [if_pos e] at h2;cases h2
   ·rw [if_neg e] at h2
    have:=(h.u j).2 ⟨h1,h2⟩
    rcases List.mem_append.1 this with hj | hj
    ·simp [hj]
    ·rcases List.mem_cons.1 hj with hj | hj
     ·exact absurd hj e
     ·simp [hj]
 ·have hp:=h.sorted
  rw [List.pairwise_append] at hp ⊢
  exact ⟨hp.1,(List.pairwise_cons.1 hp.2.1).2,fun x hx y hy=>hp.2.2 x hx y (by simp [hy])⟩
 ·exact hlx
 ·exact hfar
 ·intro q hq
  rcases List.mem_append.1 hq with hq | hq
  ·obtain ⟨e,h1,h2⟩:=hX q hq
   refine ⟨by rw [e];exact Li,h1,?_⟩
   simp only [e,if_true]
   exact h2
  ·obtain ⟨h1,h2,_⟩:=h.facts q (hD1 q hq)
   refine ⟨Lm _ h1,h2,?_⟩
   simp only [if_neg (L' _ h1)]
   exact hold q hq
 ·intro j hj k hk
  rcases L j hj with e | hj
  ·subst e;simp only [if_true] at hk;exact hnew k hk
  ·simp only [if_neg (L' j hj)] at hk
   obtain ⟨h1,h2⟩:=h.new_ j hj k hk
   exact ⟨Nat.lt_of_lt_of_le h1 hsz,h2⟩
 ·intro j hj k hk hk0
  rcases L j hj with e | hj
  ·subst e
   simp only [if_true] at hk
   rcases ho k hk hk0 with ⟨p0,e⟩ | ⟨j',h1,h2⟩
   ·exact ⟨j,p0,Li,e⟩
   ·obtain ⟨m,p0,h3,h4⟩:=h.old_ j' h1 k h2 hk0
    exact ⟨m,p0,Lm _ h3,h4⟩
  ·simp only [if_neg (L' j hj)] at hk
   obtain ⟨m,p0,h3,h4⟩:=h.old_ j hj k hk hk0
   exact ⟨m,p0,Lm _ h3,h4⟩
 ·intro m j hm hw
  rcases L m hm with e | hm
  ·rw [e] at hw;exact Lm _ (hdep j hw)
  ·exact Lm _ (h.closed m j hm hw)
 ·intro j j' hj hj' k hk hk'
  rcases L j hj with e | hl
  ·rcases L j' hj' with e' | hl'
   ·rw [e,e']
   ·rw [if_pos e] at hk ⊢
    rw [if_neg (L' j' hl')] at hk' ⊢
    exact hd j' hl' k hk hk'
  ·rcases L j' hj' with e' | hl'
   ·rw [if_pos e'] at hk' ⊢
    rw [if_neg (L' j hl)] at hk ⊢
    exact (hd j hl k hk' hk).symm
   ·rw [if_neg (L' j hl)] at hk ⊢
    rw [if_neg (L' j' hl')] at hk' ⊢
    exact h.dis j j' hl hl' k hk hk'
 ·intro k hk0 hm
  rw [hk k hk0 (fun p0=>hm i p0 Li) fun m p0 hl=>hm m p0 (Lm m hl)]
  exact h.kept k hk0 fun m p0 hl=>hm m p0 (Lm m hl)
 ·intro j T Z hj
  rcases L j hj with e | hj
  ·subst e;simp only [if_true];exact hg T Z
  ·simp only [if_neg (L' j hj)];exact h.gal j T Z hj
 ·intro q hq T Z hsp
  rcases List.mem_append.1 hq with hq | hq
  ·rw [(hX q hq).1] at hsp
   exact he q hq T Z hsp
  ·exact h.ents q (hD1 q hq) T Z hsp
 ·intro j T Z hsp hj
  rcases L j hj with e | hj
  ·subst e;simp only [if_true];exact hs T Z hsp
  ·simp only [if_neg (L' j hj)];exact h.gself j T Z hsp hj
 ·intro hov j hj
  rcases L j hj with e | hj
  ·subst e;simp only [if_true];exact hgs hov
  ·simp only [if_neg (L' j hj)];exact h.gst hov j hj
theorem GoI.keep (h:GoI P ops w0 rows pres sps E (U1++i::U2) listed a w D foot grp) (hb:Below w.heap.size w w') : ∀ q∈D,q.2 (fun k=>OldB w0 rows k∨foot q.1 k) w':=fun q hq=>by
 obtain ⟨_,h2,h3⟩:=h.facts q hq
 exact h2 _ _ w w' (fun _ h=>h) ⟨hb.size,fun k hk _=>hb.block k hk⟩ h3
theorem GoI.pre (once:Once w0 rows pres sps) (h:GoI P ops w0 rows pres sps E (U1++i::U2) listed a w D foot grp) {q:Nat×Option Nat×(World→Prop)} (hq:q∈pres) (hn:listed.getD q.1 false=false):q.2.2 w:=
 once.stab q hq w ⟨h.far.size,fun k hk hf=>by
  rcases hf.2 with hf | hf
  ·exact h.far.block k hk hf
  ·refine h.kept k hk fun m p0 hm hp=>?_
   have:=once.wr q hq _ hp k hf.symm rfl
   rw [this] at hn
   rw [hn] at hm
   cases hm⟩
theorem GoI.have_ (once:Once w0 rows pres sps) (hil:listed.getD i false=false) (h:GoI P ops w0 rows pres sps E (U1++i::U2) listed a w D foot grp):Have ops pres i D w:=⟨fun q hq _=>⟨_,(h.facts q hq).2.2⟩,fun q hq hw=>h.pre once hq (by
 cases e:listed.getD q.1 false with
 | false=>rfl
 | true=>have:=h.closed _ _ e hw;rw [hil] at this;cases this)⟩
theorem does_wp {Q:Exit→Act→World→Prop} {K:Act→World→Prop} {post:Value→World→Prop} (h:doesAt P o a w post) (hK : ∀ u w',post u w'→K (a.put o.dst u) w'):o.wp P a w K Q:=by
 unfold doesAt Oper.wp at *
 generalize (execOp a.eval o).run P w=r at *
 cases r with
 | ok n w2=>
   cases n<;>simp only [Oper.upon] at h ⊢
   case value v=>obtain ⟨u,e,q⟩:=h;rw [e];exact hK _ _ q
   case skip=>obtain ⟨u,e,q⟩:=h;rw [e];exact hK _ _ q
   case defer d=>
    obtain ⟨u,e,q⟩:=h
    have e1:=congrArg (fun x:Act=>x.defers.length) e
    simp [zBr] at e1
   case enter f args=>
    refine Calls.mono h ?_
    intro e w3 he
    cases e with
    | returned v=>obtain ⟨u,e,q⟩:=he;simp only;rw [e];exact hK _ _ q
    | panicked c=>exact he.elim
    | outgrown=>obtain ⟨_,_,hf⟩:=he;exact hf.elim
   case row r args=>
    refine Rows.mono h ?_
    rintro v w3 ⟨u,e,q⟩
    rw [e];exact hK _ _ q
 | halt x w2=>cases x<;>simp only [Oper.upon] at h
theorem gOf_al {T:TypeId} {Z:Array Value} (h:spAt sps i = .al T Z) : ∀ f,gOf sps f i=i
 | 0=>rfl
 | f+1=>by unfold gOf;rw [h]
theorem gAt_al {T:TypeId} {Z:Array Value} (h:spAt sps i = .al T Z):gAt sps i=i:=gOf_al h _
structure OvOk (ops:Array Oper) (sps:List Sp):Prop where
 g:ovs sps=true → ∀ i,i<ops.size→gOk sps i=true
 sep : ∀ i k,i<ops.size→k<ops.size→isOv (spAt sps i)=true→k≠i→waitsT ops i k=false→waitsT ops k i=false→gAt sps k≠gAt sps i ∧ ∀ m,m<ops.size→gAt sps m=gAt sps i→waitsT ops k m=false
theorem ovs_at {i:Nat} (h:isOv (spAt sps i)=true):ovs sps=true:=by
 unfold ovs
 rw [List.any_eq_true]
 unfold spAt at h
 rw [List.getD_eq_getElem?_getD] at h
 cases e:sps[i]? with
 | none=>rw [e] at h;simp [isOv] at h
 | some s=>rw [e] at h;exact ⟨s,List.mem_of_getElem? e,h⟩
theorem ovOk_of (h:ovB ops sps=true):OvOk ops sps:=by
 unfold ovB at h
 rw [Bool.or_eq_true] at h
 have h2:ovs sps=true → ∀ i,i<ops.size→gOk sps i=true∧(isOv (spAt sps i)=true → ∀ k,k<ops.size→sepB ops sps i k=true):=fun ho i hi=>by
  rcases h with h | h
  ·rw [ho] at h;cases h
  ·have:=List.all_eq_true.1 h i (List.mem_range.2 hi)
   rw [Bool.and_eq_true] at this
   refine ⟨this.1,fun hv k hk=>?_⟩
   have h3:=this.2
   rw [hv] at h3
   exact List.all_eq_true.1 (by simpa using h3) k (List.mem_range.2 hk)
 refine ⟨fun ho i hi=>(h2 ho i hi).1,fun i k hi hk hv hne hik hki=>?_⟩
 have h3:=(h2 (ovs_at hv) i hi).2 hv k hk
 unfold sepB at h3
 rw [hik,hki] at h3
 simp only [Bool.or_false,Bool.or_eq_true,beq_iff_eq,hne,false_or,Bool.and_eq_true,bne_iff_ne,ne_eq] at h3
 refine ⟨h3.1,fun m hm hg=>?_⟩
 have h4:=List.all_eq_true.1 h3.2 m (List.mem_range.2 hm)
 rw [hg] at h4
 simpa using h4
theorem keepB_sep (hov:OvOk ops sps) {i k:Nat} (hi:i<ops.size) (hk:k<ops.size) (hne:k≠i) (hik:waitsT ops i k=false) (hki:waitsT ops k i=false):keepB sps i k=true ∧ ∀ m,m<ops.size→waitsT ops k m=true→keepB sps i m=true:=by
 unfold keepB
 cases hv:isOv (spAt sps i) with
 | false=>simp
 | true=>
   obtain ⟨h1,h2⟩:=hov.sep i k hi hk hv hne hik hki
   refine ⟨by simpa using h1,fun m hm hw=>?_⟩
   have:gAt sps m≠gAt sps i:=fun e=>by have:=h2 m hm e;rw [hw] at this;cases this
   simpa using this
theorem GoI.step {Q:Exit→Act→World→Prop} (hov:OvOk ops sps) (once:Once w0 rows pres sps) (hz : ∀ k,OldB w0 rows k→k<w0.heap.size) (ho:ops[i]?=some o) (hdep : ∀ j,waitsT ops i j=true→listed.getD j false=true)
 (hpull:if Region.wanted o (yielded ops a.tmps)=true then claim P ops w0 rows pres sps i o (spAt sps i) a D ∧ ∀ v,dom (spAt sps i) (vals o a) v→Lx P ops w0 rows pres sps E (U1++U2) (a.put o.dst v) (ext w0 i o (spAt sps i) a v++keepD sps i (spAt sps i) D) else Lx P ops w0 rows pres sps E (U1++U2) (a.put o.dst undef) D)
 (h:GoI P ops w0 rows pres sps E (U1++i::U2) listed a w D foot grp) :
 wpOp P ops Q i (fun a' w' => ∃ D' foot' grp',GoI P ops w0 rows pres sps E (U1++U2) (listed.setIfInBounds i true) a' w' D' foot' grp') a w:=by
 have hil:listed.getD i false=false:=((h.u i).1 (by simp)).2
 have hik:i<ops.size:=((h.u i).1 (by simp)).1
 have hsz0:=h.far.size
 have hgok:=fun ho=>hov.g ho i hik
 unfold gOk at hgok
 have hhv:=h.have_ once hil
 have hne : ∀ j,listed.getD j false=true→j≠i:=fun j hj e=>by rw [e,hil] at hj;cases hj
 have hB : ∀ {w'},Below w.heap.size w w'→Far rows w0 w':=fun hb=>h.far.then_ (T:=[]) (Far.of_below hb) (fun k hk=>by simp at hk)
 unfold wpOp
 rw [ho]
 simp only
 by_cases hw:Region.wanted o (yielded ops a.tmps)=true
 ·rw [if_pos hw] at hpull ⊢
  obtain ⟨hcl,hnx⟩:=hpull
  left
  cases hs:spAt sps i with
  | det f=>
    rw [hs] at hcl hnx hgok
    refine does_wp (hcl w h.far hhv) ?_
    rintro u w' ⟨rfl,hb⟩
    exact h.next hdep [] (fun _=>False) (gAt sps i) (fun _ h=>h) (fun _=>rfl) (hnx _ rfl) (hB hb) (h.keep hb) (fun q hq=>by simp at hq) hb.size (fun k hk=>hk.elim) (fun k hk=>hk.elim) (fun _ _ k hk=>hk.elim) (fun k hk _ _=>hb.block k (by omega)) (fun T Z hf _=>hf.elim fun _ h=>h.elim) (fun T Z e=>by rw [hs] at e;cases e) (fun q hq=>by simp at hq)
  | new r=>
    rw [hs] at hcl hnx hgok
    refine does_wp (hcl.2 w h.far hhv) ?_
    rintro u w' ⟨hb,hr⟩
    refine h.next hdep [(i,r (vals o a) u)] (fun k=>w.heap.size≤k∧k<w'.heap.size) i (fun _ h=>h) (fun ho=>by have:=hgok ho;simp only [beq_iff_eq] at this;exact this.symm) (hnx u trivial) (hB hb) (h.keep hb) (fun q hq=>?_) hb.size (fun k hk=>⟨hk.2,fun ho=>by have:=ho.1;omega⟩) (fun k hk h0=>by omega) (fun j hj k hk hf=>by have:=(h.new_ j hj k hf).1;omega) (fun k hk _ _=>hb.block k (by omega)) (fun T Z _ _ => .inl rfl) (fun _ _ _=>rfl) (fun q hq T Z e=>by rw [hs] at e;cases e)
    rw [List.mem_singleton] at hq
    subst hq
    exact ⟨rfl,hcl.1 _ u,hr _ (fun k hk => .inl hk) (fun k hk=>by cases hk) (fun k h1 h2 => .inr ⟨h1,h2⟩)⟩
  | der j r=>
    rw [hs] at hcl hnx hgok
    obtain ⟨h1,h2,h3,h4⟩:=hcl
    have hj:=hdep j h2
    refine does_wp (h4 w (fun k=>OldB w0 rows k∨foot j k) h.far (fun k hk => .inl hk) hhv (fun p hp=>(h.facts _ hp).2.2)) ?_
    rintro u w' ⟨rfl,hr⟩
    refine h.next hdep [(i,r (vals o a) u)] (foot j) (grp j) (fun _ h=>h) (fun ho=>by have:=hgok ho;simp only [beq_iff_eq] at this;rw [this];exact h.gst ho j hj) (hnx u trivial) h.far (fun q hq=>(h.facts q hq).2.2) (fun q hq=>?_) (Nat.le_refl _) (h.new_ j hj) (fun k hk h0 => .inr ⟨j,hj,hk⟩) (fun j' hj' k hk hk'=>h.dis j j' hj hj' k hk hk') (fun k _ _ _=>rfl) (fun T Z hf e=>?_) (fun T Z e=>by rw [hs] at e;cases e) (fun q hq T Z e=>by rw [hs] at e;cases e)
    ·rw [List.mem_singleton] at hq
     subst hq
     exact ⟨rfl,h1 _ u,hr⟩
    ·rcases h.gal j T Z hj hf e with e1 | ⟨T',n,e1⟩
     ·rw [←e1] at e;rw [e] at h3;cases h3
     ·rw [e1] at h3;cases h3
  | al T Z=>
    rw [hs] at hcl hnx hgok
    refine alloc_step hcl.1 (hcl.2 w) ?_
    have hb:Below w.heap.size w (w.alloc (.cells Z T)):=(Below.refl _ _).alloc (Nat.le_refl _) _
    have hs1:(w.alloc (.cells Z T)).heap.size=w.heap.size+1:=zA4 _ _
    refine h.next hdep [(i,alP w0.heap.size (.pointer (some ⟨w.heap.size,0,none⟩)) T Z.size)] (fun k=>k=w.heap.size) i (fun _ h=>h) (fun ho=>by have:=hgok ho;simp only [beq_iff_eq] at this;exact this.symm) (hnx _ trivial) (hB hb) (h.keep hb) (fun q hq=>?_) hb.size (fun k hk=>⟨by omega,fun ho=>by have:=ho.1;omega⟩) (fun k hk h0=>by omega) (fun j hj k hk hf=>by have:=(h.new_ j hj k hf).1;omega) (fun k hk _ _=>hb.block k (by omega)) (fun T Z _ _ => .inl rfl) (fun _ _ _=>rfl) (fun q hq T' Z' e=>?_)
    ·rw [List.mem_singleton] at hq
     subst hq
     exact ⟨rfl,alP_stab _ _ _ _,w.heap.size,rfl,hsz0, .inr rfl,Z,rfl,Blk.new _ _ _⟩
    ·rw [List.mem_singleton] at hq
     subst hq
     rw [hs] at e
     injection e with e1 e2
     subst e1 e2
     exact ⟨_,rfl⟩
  | st j T n=>
    rw [hs] at hcl hnx hgok
    obtain ⟨h1,h2,h3,⟨Z,h4,h5⟩,x,y,h6,h7,h8⟩:=hcl
    have hj:=hdep j h1
    obtain ⟨cs,hy,hcs,hone⟩:=h8 w h.far hhv
    obtain ⟨b,hb1,hb2,hb3,c0,hc0,hbk⟩:=(h.facts _ h7).2.2
    have hfj:foot j b:=hb3.resolve_left fun ho=>by have:=ho.1;omega
    have hgj:grp j=j:=h.gself j T Z h4 hj
    refine wp_store_row T x y h6 b cs hb1 hy T c0 hbk (by rw [hcs];exact h3) (hc0.trans hcs.symm) hone ?_
    have hn:=hnx undef rfl
    have hext:ext w0 i o (.st j T n) a undef=[(i,stP w0.heap.size (a.eval x) (a.eval y) T)]:=by simp only [ext,h6]
    rw [hext] at hn
    have hset : ∀ k,k≠b→(w.setRow b cs).heap[k]?=w.heap[k]?:=fun k hk=>setRow_other _ _ _ _ hk
    have hss:(w.setRow b cs).heap.size=w.heap.size:=by simp
    refine h.next hdep [(i,stP w0.heap.size (a.eval x) (a.eval y) T)] (foot j) (grp j) (fun _ h=>h) (fun ho=>by have:=hgok ho;simp only [beq_iff_eq] at this;rw [hgj,this]) hn ?_ (fun q hq=>?_) (fun q hq=>?_) (by omega) (fun k hk=>by rw [hss];exact h.new_ j hj k hk) (fun k hk h0 => .inr ⟨j,hj,hk⟩) (fun j' hj' k hk hk'=>h.dis j j' hj hj' k hk hk') (fun k hk _ _=>hset k (by omega)) (fun T' Z' _ _ => .inr ⟨T,n,by rw [hgj];exact hs⟩) (fun T Z e=>by rw [hs] at e;cases e) (fun q hq T Z e=>by rw [hs] at e;cases e)
    ·exact ⟨h.far.os,h.far.tape,h.far.output,by rw [hss];exact h.far.size,fun k hk hn=>(hset k (by omega)).trans (h.far.block k hk hn)⟩
    ·obtain ⟨hl,hst,hq2⟩:=h.facts q hq
     by_cases hfb:foot q.1 b
     ·have hg:=h.dis q.1 j hl hj b hfb hfj
      rw [hgj] at hg
      have hqj:q.1=j:=by
       rcases h.gal q.1 T Z hl ⟨b,hfb⟩ (by rw [hg];exact h4) with e | ⟨T',n',e⟩
       ·rw [e,hg]
       ·rw [hg] at e
        exact absurd (once.st _ _ _ _ _ _ _ e hs) (hne _ hl)
      obtain ⟨v,hv⟩:=h.ents q hq T Z (by rw [hqj];exact h4)
      rw [hv] at hq2 ⊢
      obtain ⟨b',e1,e2,e3,c1,hc1,hk1⟩:=hq2
      refine ⟨b',e1,e2,e3,?_⟩
      by_cases hbb:b'=b
      ·subst hbb
       exact ⟨cs,by rw [hcs,h5],setRow_heap _ _ _ _ _ _ hk1⟩
      ·exact ⟨c1,hc1,(hset b' hbb).trans hk1⟩
     ·refine hst _ _ w _ (fun _ h=>h) ⟨by omega,fun k hk hf=>hset k fun e=>?_⟩ hq2
      subst e
      rcases hf with hf | hf
      ·have:=hf.1;omega
      ·exact hfb hf
    ·rw [List.mem_singleton] at hq
     subst hq
     exact ⟨rfl,stP_stab _ _ _ _,b,cs,hb1,hy,hb2, .inr hfj,setRow_heap _ _ _ _ _ _ hbk⟩
  | wr r=>
    rw [hs] at hcl hnx hgok
    obtain ⟨h1,row,p0,h3,h4⟩:=hcl
    have hnl : ∀ k,some k=row → ∀ m p,listed.getD m false=true→(m,some k,p) ∉ pres:=fun k hk m p hm hp=>by
     have e:=once.wr _ h3 _ hp k hk.symm rfl
     injection e with e _
     exact hne m hm e.symm
    have hrow : ∀ k,some k=row→some k∈rows∧k<w0.heap.size:=fun k hk=>once.row _ h3 k hk.symm
    have hp:p0 w:=h.pre once h3 hil
    refine does_wp (h4 w h.far hhv hp) ?_
    rintro u w' ⟨hb,hr⟩
    have hblk : ∀ k,k<w.heap.size→some k≠row→w'.heap[k]?=w.heap[k]?:=fun k hk hn=>hb.block k hk hn
    have hoth : ∀ j,listed.getD j false=true → ∀ k,foot j k→some k≠row:=fun j hj k hf e=>by
     obtain ⟨m,p,hm,e1⟩:=h.old_ j hj k hf (hrow k e).2
     exact hnl k e m p hm e1
    refine h.next hdep [(i,r (vals o a) u)] (fun k=>(w.heap.size≤k∧k<w'.heap.size)∨some k=row) i (fun _ h=>h) (fun ho=>by have:=hgok ho;simp only [beq_iff_eq] at this;exact this.symm) (hnx u trivial) ?_ (fun q hq=>?_) (fun q hq=>?_) hb.size (fun k hk=>?_) (fun k hk h0=>?_) (fun j hj k hk hf=>?_) (fun k hk hn _=>hblk k (by omega) fun e=>?_) (fun T Z _ _ => .inl rfl) (fun _ _ _=>rfl) (fun q hq T Z e=>by rw [hs] at e;cases e)
    ·exact ⟨hb.os.trans h.far.os,hb.tape.trans h.far.tape,hb.output.trans h.far.output,Nat.le_trans hsz0 hb.size,fun k hk hn=>(hblk k (by omega) fun e=>hn (hrow k e).1).trans (h.far.block k hk hn)⟩
    ·obtain ⟨hl,hst,hq2⟩:=h.facts q hq
     refine hst _ _ w w' (fun _ h=>h) ⟨hb.size,fun k hk hf=>hblk k hk fun e=>?_⟩ hq2
     rcases hf with hf | hf
     ·exact hf.2 (hrow k e).1
     ·exact hoth _ hl k hf e
    ·rw [List.mem_singleton] at hq
     subst hq
     exact ⟨rfl,h1 _ u,hr _ (fun k hk => .inl hk) (fun k hk => .inr (.inr hk)) (fun k h1 h2 => .inr (.inl ⟨h1,h2⟩))⟩
    ·rcases hk with hk | hk
     ·exact ⟨hk.2,fun ho=>by have:=ho.1;omega⟩
     ·exact ⟨by have:=(hrow k hk).2;have:=hb.size;omega,fun ho=>ho.2 (hrow k hk).1⟩
    ·rcases hk with hk | hk
     ·omega
     ·exact .inl ⟨p0,by rw [hk];exact h3⟩
    ·rcases hk with hk | hk
     ·have:=(h.new_ j hj k hf).1;omega
     ·exact absurd hk (hoth j hj k hf)
    ·exact hn p0 (by rw [e];exact h3)
  | ov j r=>
    rw [hs] at hcl hnx hgok
    obtain ⟨h1,h2,h3,h4⟩:=hcl
    have hj:=hdep j h2
    obtain ⟨hgi,hal⟩:gAt sps i=gAt sps j∧noAl (spAt sps (gAt sps i))=true:=by have:=hgok (ovs_at (i:=i) (by rw [hs];rfl));simpa using this
    have hov1:ovs sps=true:=ovs_at (i:=i) (by rw [hs];rfl)
    refine does_wp (h4 w (fun k=>OldB w0 rows k∨foot j k) h.far (fun k hk => .inl hk) hhv (fun p hp=>(h.facts _ hp).2.2)) ?_
    rintro u w' ho
    have hset : ∀ k,k<w.heap.size → ¬ foot j k→w'.heap[k]?=w.heap[k]?:=fun k hk hn=>ho.block k hk fun h=>h.resolve_right hn
    have hold : ∀ k,k<w.heap.size→OldB w0 rows k→w'.heap[k]?=w.heap[k]?:=fun k hk hn=>ho.block k hk fun _=>hn
    have hnew:=h.new_ j hj
    refine h.next hdep [(i,r (vals o a) u)] (fun k=>foot j k∨(w.heap.size≤k∧k<w'.heap.size)) (grp j) (D1:=keepD sps i (.ov j r) D) (fun q hq=>?_) (fun _=>?_) (hnx u trivial) ?_ (fun q hq=>?_) (fun q hq=>?_) ho.size (fun k hk=>?_) (fun k hk h0=>?_) (fun j' hj' k hk hk'=>?_) (fun k hk hn hm=>?_) (fun T Z hf e=>?_) (fun T Z e=>by rw [hs] at e;cases e) (fun q hq T Z e=>by rw [hs] at e;cases e)
    ·exact (List.mem_filter.1 hq).1
    ·rw [hgi];exact h.gst hov1 j hj
    ·exact ⟨ho.os.trans h.far.os,ho.tape.trans h.far.tape,ho.output.trans h.far.output,Nat.le_trans hsz0 ho.size,fun k hk hn=>(hold k (by omega) ⟨hk,hn⟩).trans (h.far.block k hk hn)⟩
    ·obtain ⟨hq,hg⟩:=List.mem_filter.1 hq
     obtain ⟨hl,hst,hq2⟩:=h.facts q hq
     refine hst _ _ w w' (fun _ h=>h) ⟨ho.size,fun k hk hf=>?_⟩ hq2
     rcases hf with hf | hf
     ·exact hold k hk hf
     ·refine hset k hk fun hfj=>?_
      have e:=h.dis q.1 j hl hj k hf hfj
      rw [h.gst hov1 q.1 hl,h.gst hov1 j hj,←hgi] at e
      simp [e] at hg
    ·rw [List.mem_singleton] at hq
     subst hq
     exact ⟨rfl,h1 _ u,ho.rel _ (fun k hk=>hk.imp id .inl) (fun k h1 h2 => .inr (.inr ⟨h1,h2⟩))⟩
    ·rcases hk with hk | hk
     ·exact ⟨Nat.lt_of_lt_of_le (hnew k hk).1 ho.size,(hnew k hk).2⟩
     ·exact ⟨hk.2,fun ho=>by have:=ho.1;omega⟩
    ·rcases hk with hk | hk
     ·exact .inr ⟨j,hj,hk⟩
     ·omega
    ·rcases hk with hk | hk
     ·exact h.dis j j' hj hj' k hk hk'
     ·have:=(h.new_ j' hj' k hk').1;omega
    ·refine hset k (by omega) fun hfj=>?_
     obtain ⟨m,p0,hm1,hm2⟩:=h.old_ j hj k hfj hk
     exact hm m p0 hm1 hm2
    ·rw [h.gst hov1 j hj,←hgi] at e
     rw [e] at hal
     cases hal
 ·rw [if_neg hw] at hpull ⊢
  exact h.next hdep [] (fun _=>False) (gAt sps i) (fun _ h=>h) (fun _=>rfl) hpull h.far (fun q hq=>(h.facts q hq).2.2) (fun q hq=>by simp at hq) (Nat.le_refl _) (fun k hk=>hk.elim) (fun k hk=>hk.elim) (fun _ _ k hk=>hk.elim) (fun k hk _ _=>rfl) (fun T Z hf _=>hf.elim fun _ h=>h.elim) (fun T Z e=>gAt_al e) (fun q hq=>by simp at hq)
def pairsB (ops:Array Oper):Bool:=(List.range ops.size).all fun i=>(List.range i).all fun k=>waitsT ops i k||match ops[k]?,ops[i]? with
 | some x,some y=>x.apart ops y
 | _,_=>true
def noSelB (ops:Array Oper):Bool:=ops.all fun o=>match o.op with | .select _ _=>false | _=>true
theorem noSel_spec (h:noSelB ops=true) (i:Nat) (o:Oper) (ho:ops[i]?=some o) (cs:Array SelectCase) (b:Bool):o.op ≠ .select cs b:=by
 intro e
 unfold noSelB at h
 rw [Array.all_eq_true'] at h
 have:=h o (Array.mem_of_getElem? ho)
 rw [e] at this
 cases this
theorem waits_lt (hac:acyc ops=true) : ∀ (i:Nat) {k:Nat},waitsT ops i k=true→k<i:=by
 intro i
 induction i using Nat.strongRecOn with
 | _ i ih=>
   intro k h
   obtain ⟨o,ho,e,he,hb,h2⟩:=waitsT_spec h
   have hl:=acyc_spec hac ho he hb
   rcases h2 with h2 | ⟨_,h2⟩
   ·rw [←h2];exact hl
   ·exact Nat.lt_trans (ih e.on hl h2) hl
theorem range_split : ∀ (U:List Nat) (i:Nat),i∈U→U.Pairwise (· < ·) → ∃ U1 U2,U=U1++i::U2 ∧ ∀ k∈U1,k<i
 | [],i,h,_=>by simp at h
 | x::U,i,h,hp=>by
   rcases List.mem_cons.1 h with hx | hU
   ·subst hx;exact ⟨[],U,rfl,fun k hk=>by simp at hk⟩
   ·obtain ⟨h1,h2⟩:=List.pairwise_cons.1 hp
    obtain ⟨U1,U2,e,hl⟩:=range_split U i hU h2
    refine ⟨x::U1,U2,by rw [e];rfl,fun k hk=>?_⟩
    rcases List.mem_cons.1 hk with hk | hk
    ·rw [hk];exact h1 i hU
    ·exact hl k hk
def EndOf (w0:World) (rows:List (Option Nat)) (Q:Exit→Act→World→Prop) (a:Act) (D:Facts):Prop := ∀ w,Far rows w0 w→(∀ q∈D, ∃ F,q.2 F w)→Q .normal a w
theorem EndOf.mem {Q:Exit→Act→World→Prop} (a:Act) (D D':Facts) (hD : ∀ q,q∈D↔q∈D') (h:EndOf w0 rows Q a D):EndOf w0 rows Q a D':=fun w hw hq=>h w hw fun q h=>hq q ((hD q).1 h)
theorem wpAny_go {Q:Exit→Act→World→Prop} (hov:OvOk ops sps) (hac:acyc ops=true) (hap:pairsB ops=true) (hns:noSelB ops=true) (once:Once w0 rows pres sps) :
 ∀ (fuel:Nat) (U:List Nat) (listed:Array Bool) (a:Act) (w:World),(∃ D foot grp,GoI P ops w0 rows pres sps (EndOf w0 rows Q) U listed a w D foot grp)→U.length≤fuel→wpAny P .any ops Q fuel listed a w:=by
 have nil_end : ∀ listed a w,(∃ D foot grp,GoI P ops w0 rows pres sps (EndOf w0 rows Q) [] listed a w D foot grp)→Region.ready .any ops listed=[]∧Q .normal a w:=by
  rintro listed a w ⟨D,foot,grp,h⟩
  refine ⟨?_,h.lx w h.far fun q hq=>⟨_,(h.facts q hq).2.2⟩⟩
  rw [List.eq_nil_iff_forall_not_mem]
  intro i hi
  obtain ⟨h1,h2,_⟩:=zAt hi
  have:=(h.u i).2 ⟨h1,by rw [zAu (by rw [h.size];exact h1)];exact h2⟩
  simp at this
 intro fuel
 induction fuel with
 | zero=>
   intro U listed a w h hu
   obtain rfl:U=[]:=List.eq_nil_of_length_eq_zero (by omega)
   exact nil_end _ _ _ h
 | succ fuel ih=>
   intro U listed a w h hu
   refine ⟨fun h0=>?_,fun i hi=>?_⟩
   ·obtain ⟨D,foot,grp,hI⟩:=h
    cases U with
    | nil=>exact (nil_end _ _ _ ⟨D,foot,grp,hI⟩).2
    | cons x U=>
      obtain ⟨h1,h2⟩:=(hI.u x).1 (by simp)
      have:=all_listed hac hI.size h0 x h1
      rw [h2] at this
      cases this
   ·obtain ⟨D,foot,grp,hI⟩:=h
    obtain ⟨h1,h2,h3⟩:=zAt hi
    have ho:ops[i]?=some ops[i]:=Array.getElem?_eq_getElem h1
    have hl:listed.getD i false=false:=by rw [zAu (by rw [hI.size];exact h1)];exact h2
    obtain ⟨U1,U2,rfl,hlt⟩:=range_split U i ((hI.u i).2 ⟨h1,hl⟩) hI.sorted
    have hdep : ∀ j,waitsT ops i j=true→listed.getD j false=true:=fun j hj=>by
     obtain ⟨o,ho',e,he,hb,h4⟩:=waitsT_spec hj
     have hl:=h3 o ho' e he hb
     rcases h4 with h4 | ⟨_,h4⟩
     ·rw [←h4];exact hl
     ·exact hI.closed e.on j hl h4
    have hind : ∀ k∈U1, ∃ ok,ops[k]?=some ok∧Indep ops sps ok ops[i] k i:=fun k hk=>by
     obtain ⟨k1,k2⟩:=(hI.u k).1 (by simp [hk])
     have hki:=hlt k hk
     have hik:waitsT ops i k=false:=by
      cases hb:waitsT ops i k with
      | false=>rfl
      | true=>have:=hdep k hb;rw [k2] at this;cases this
     have hki2:waitsT ops k i=false:=by
      cases hb:waitsT ops k i with
      | false=>rfl
      | true=>have:=waits_lt hac _ hb;omega
     have s1:=keepB_sep hov h1 k1 (by omega) hik hki2
     have s2:=keepB_sep hov k1 h1 (by omega) hki2 hik
     refine ⟨ops[k],Array.getElem?_eq_getElem k1,?_,hik,hki2,fun m hw=>s1.2 m (by have:=waits_lt hac _ hw;omega) hw,fun m hw=>s2.2 m (by have:=waits_lt hac _ hw;omega) hw,s1.1,s2.1⟩
     have:=List.all_eq_true.1 (List.all_eq_true.1 hap i (List.mem_range.2 h1)) k (List.mem_range.2 hki)
     rw [hik,Array.getElem?_eq_getElem k1,ho] at this
     simpa using this
    refine wpOp_mono ?_ (GoI.step hov once (fun k hk=>hk.1) ho hdep (Lx_pull EndOf.mem (noSel_spec hns) ho U2 U1 a D hind hI.lx) hI)
    intro a' w' hn
    refine ih _ _ _ _ hn ?_
    simp only [List.length_append,List.length_cons] at hu ⊢
    omega
theorem zEG {Q:Exit→Act→World→Prop} {id:Nat} {a0:Act} {W:World} (hov:OvOk ops sps) (hm:P.follows .mixedOrders=true) (hac:acyc ops=true) (hap:pairsB ops=true) (hns:noSelB ops=true) (once:Once W.drew rows pres sps)
 (h:Lx P ops W.drew rows pres sps (EndOf W.drew rows Q) (List.range ops.size) a0 []):(Code.region id ops true).wp P Q a0 W:=by
 refine wp_region_any hm (wpAny_go (w0:=W.drew) (rows:=rows) (sps:=sps) hov hac hap hns once _ (List.range ops.size) _ _ _ ⟨[],fun _ _=>False,fun i=>i,?_⟩ (by simp))
 constructor
 ·simp
 ·intro i
  rw [List.mem_range,zA8]
  exact ⟨fun h=>⟨h,rfl⟩,fun h=>h.1⟩
 ·exact List.pairwise_lt_range
 ·exact h
 ·exact Far.refl _ _
 ·intro q hq;simp at hq
 ·intro i hi;rw [zA8] at hi;cases hi
 ·intro i hi;rw [zA8] at hi;cases hi
 ·intro i j hi;rw [zA8] at hi;cases hi
 ·intro i j hi;rw [zA8] at hi;cases hi
 ·intro k _ _;rfl
 ·intro i T Z hi;rw [zA8] at hi;cases hi
 ·intro q hq;simp at hq
 ·intro i T Z _ hi;rfl
 ·intro _ i hi;rw [zA8] at hi;cases hi
end
section
variable (P:Program) (ops:Array Oper) (w0:World) (rows:List (Option Nat)) (pres:Pres) (sps:List Sp) (E:Act→Facts→Prop)
def LxL : Nat→List Oper→List Sp→Act→Facts→Prop
 | _,[],_,a,D=>E a D
 | i,o::rest,s::ss,a,D=>if Region.wanted o (yielded ops a.tmps)=true then claim P ops w0 rows pres sps i o s a D ∧ ∀ v,dom s (vals o a) v→LxL (i+1) rest ss (a.put o.dst v) (ext w0 i o s a v++keepD sps i s D) else LxL (i+1) rest ss (a.put o.dst undef) D
 | _,_::_,[],_,_=>False
def exSp : Nat→(List Sp→Prop)→Prop
 | 0,Q=>Q []
 | n+1,Q => ∃ s,exSp n fun l=>Q (s::l)
def stsOf (sps:List Sp):List Nat:=sps.filterMap fun s=>match s with | .st j _ _=>some j | _=>none
end
section
variable {P:Program} {ops:Array Oper} {w0:World} {rows:List (Option Nat)} {pres:Pres} {sps:List Sp} {E:Act→Facts→Prop}
theorem zD6 : ∀ (rest:List Oper) (ss:List Sp) (i:Nat) (a:Act) (D:Facts),(∀ k,ops[i+k]?=rest[k]?)→(∀ k,sps[i+k]?=ss[k]?)→LxL P ops w0 rows pres sps E i rest ss a D→Lx P ops w0 rows pres sps E ((List.range rest.length).map (i + ·)) a D
 | [],_,_,_,_,_,_,h=>h
 | o::rest,[],_,_,_,_,_,h=>h.elim
 | o::rest,s::ss,i,a,D,ho,hs,h=>by
   have hsi:spAt sps i=s:=by
    have:=hs 0
    unfold spAt
    rw [List.getD_eq_getElem?_getD,show sps[i]?=some s from this]
    rfl
   have hoi:ops[i]?=some o:=ho 0
   rw [List.length_cons,List.range_succ_eq_map,List.map_cons,List.map_map]
   have key : ∀ a D,LxL P ops w0 rows pres sps E (i+1) rest ss a D→Lx P ops w0 rows pres sps E ((List.range rest.length).map ((fun x=>i+x) ∘ Nat.succ)) a D:=fun a D h=>by
    have:=zD6 rest ss (i+1) a D (fun k=>by have:=ho (k+1);rwa [show i+(k+1)=i+1+k from by omega] at this) (fun k=>by have:=hs (k+1);rwa [show i+(k+1)=i+1+k from by omega] at this) h
    rwa [show ((fun x=>i+x) ∘ Nat.succ)=fun x=>i+1+x from funext fun x=>by simp;omega]
   intro o' ho'
   obtain rfl:o=o':=Option.some.inj (hoi.symm.trans ho')
   rw [Nat.add_zero,hsi]
   unfold LxL at h
   split
   ·rename_i hw
    rw [if_pos hw] at h
    exact ⟨h.1,fun v hv=>key _ _ (h.2 v hv)⟩
   ·rename_i hw
    rw [if_neg hw] at h
    exact key _ _ h
theorem nodup_at {α β:Type} {f:α→Option β} : ∀ {l:List α} {i j:Nat} {x y:α} {z:β},(l.filterMap f).Nodup→l[i]?=some x→l[j]?=some y→f x=some z→f y=some z→i=j
 | [],i,_,_,_,_,_,h,_,_,_=>by simp at h
 | u::l,i,j,x,y,z,hn,hi,hj,hx,hy=>by
   have mem : ∀ {k:Nat} {v:α},l[k]?=some v→f v=some z→z∈l.filterMap f:=fun hk hv=>List.mem_filterMap.2 ⟨_,List.mem_of_getElem? hk,hv⟩
   cases i with
   | zero=>
     cases j with
     | zero=>rfl
     | succ j=>
       simp only [List.getElem?_cons_zero,Option.some.injEq,List.getElem?_cons_succ] at hi hj
       subst hi
       rw [List.filterMap_cons,hx] at hn
       exact absurd (mem hj hy) (List.nodup_cons.1 hn).1
   | succ i=>
     cases j with
     | zero=>
       simp only [List.getElem?_cons_zero,Option.some.injEq,List.getElem?_cons_succ] at hi hj
       subst hj
       rw [List.filterMap_cons,hy] at hn
       exact absurd (mem hi hx) (List.nodup_cons.1 hn).1
     | succ j=>
       simp only [List.getElem?_cons_succ] at hi hj
       have hn':(l.filterMap f).Nodup:=by
        rw [List.filterMap_cons] at hn
        split at hn
        ·exact hn
        ·exact (List.nodup_cons.1 hn).2
       rw [nodup_at hn' hi hj hx hy]
theorem spAt_some {i:Nat} {s:Sp} (h:spAt sps i=s) (hne:s ≠ .det fun _=>undef):sps[i]?=some s:=by
 unfold spAt at h
 rw [List.getD_eq_getElem?_getD] at h
 cases e:sps[i]? with
 | none=>rw [e] at h;exact absurd h.symm hne
 | some x=>rw [e] at h;rw [←h];rfl
theorem once_of (h1:(stsOf sps).Nodup) (h2 : ∀ q∈pres, ∀ q'∈pres, ∀ k,q.2.1=some k→q'.2.1=some k→q=q') (h3 : ∀ q∈pres, ∀ k,q.2.1=some k→some k∈rows∧k<w0.heap.size) (h4 : ∀ q∈pres,q.2.2 w0)
 (h5 : ∀ q∈pres, ∀ w,Agree (fun k=>k<w0.heap.size∧(some k ∉ rows∨some k=q.2.1)) w0 w→q.2.2 w):Once w0 rows pres sps:=
 ⟨fun i i' j T n T' n' e e'=>nodup_at h1 (spAt_some e (by simp)) (spAt_some e' (by simp)) (z:=j) rfl rfl,h2,h3,h4,h5⟩
theorem exSp_spec : ∀ (n:Nat) (Q:List Sp→Prop),exSp n Q → ∃ l,Q l
 | 0,Q,h=>⟨[],h⟩
 | n+1,Q,⟨s,h⟩=>by
   obtain ⟨l,hl⟩:=exSp_spec n _ h
   exact ⟨s::l,hl⟩
end
end
section
section
variable {P:Program} {ops:Array Oper} {w0:World} {rows:List (Option Nat)} {pres:Pres} {sps:List Sp} {E:Act→Facts→Prop} {i:Nat} {o:Oper} {rest:List Oper} {s:Sp} {ss:List Sp} {a:Act} {D:Facts} {w w':World}
theorem does_quiet {V:Value} (h:Oper.quietUpon P (Below w.heap.size w) w V ((execOp a.eval o).run P w)):doesAt P o a w fun u w'=>u=V∧Below w.heap.size w w':=by
 unfold doesAt Oper.wp
 generalize (execOp a.eval o).run P w=r at *
 cases r with
 | ok n w2=>
   cases n<;>simp only [Oper.quietUpon] at h<;>simp only [Oper.upon]
   case value v=>obtain ⟨rfl,rfl⟩:=h;exact ⟨_,rfl,rfl,Below.refl _ _⟩
   case skip=>obtain ⟨rfl,rfl⟩:=h;exact ⟨_,rfl,rfl,Below.refl _ _⟩
   case enter f args=>
    obtain ⟨rfl,hc⟩:=h
    refine Calls.mono hc ?_
    rintro e w3 ⟨rfl,hb⟩
    exact ⟨_,rfl,rfl,hb⟩
 | halt x w2=>cases x<;>simp only [Oper.quietUpon] at h
theorem lx_ex (hw:Region.wanted o (yielded ops a.tmps)=true) (h : ∃ V,s = .det (fun _=>V)∧(∀ w,Far rows w0 w→Have ops pres i D w→Oper.quietUpon P (Below w.heap.size w) w V ((execOp a.eval o).run P w))∧LxL P ops w0 rows pres sps E (i+1) rest ss (a.put o.dst V) D):LxL P ops w0 rows pres sps E i (o::rest) (s::ss) a D:=by
 obtain ⟨V,rfl,h1,h2⟩:=h
 unfold LxL
 rw [if_pos hw]
 exact ⟨fun w hw hh=>does_quiet (h1 w hw hh),fun v hv=>by rw [show v=V from hv];exact h2⟩
theorem lx_pass (hw:Region.wanted o (yielded ops a.tmps)=false) (hs:s = .det fun _=>undef) (h:LxL P ops w0 rows pres sps E (i+1) rest ss (a.put o.dst undef) D):LxL P ops w0 rows pres sps E i (o::rest) (s::ss) a D:=by
 unfold LxL
 rw [hw]
 exact h
theorem lx_new (r:List Value→Value→Foot→World→Prop) (hs:s = .new r) (hw:Region.wanted o (yielded ops a.tmps)=true) (hst : ∀ ρ v,Stab (r ρ v)) (hc : ∀ w,Far rows w0 w→Have ops pres i D w→doesAt P o a w fun u w'=>Below w.heap.size w w'∧NewR w0 rows (r (vals o a)) none w u w') (h : ∀ v,LxL P ops w0 rows pres sps E (i+1) rest ss (a.put o.dst v) ((i,r (vals o a) v)::D)):LxL P ops w0 rows pres sps E i (o::rest) (s::ss) a D:=by
 subst hs
 unfold LxL
 rw [if_pos hw]
 exact ⟨⟨hst,hc⟩,fun v _=>h v⟩
theorem lx_al {d:Option Tmp} {rt:TypeId} {pos:String} {af:Array Edge} (T:TypeId) (Z:Array Value) (hz : ∀ w,(zeroValue T).run P w = .ok (.agg Z) w) (hs:s = .al T Z) (h : ∀ v,LxL P ops w0 rows pres sps E (i+1) rest ss (a.put d v) ((i,alP w0.heap.size v T Z.size)::D)) :
 LxL P ops w0 rows pres sps E i ({ dst:=d,op := .alloc T,type:=rt,pos:=pos,after:=af,guard:=none }::rest) (s::ss) a D:=by
 subst hs
 unfold LxL
 rw [if_pos (by simp [Region.wanted])]
 exact ⟨⟨rfl,hz⟩,fun v _=>h v⟩
theorem lx_st {rt:TypeId} {pos:String} {af:Array Edge} {x y:Operand} (j:Nat) (T:TypeId) (n:Nat) (hs:s = .st j T n) (hj:waitsT ops i j=true) (hn:(P.info? T).map (·.size)=some n) (hZ : ∃ Z:Array Value,spAt sps j = .al T Z∧Z.size=n) (hD:(j,alP w0.heap.size (a.eval x) T n)∈D)
 (hy : ∀ w,Far rows w0 w→Have ops pres i D w → ∃ cs:Array Value,a.eval y = .agg cs∧cs.size=n∧cs.all (·.oneCell')=true) (h:LxL P ops w0 rows pres sps E (i+1) rest ss a ((i,stP w0.heap.size (a.eval x) (a.eval y) T)::D)) :
 LxL P ops w0 rows pres sps E i ({ dst:=none,op := .store T x y,type:=rt,pos:=pos,after:=af,guard:=none }::rest) (s::ss) a D:=by
 subst hs
 unfold LxL
 rw [if_pos (by simp [Region.wanted])]
 exact ⟨⟨hj,rfl,hn,hZ,x,y,rfl,hD,hy⟩,fun v _=>h⟩
theorem lx_wr (row:Option Nat) (p0:World→Prop) (r:List Value→Value→Foot→World→Prop) (hs:s = .wr r) (hp:(i,row,p0)∈pres) (hw:Region.wanted o (yielded ops a.tmps)=true) (hst : ∀ ρ v,Stab (r ρ v))
 (hc : ∀ w,Far rows w0 w→Have ops pres i D w→p0 w→doesAt P o a w fun u w'=>w.grownBy w' row∧NewR w0 rows (r (vals o a)) row w u w') (h : ∀ v,LxL P ops w0 rows pres sps E (i+1) rest ss (a.put o.dst v) ((i,r (vals o a) v)::D)):LxL P ops w0 rows pres sps E i (o::rest) (s::ss) a D:=by
 subst hs
 unfold LxL
 rw [if_pos hw]
 exact ⟨⟨hst,row,p0,hp,hc⟩,fun v _=>h v⟩
theorem lx_ov (j:Nat) (r:List Value→Value→Foot→World→Prop) (hs:s = .ov j r) (hw:Region.wanted o (yielded ops a.tmps)=true) (hst : ∀ ρ v,Stab (r ρ v)) (hj:waitsT ops i j=true) (hv:isVal (spAt sps j)=true)
 (hc : ∀ (w:World) (F:Foot),Far rows w0 w→(∀ k,OldB w0 rows k→F k)→Have ops pres i D w→(∀ p,(j,p)∈D→p F w)→doesAt P o a w fun u w'=>OverR (OldB w0 rows) (r (vals o a)) F w u w') (h : ∀ v,LxL P ops w0 rows pres sps E (i+1) rest ss (a.put o.dst v) ((i,r (vals o a) v)::D.filter fun q=>gAt sps q.1 != gAt sps i)):LxL P ops w0 rows pres sps E i (o::rest) (s::ss) a D:=by
 subst hs
 unfold LxL
 rw [if_pos hw]
 exact ⟨⟨hst,hj,hv,hc⟩,fun v _=>h v⟩
theorem zE6 : ∀ (l:List Oper) (ss:List Sp) (i:Nat) (a:Act) (D:Facts),LxL P ops w0 rows pres sps E i l ss a D → ∃ a' D',E a' D'
 | [],[],_,a,D,h=>⟨a,D,h⟩
 | [],_::_,_,a,D,h=>⟨a,D,h⟩
 | o::l,[],_,_,_,h=>h.elim
 | o::l,s::ss,i,a,D,h=>by
   unfold LxL at h
   split at h
   ·obtain ⟨v,hv⟩:=dom_some s (vals o a)
    exact zE6 l ss _ _ _ (h.2 v hv)
   ·exact zE6 l ss _ _ _ h
theorem zE1 {E':Act→Facts→Prop} (hE : ∀ a D,E a D→E' a D) : ∀ (l:List Oper) (ss:List Sp) (i:Nat) (a:Act) (D:Facts),LxL P ops w0 rows pres sps E i l ss a D→LxL P ops w0 rows pres sps E' i l ss a D
 | [],[],_,a,D,h=>hE _ _ h
 | [],_::_,_,a,D,h=>hE _ _ h
 | o::l,[],_,_,_,h=>h.elim
 | o::l,s::ss,i,a,D,h=>by
   unfold LxL at h ⊢
   split at h
   ·rename_i hw
    rw [if_pos hw]
    exact ⟨h.1,fun v hv=>zE1 hE l ss _ _ _ (h.2 v hv)⟩
   ·rename_i hw
    rw [if_neg hw]
    exact zE1 hE l ss _ _ _ h
theorem Have.at (h:Have ops pres i D w) (k:Nat) {j:Nat} {p:Foot→World→Prop} (hk:D[k]?=some (j,p)) (hq:waitsT ops i j=true) : ∃ F,p F w:=h.fact _ (List.mem_of_getElem? hk) hq
theorem Have.was (h:Have ops pres i D w) (k:Nat) {j:Nat} {row:Option Nat} {p:World→Prop} (hk:pres[k]?=some (j,row,p)) (hq:waitsT ops j i=true):p w:=h.pre _ (List.mem_of_getElem? hk) hq
theorem far_nil {W:World} (h:Far [] W.drew w):Below W.heap.size W w:=⟨h.os,h.tape,h.output,h.size,fun k hk=>h.block k hk (by simp)⟩
theorem zBF {W:World} (h:Far rows W.drew w):Far rows W w:=⟨h.os,h.tape,h.output,h.size,h.block⟩
end
structure PreOk (w0:World) (pres:Pres):Prop where
 wr : ∀ q∈pres, ∀ q'∈pres, ∀ k,q.2.1=some k→q'.2.1=some k→q=q'
 lt : ∀ q∈pres, ∀ k,q.2.1=some k→k<w0.heap.size
 at_ : ∀ q∈pres,q.2.2 w0
 stab : ∀ q∈pres, ∀ w,w0.heap.size≤w.heap.size→(∀ k,q.2.1=some k→w.heap[k]?=w0.heap[k]?)→q.2.2 w
theorem PreOk.nil (w0:World):PreOk w0 []:=⟨fun q h=>by simp at h,fun q h=>by simp at h,fun q h=>by simp at h,fun q h=>by simp at h⟩
theorem PreOk.cons {w0:World} {pres:Pres} {i:Nat} {row:Option Nat} {p:World→Prop} (h:PreOk w0 pres) (hn : ∀ q∈pres, ∀ k,row=some k→q.2.1≠some k) (hl : ∀ k,row=some k→k<w0.heap.size) (hp:p w0)
 (hs : ∀ w,w0.heap.size≤w.heap.size→(∀ k,row=some k→w.heap[k]?=w0.heap[k]?)→p w):PreOk w0 ((i,row,p)::pres):=by
 refine ⟨fun q hq q' hq' k e e'=>?_,fun q hq=>?_,fun q hq=>?_,fun q hq=>?_⟩
 ·rcases List.mem_cons.1 hq with hq | hq
  ·rcases List.mem_cons.1 hq' with hq' | hq'
   ·rw [hq,hq']
   ·rw [hq] at e;exact absurd e' (hn q' hq' k e)
  ·rcases List.mem_cons.1 hq' with hq' | hq'
   ·rw [hq'] at e';exact absurd e (hn q hq k e')
   ·exact h.wr q hq q' hq' k e e'
 ·rcases List.mem_cons.1 hq with hq | hq
  ·rw [hq];exact hl
  ·exact h.lt q hq
 ·rcases List.mem_cons.1 hq with hq | hq
  ·rw [hq];exact hp
  ·exact h.at_ q hq
 ·rcases List.mem_cons.1 hq with hq | hq
  ·rw [hq];exact hs
  ·exact h.stab q hq
def rowsOfP (pres:Pres):List (Option Nat):=pres.map (·.2.1)
section
variable {P:Program} {ops:Array Oper} {W:World} {pres:Pres} {sps:List Sp} {E:Act→Facts→Prop} {i:Nat} {o:Oper} {rest:List Oper} {s:Sp} {ss:List Sp} {a:Act} {D:Facts}
theorem PreOk.once (h:PreOk W pres) (h1:(stsOf sps).Nodup):Once W.drew (rowsOfP pres) pres sps:=
 once_of h1 h.wr (fun q hq k e=>⟨List.mem_map.2 ⟨q,hq,e⟩,h.lt q hq k e⟩) (fun q hq=>h.stab q hq _ (Nat.le_refl _) fun _ _=>rfl) (fun q hq w ha=>h.stab q hq w ha.size fun k e=>ha.same k (h.lt q hq k e) ⟨h.lt q hq k e, .inr e.symm⟩)
def EndP (ops:Array Oper) (W:World) (pres:Pres) (sps:List Sp) (Q:Exit→Act→World→Prop) (a:Act) (D:Facts):Prop:=((stsOf sps).Nodup∧ovB ops sps=true) ∧ ∀ w,Far (rowsOfP pres) W w→(∀ q∈D, ∃ F,q.2 F w)→Q .normal a w
theorem zBA {Q:Exit→Act→World→Prop} {id:Nat} {a0:Act} {l:List Oper} (n:Nat) (pres:Pres) (hp:PreOk W pres) (hm:P.follows .mixedOrders=true) (hac:acyc l.toArray=true) (hap:pairsB l.toArray=true) (hns:noSelB l.toArray=true)
 (h:exSp n fun sps=>LxL P l.toArray W.drew (rowsOfP pres) pres sps (EndP l.toArray W pres sps Q) 0 l sps a0 []):(Code.region id l.toArray true).wp P Q a0 W:=by
 obtain ⟨sps,h1⟩:=exSp_spec n _ h
 obtain ⟨_,_,⟨h2,hov⟩,_⟩:=zE6 _ _ _ _ _ h1
 refine zEG (rows:=rowsOfP pres) (pres:=pres) (ovOk_of hov) hm hac hap hns (hp.once h2) ?_
 have:=zD6 l sps 0 a0 [] (fun k=>by simp) (fun k=>by simp) (zE1 (E':=EndOf W.drew (rowsOfP pres) Q) (fun a D he w hw hq=>he.2 w (zBF hw) hq) _ _ _ _ _ h1)
 simpa using this
theorem lxP_nil {Q:Exit→Act→World→Prop} (h1:(stsOf sps).Nodup) (h : ∀ w,Far (rowsOfP pres) W w→(∀ q∈D, ∃ F,q.2 F w)→Q .normal a w) (h2:ovB ops sps=true:=by kernel_rfl):LxL P ops W.drew (rowsOfP pres) pres sps (EndP ops W pres sps Q) i [] [] a D:=⟨⟨h1,h2⟩,h⟩
def End0 (ops:Array Oper) (W:World) (sps:List Sp) (Q:Exit→Act→World→Prop) (a:Act) (D:Facts):Prop:=((stsOf sps).Nodup∧ovB ops sps=true) ∧ ∀ w,Below W.heap.size W w→(∀ q∈D, ∃ F,q.2 F w)→Q .normal a w
theorem zAA {Q:Exit→Act→World→Prop} {id:Nat} {a0:Act} {l:List Oper} (n:Nat) (hm:P.follows .mixedOrders=true) (hac:acyc l.toArray=true) (hap:pairsB l.toArray=true) (hns:noSelB l.toArray=true)
 (h:exSp n fun sps=>LxL P l.toArray W.drew [] [] sps (End0 l.toArray W sps Q) 0 l sps a0 []):(Code.region id l.toArray true).wp P Q a0 W:=by
 obtain ⟨sps,h1⟩:=exSp_spec n _ h
 obtain ⟨_,_,⟨h2,hov⟩,_⟩:=zE6 _ _ _ _ _ h1
 refine zEG (rows:=[]) (pres:=[]) (ovOk_of hov) hm hac hap hns ((PreOk.nil W).once h2) ?_
 have:=zD6 l sps 0 a0 [] (fun k=>by simp) (fun k=>by simp) (zE1 (E':=EndOf W.drew [] Q) (fun a D he w hw hq=>he.2 w (far_nil hw) hq) _ _ _ _ _ h1)
 simpa using this
theorem lx0_ex (hw:Region.wanted o (yielded ops a.tmps)=true) (h : ∃ V,s = .det (fun _=>V)∧(∀ w,Below W.heap.size W w→Have ops [] i D w→Oper.quietUpon P (Below w.heap.size w) w V ((execOp a.eval o).run P w))∧LxL P ops W.drew [] [] sps E (i+1) rest ss (a.put o.dst V) D):LxL P ops W.drew [] [] sps E i (o::rest) (s::ss) a D:=by
 obtain ⟨V,h1,h2,h3⟩:=h
 exact lx_ex hw ⟨V,h1,fun w hw=>h2 w (far_nil hw),h3⟩
theorem zA2 (hw:Region.wanted o (yielded ops a.tmps)=false) (hs:s = .det fun _=>undef) (h:LxL P ops W.drew [] [] sps E (i+1) rest ss (a.put o.dst undef) D):LxL P ops W.drew [] [] sps E i (o::rest) (s::ss) a D:=lx_pass hw hs h
theorem lx0_nil {Q:Exit→Act→World→Prop} (h1:(stsOf sps).Nodup) (h : ∀ w,Below W.heap.size W w→(∀ q∈D, ∃ F,q.2 F w)→Q .normal a w) (h2:ovB ops sps=true:=by kernel_rfl):LxL P ops W.drew [] [] sps (End0 ops W sps Q) i [] [] a D:=⟨⟨h1,h2⟩,h⟩
theorem lx0_new (r:Value→Foot→World→Prop) (hs:s = .new fun _=>r) (hw:Region.wanted o (yielded ops a.tmps)=true) (hst : ∀ v,Stab (r v)) (hc : ∀ w,Below W.heap.size W w→Have ops [] i D w→doesAt P o a w fun u w'=>Below w.heap.size w w'∧NewR W.drew [] r none w u w')
 (h : ∀ v,LxL P ops W.drew [] [] sps E (i+1) rest ss (a.put o.dst v) ((i,r v)::D)):LxL P ops W.drew [] [] sps E i (o::rest) (s::ss) a D:=lx_new (fun _=>r) hs hw (fun _=>hst) (fun w hw=>hc w (far_nil hw)) h
theorem lx_move {w0:World} {rows:List (Option Nat)} {d:Option Tmp} {rt:TypeId} {pos:String} {af:Array Edge} {x:Operand} (hs:s = .det fun ρ=>ρ.headD undef) (h:LxL P ops w0 rows pres sps E (i+1) rest ss (a.put d (a.eval x)) D) :
 LxL P ops w0 rows pres sps E i ({ dst:=d,op := .move x,type:=rt,pos:=pos,after:=af,guard:=none }::rest) (s::ss) a D:=by
 subst hs
 unfold LxL
 rw [if_pos (by simp [Region.wanted])]
 have hv:(vals { dst:=d,op := .move x,type:=rt,pos:=pos,after:=af,guard:=none } a).headD undef=a.eval x:=rfl
 exact ⟨fun w hw hh=>zBO rfl ⟨hv.symm,Below.refl _ _⟩,fun v hv'=>by rw [show v=a.eval x from hv'.trans hv];exact h⟩
theorem lx_assign {w0:World} {rows:List (Option Nat)} {d:Option Tmp} {rt:TypeId} {pos:String} {af:Array Edge} {x:Operand} (hs:s = .det fun ρ=>ρ.headD undef) (h:LxL P ops w0 rows pres sps E (i+1) rest ss (a.put d (a.eval x)) D) :
 LxL P ops w0 rows pres sps E i ({ dst:=d,op := .assign x,type:=rt,pos:=pos,after:=af,guard:=none }::rest) (s::ss) a D:=by
 subst hs
 unfold LxL
 rw [if_pos (by simp [Region.wanted])]
 have hv:(vals { dst:=d,op := .assign x,type:=rt,pos:=pos,after:=af,guard:=none } a).headD undef=a.eval x:=rfl
 exact ⟨fun w hw hh=>zBO rfl ⟨hv.symm,Below.refl _ _⟩,fun v hv'=>by rw [show v=a.eval x from hv'.trans hv];exact h⟩
def extrV (k:Nat):Value→Value | .tuple xs=>xs.getD k undef | _=>undef
theorem lx_extr {w0:World} {rows:List (Option Nat)} {d:Option Tmp} {rt:TypeId} {pos:String} {af:Array Edge} {x:Operand} {k:Nat} (hs:s = .det fun ρ=>extrV k (ρ.headD undef)) (hc : ∀ w,Far rows w0 w→Have ops pres i D w → ∃ xs:Array Value,a.eval x = .tuple xs∧k<xs.size) (h:LxL P ops w0 rows pres sps E (i+1) rest ss (a.put d (extrV k (a.eval x))) D) :
 LxL P ops w0 rows pres sps E i ({ dst:=d,op := .extract x k,type:=rt,pos:=pos,after:=af,guard:=none }::rest) (s::ss) a D:=by
 subst hs
 unfold LxL
 rw [if_pos (by simp [Region.wanted])]
 have hv:extrV k ((vals { dst:=d,op := .extract x k,type:=rt,pos:=pos,after:=af,guard:=none } a).headD undef)=extrV k (a.eval x):=rfl
 refine ⟨fun w hw hh=>?_,fun v hv'=>by rw [show v=extrV k (a.eval x) from hv'.trans hv];exact h⟩
 obtain ⟨xs,hx,hk⟩:=hc w hw hh
 refine zBO (v:=extrV k (a.eval x)) ?_ ⟨hv.symm,Below.refl _ _⟩
 unfold execOp
 simp only [hx,Instr.extract,Array.getElem?_eq_getElem hk,Sem.run_bind,Sem.run_pure,Result.andThen_ok]
 simp [extrV,Array.getD,hk]
theorem zA1 {w0:World} {rows:List (Option Nat)} {d:Option Tmp} {rt:TypeId} {pos:String} {af:Array Edge} {x:Operand} (hs:s = .det fun ρ=>ρ.headD undef) (h : ∃ v,a.eval x=v∧LxL P ops w0 rows pres sps E (i+1) rest ss (a.put d v) D) :
 LxL P ops w0 rows pres sps E i ({ dst:=d,op := .move x,type:=rt,pos:=pos,after:=af,guard:=none }::rest) (s::ss) a D:=by
 obtain ⟨_,rfl,h⟩:=h
 exact lx_move hs h
theorem zAK {w0:World} {rows:List (Option Nat)} {d:Option Tmp} {rt:TypeId} {pos:String} {af:Array Edge} {x:Operand} (hs:s = .det fun ρ=>ρ.headD undef) (h : ∃ v,a.eval x=v∧LxL P ops w0 rows pres sps E (i+1) rest ss (a.put d v) D) :
 LxL P ops w0 rows pres sps E i ({ dst:=d,op := .assign x,type:=rt,pos:=pos,after:=af,guard:=none }::rest) (s::ss) a D:=by
 obtain ⟨_,rfl,h⟩:=h
 exact lx_assign hs h
theorem zDM {w0:World} {rows:List (Option Nat)} {d:Option Tmp} {rt:TypeId} {pos:String} {af:Array Edge} {x:Operand} {k:Nat} (hs:s = .det fun ρ=>extrV k (ρ.headD undef)) (h : ∃ v,a.eval x=v∧(∀ w,Far rows w0 w→Have ops pres i D w → ∃ xs:Array Value,v = .tuple xs∧k<xs.size)∧LxL P ops w0 rows pres sps E (i+1) rest ss (a.put d (extrV k v)) D) :
 LxL P ops w0 rows pres sps E i ({ dst:=d,op := .extract x k,type:=rt,pos:=pos,after:=af,guard:=none }::rest) (s::ss) a D:=by
 obtain ⟨_,rfl,hc,h⟩:=h
 exact lx_extr hs hc h
theorem lx_st' {w0:World} {rows:List (Option Nat)} {rt:TypeId} {pos:String} {af:Array Edge} {x y:Operand} (j:Nat) (T:TypeId) (Z:Array Value) (hn:(P.info? T).map (·.size)=some Z.size) (hj:waitsT ops i j=true) (hZ:spAt sps j = .al T Z) (hs:s = .st j T Z.size)
 (h : ∃ vx vy,a.eval x=vx∧a.eval y=vy∧(j,alP w0.heap.size vx T Z.size)∈D∧(∀ w,Far rows w0 w→Have ops pres i D w → ∃ cs:Array Value,vy = .agg cs∧cs.size=Z.size∧cs.all (·.oneCell')=true)∧LxL P ops w0 rows pres sps E (i+1) rest ss a ((i,stP w0.heap.size vx vy T)::D)) :
 LxL P ops w0 rows pres sps E i ({ dst:=none,op := .store T x y,type:=rt,pos:=pos,after:=af,guard:=none }::rest) (s::ss) a D:=by
 obtain ⟨_,_,rfl,rfl,hD,hy,h⟩:=h
 exact lx_st j T Z.size hs hj hn ⟨Z,hZ,rfl⟩ hD hy h
theorem extr2_0 (x y:Value):extrV 0 (.tuple #[x,y])=x:=rfl
theorem extr2_1 (x y:Value):extrV 1 (.tuple #[x,y])=y:=rfl
end
theorem zCo (p:Value→Prop) (v:Value):Stab (fun _ _=>p v):=fun _ _ _ _ _ _ h=>h
def ownR (B:Nat) (e:TypeId) (size n:Nat) (xs:List Value) (v:Value) (F:Foot) (w:World):Prop:=w.ownsRow B e size v n xs ∧ ∀ k,v.ownBlock=some k→F k
theorem zBG {w w':World} {B:Nat} {e:TypeId} {size n:Nat} {v:Value} {xs:List Value} (h:w.ownsRow B e size v n xs) (hs : ∀ k,v.ownBlock=some k→w'.heap[k]?=w.heap[k]?):w'.ownsRow B e size v n xs:=by
 refine ⟨h.1,?_⟩
 rcases h.2 with hn | ⟨g,cap,cur,rfl,hb,hgg,rest⟩
 ·exact .inl hn
 ·exact .inr ⟨g,cap,cur,rfl,hb,(hs g rfl).trans hgg,rest⟩
theorem zE4 {w:World} {B B':Nat} {e:TypeId} {size n:Nat} {v:Value} {xs:List Value} (h:w.ownsRow B e size v n xs) (hb:B'≤B):w.ownsRow B' e size v n xs:=by
 refine ⟨h.1,?_⟩
 rcases h.2 with hn | ⟨g,cap,cur,rfl,hg,rest⟩
 ·exact .inl hn
 ·exact .inr ⟨g,cap,cur,rfl,Nat.le_trans hb hg,rest⟩
theorem zCQ (B:Nat) (e:TypeId) (size n:Nat) (xs:List Value) (v:Value):Stab (ownR B e size n xs v):=fun F F' w w' hf ha ⟨h1,h2⟩=>
 ⟨zBG h1 fun k hk=>ha.same k (World.ownsRow.lt h1 k hk).2 (h2 k hk),fun k hk=>hf k (h2 k hk)⟩
theorem ownR_new {B:Nat} {e:TypeId} {size n:Nat} {xs:List Value} {v:Value} {w w':World} {w0:World} {rows:List (Option Nat)} (hB:B≤w.heap.size) (h:w'.ownsRow w.heap.size e size v n xs):NewR w0 rows (ownR B e size n xs) none w v w':=fun F _ _ h3=>
 ⟨zE4 h hB,fun k hk=>h3 k (World.ownsRow.lt h k hk).1 (World.ownsRow.lt h k hk).2⟩
theorem own_ne {w:World} {B B':Nat} {e e':TypeId} {size size' n n':Nat} {v v':Value} {xs xs':List Value} (h:w.ownsRow B e size v n xs) (h':w.ownsRow B' e' size' v' n' xs') (hne:e≠e') (k:Nat) (hk:v.ownBlock=some k):v'.ownBlock≠some k:=by
 intro hk'
 rcases h.2 with ⟨rfl,_⟩ | ⟨g,cap,cur,rfl,_,hg,_⟩
 ·simp [Value.ownBlock] at hk
 ·rcases h'.2 with ⟨rfl,_⟩ | ⟨g',cap',cur',rfl,_,hg',_⟩
  ·simp [Value.ownBlock] at hk'
  ·have e1:g=k:=by simpa [Value.ownBlock] using hk
   have e2:g'=k:=by simpa [Value.ownBlock] using hk'
   rw [e1] at hg
   rw [e2,hg] at hg'
   injection hg' with hg'
   injection hg' with _ ht
   exact hne ht
end
section
def sliR (e:TypeId) (Φ:Array Value→Prop) (v:Value) (F:Foot) (w:World):Prop := ∃ g cs,v = .slice (some ⟨g,0,none⟩) 1 1∧F g∧Blk w g e cs∧Φ cs
theorem sliR_stab (e:TypeId) (Φ:Array Value→Prop) (v:Value):Stab (sliR e Φ v):=fun _ _ _ _ hf ha ⟨g,cs,h1,h2,h3,h4⟩=>⟨g,cs,h1,hf g h2,(ha.same g h3.lt h2).trans h3,h4⟩
def appR (B:Nat) (e:TypeId) (size n:Nat) (Ψ:List Value→Prop) (v:Value) (F:Foot) (w:World):Prop := ∃ xs,Ψ xs∧ownR B e size n xs v F w
theorem zDY (B:Nat) (e:TypeId) (size n:Nat) (Ψ:List Value→Prop) (v:Value):Stab (appR B e size n Ψ v):=fun F F' w w' hf ha ⟨xs,h1,h2⟩=>⟨xs,h1,zCQ B e size n xs v F F' w w' hf ha h2⟩
section
variable {P:Program} {ops:Array Oper} {W:World} {w0:World} {rows:List (Option Nat)} {pres:Pres} {sps:List Sp} {E:Act→Facts→Prop} {i:Nat} {o:Oper} {rest:List Oper} {s:Sp} {ss:List Sp} {a:Act} {D:Facts} {w:World}
theorem does_slice1 {post:Value→World→Prop} {d:Option Tmp} {rt:TypeId} {pos:String} {af:Array Edge} {gd:Option (Nat×Bool)} {x:Operand} {t e:TypeId} {z:Value} {size bytes:Nat} (hT:SliceTy P t e z size bytes) (cs:Array Value) (hcs:cs.size=size) (hsm:size≤1000) (hx:a.eval x = .agg cs)
 (h:post (.slice (some ⟨w.heap.size,0,none⟩) 1 1) (w.alloc (.cells cs e))):doesAt P { dst:=d,op := .buildSlice t 1 #[(0,x)],type:=rt,pos:=pos,after:=af,guard:=gd } a w post:=by
 have e1:((#[(0,x)]:Array (Nat×Operand)).map fun (i,x)=>(i,a.eval x)) = #[(0, .agg cs)]:=by simp [hx]
 have hrun:(Instr.buildSlice t 1 #[(0, .agg cs)]).run P w = .ok (.slice (some ⟨w.heap.size,0,none⟩) 1 1) (w.alloc (.cells cs e)):=by
  obtain ⟨it,hi,hz,hs,hb⟩:=hT.hi
  have h0:=hT.hsz
  refine run_buildSlice w _ _ 1 _ _ it _ hT.ht hi hz (by rw [hs];omega) (by rw [hs];omega) ?_
  rw [hs]
  have:=Great.fill_whole (s:=size) (by omega) [Value.agg cs] ((Array.range (1*size)).map (z.cells[· % z.cells.size]!)) (by
   intro v hv
   simp at hv
   subst hv
   exact hcs) (by simp)
  simpa [Value.cells] using this
 refine zBO (v := .slice (some ⟨w.heap.size,0,none⟩) 1 1) (w':=w.alloc (.cells cs e)) ?_ h
 unfold execOp
 simp only [Sem.run_bind,e1,hrun,Result.andThen_ok]
 rfl
theorem zB2 {d:Option Tmp} {rt:TypeId} {pos:String} {af:Array Edge} {x:Operand} {t e:TypeId} {z:Value} {size bytes:Nat} (hT:SliceTy P t e z size bytes) (Φ:Array Value→Prop) (hsm:size≤1000) (hs:s = .new fun _=>sliR e Φ)
 (h : ∃ v,a.eval x=v∧(∀ w,Far rows w0 w→Have ops pres i D w → ∃ cs:Array Value,v = .agg cs∧cs.size=size∧Φ cs) ∧ ∀ v,LxL P ops w0 rows pres sps E (i+1) rest ss (a.put d v) ((i,sliR e Φ v)::D)) :
 LxL P ops w0 rows pres sps E i ({ dst:=d,op := .buildSlice t 1 #[(0,x)],type:=rt,pos:=pos,after:=af,guard:=none }::rest) (s::ss) a D:=by
 obtain ⟨_,rfl,hc,h⟩:=h
 refine lx_new (fun _=>sliR e Φ) hs (by simp [Region.wanted]) (fun _=>sliR_stab e Φ) (fun w hw hh=>?_) h
 obtain ⟨cs,hx,hcs,hp⟩:=hc w hw hh
 refine does_slice1 hT cs hcs hsm hx ⟨(Below.refl _ _).alloc (Nat.le_refl _) _,fun F _ _ h3=>⟨w.heap.size,cs,rfl,h3 _ (Nat.le_refl _) (by rw [zA4];omega),Blk.new _ _ _,hp⟩⟩
theorem zEr {d:Option Tmp} {rt:TypeId} {pos:String} {af:Array Edge} {sl x:Operand} {t e:TypeId} {z:Value} {size bytes:Nat} (hT:SliceTy P t e z size bytes) (B:Nat) (ve:Value) (n:Nat) (xs:List Value) (Ψ:List Value→Prop) (h63:n+1≤9223372036854775807) (hby:(n+1)*bytes≤140737488355328)
 (hB:B≤w0.heap.size) (hp:(i,ve.ownBlock,fun w=>World.ownsRow w B e size ve n xs)∈pres) (hs:s = .wr fun _=>appR B e size (n+1) Ψ)
 (h : ∃ v1 v2,a.eval sl=v1∧a.eval x=v2∧v1=ve∧(∀ w,Far rows w0 w→Have ops pres i D w → ∃ g cs,v2 = .slice (some ⟨g,0,none⟩) 1 1∧Blk w g e cs∧cs.size=size∧(∀ u∈cs.toList,u.oneCell'=true)∧Ψ (xs++cs.toList)) ∧ ∀ v,LxL P ops w0 rows pres sps E (i+1) rest ss (a.put d v) ((i,appR B e size (n+1) Ψ v)::D)) :
 LxL P ops w0 rows pres sps E i ({ dst:=d,op := .call { callee := .builtin .append,args := #[sl,x],argTypes := #[t,t] },type:=rt,pos:=pos,after:=af,guard:=none }::rest) (s::ss) a D:=by
 obtain ⟨_,_,rfl,rfl,hv,hc,h⟩:=h
 refine lx_wr ve.ownBlock _ (fun _=>appR B e size (n+1) Ψ) hs hp (by simp [Region.wanted]) (fun _=>zDY B e size (n+1) Ψ) (fun w hw hh hown=>?_) h
 obtain ⟨g,cs,hx,hk,hcs,h1,hps⟩:=hc w hw hh
 obtain ⟨it,i1,i2,i3,i4⟩:=hT.hi
 have hbase:B≤w.heap.size:=Nat.le_trans hB hw.size
 obtain ⟨v',w',hrun,hown',hg,_,hat⟩:=run_append_own_at (P:=P) w B t rt e it z size bytes hT.ht i1 i2 i3 i4 hT.hzs hT.hsz ve n xs hown ⟨g,0,none⟩ 1 1 cs.toList (by simp [hcs]) (zBX hk) h1 (by simp only [maxLen];omega) hby hbase
 refine zBO (v:=v') (w':=w') ?_ ⟨hg,fun F _ hF2 hF3=>⟨_,hps,hown',fun k hk=>?_⟩⟩
 ·unfold execOp
  simp only [resolve,invoke,builtin,Sem.run_bind,Sem.run_pure,Result.andThen_ok,List.map_toArray,List.map_cons,List.map_nil,hv,hx,hrun]
 rcases hat with hat | hat
 ·rw [hat] at hk;exact hF2 k hk.symm
 ·rw [hat] at hk
  injection hk with hk
  subst hk
  exact hF3 _ (Nat.le_refl _) (World.ownsRow.lt hown' _ hat).2
theorem does_put {post:Value→World→Prop} {rt:TypeId} {pos:String} {af:Array Edge} {gd:Option (Nat×Bool)} {x y:Operand} {T T':TypeId} {g off n c:Nat} {A:Option Addr} {cs:Array Value} (hsz : ∀ w,(sizeOf T).run P w = .ok 1 w) (hx:a.eval x = .pointer (some ⟨g,off,none⟩)) (hy:a.eval y = .slice A n c) (hk:Blk w g T' cs) (ho:off<cs.size)
 (h:post undef (w.setCell ⟨g,off,none⟩ (.slice A n c))):doesAt P { dst:=none,op := .store T x y,type:=rt,pos:=pos,after:=af,guard:=gd } a w post:=by
 have hf:=hk.frozen off
 have hc:w.cell? ⟨g,off,none⟩=some cs[off]:=by rw [hk.cell,Array.getElem?_eq_getElem ho]
 unfold doesAt Oper.wp execOp
 simp only [hx,hy]
 go_simp
 exact ⟨_,h⟩
def putR (g off:Nat) (T:TypeId) (cs:Array Value) (ρ:List Value) (_:Value) (F:Foot) (w:World):Prop:=F g∧Blk w g T (cs.setIfInBounds off (ρ.getD 1 undef))
theorem putR_stab (g off:Nat) (T:TypeId) (cs:Array Value) (ρ:List Value) (v:Value):Stab (putR g off T cs ρ v):=fun _ _ _ _ hf ha ⟨h1,h2⟩=>⟨hf g h1,(ha.same g h2.lt h1).trans h2⟩
theorem lx_put {rt:TypeId} {pos:String} {af:Array Edge} {x y:Operand} {T:TypeId} (g off:Nat) (cs:Array Value) (T':TypeId) (hsz : ∀ w,(sizeOf T).run P w = .ok 1 w) (ho:off<cs.size) (hp:(i,some g,fun w=>Blk w g T' cs)∈pres) (hs:s = .wr (putR g off T' cs))
 (h : ∃ v1 v2,a.eval x=v1∧a.eval y=v2∧v1 = .pointer (some ⟨g,off,none⟩)∧(∀ w,Far rows w0 w→Have ops pres i D w → ∃ A n c,v2 = .slice A n c)∧LxL P ops w0 rows pres sps E (i+1) rest ss a ((i,fun F w=>F g∧Blk w g T' (cs.setIfInBounds off v2))::D)) :
 LxL P ops w0 rows pres sps E i ({ dst:=none,op := .store T x y,type:=rt,pos:=pos,after:=af,guard:=none }::rest) (s::ss) a D:=by
 obtain ⟨_,_,rfl,rfl,hx,hc,h⟩:=h
 refine lx_wr (some g) _ (putR g off T' cs) hs hp (by simp [Region.wanted]) (putR_stab g off T' cs) (fun w hw hh hk=>?_) (fun v=>h)
 obtain ⟨A,n,c,hy⟩:=hc w hw hh
 refine does_put hsz hx hy hk ho ⟨⟨rfl,rfl,rfl,by simp,fun k hk2 hn=>Below.heap_setCell _ _ _ _ fun e=>hn (by rw [e])⟩,fun F _ h2 _=>⟨h2 g rfl,?_⟩⟩
 show Blk _ g T' (cs.setIfInBounds off (a.eval y))
 rw [hy]
 exact hk.set_ off _
end
def aggR (Φ:Array Value→Prop) (v:Value):Prop := ∃ cs,v = .agg cs∧Φ cs
section
variable {P:Program} {ops:Array Oper} {w0:World} {rows:List (Option Nat)} {pres:Pres} {sps:List Sp} {E:Act→Facts→Prop} {i:Nat} {rest:List Oper} {s:Sp} {ss:List Sp} {a:Act} {D:Facts} {w:World}
theorem does_build {post:Value→World→Prop} {d:Option Tmp} {T rt:TypeId} {pos:String} {af:Array Edge} {gd:Option (Nat×Bool)} {fs:Array (Nat×Operand)} (vals:List (Nat×Value)) (cs:Array Value) (hb:P.built T vals=some cs)
 (hv:(fs.map fun (i,x)=>(i,a.eval x)).toList=vals) (h:post (.agg cs) w):doesAt P { dst:=d,op := .build T fs,type:=rt,pos:=pos,after:=af,guard:=gd } a w post:=by
 unfold doesAt
 exact wp_build _ _ rfl (by rw [hv,hb];rfl) (by rw [hv,hb];exact ⟨_,rfl,h⟩)
theorem lx_build3 {d:Option Tmp} {T rt:TypeId} {pos:String} {af:Array Edge} {i0 i1 i2:Nat} {x0 x1 x2:Operand} (Φ:Array Value→Prop) (hs:s = .new fun _ v _ _=>aggR Φ v)
 (h : ∃ v0 v1 v2,a.eval x0=v0∧a.eval x1=v1∧a.eval x2=v2∧(∀ w,Far rows w0 w→Have ops pres i D w → ∃ cs,P.built T [(i0,v0),(i1,v1),(i2,v2)]=some cs∧Φ cs) ∧ ∀ v,LxL P ops w0 rows pres sps E (i+1) rest ss (a.put d v) ((i,fun _ _=>aggR Φ v)::D)) :
 LxL P ops w0 rows pres sps E i ({ dst:=d,op := .build T #[(i0,x0),(i1,x1),(i2,x2)],type:=rt,pos:=pos,after:=af,guard:=none }::rest) (s::ss) a D:=by
 obtain ⟨v0,v1,v2,h0,h1,h2,hc,h⟩:=h
 refine lx_new (fun _ v _ _=>aggR Φ v) hs (by simp [Region.wanted]) (fun _=>zCo (aggR Φ)) (fun w hw hh=>?_) h
 obtain ⟨cs,hb,hp⟩:=hc w hw hh
 exact does_build [(i0,v0),(i1,v1),(i2,v2)] cs hb (by simp [h0,h1,h2]) ⟨Below.refl _ _,fun _ _ _ _=>⟨cs,rfl,hp⟩⟩
end
theorem preOk2 {w:World} {B:Nat} {e T:TypeId} {size n g i j:Nat} {v:Value} {xs:List Value} {cs:Array Value} (h1:w.ownsRow B e size v n xs) (h2:Blk w g T cs) (hne:e≠T) :
 PreOk w [(i,v.ownBlock,fun w=>World.ownsRow w B e size v n xs),(j,some g,fun w=>Blk w g T cs)]:=by
 have hd:=zAs h1 h2 hne
 refine PreOk.cons (PreOk.cons (PreOk.nil w) (fun q hq=>by simp at hq) (fun k hk=>?_) h2 fun w' _ hs=>?_) (fun q hq k hk=>?_) (fun k hk=>(World.ownsRow.lt h1 k hk).2) h1 fun w' _ hs=>zBG h1 hs
 ·injection hk with hk;subst hk;exact h2.lt
 ·exact (hs g rfl).trans h2
 ·rw [List.mem_singleton] at hq
  subst hq
  intro e
  injection e with e
  subst e
  exact hd hk.symm
theorem rows2 {B i j g:Nat} {v:Value} {p q:World→Prop} (h1 : ∀ k,v.ownBlock=some k→B≤k) (h2:B≤g) : ∀ k,some k∈rowsOfP [(i,v.ownBlock,p),(j,some g,q)]→B≤k:=fun k hk=>by
 simp only [rowsOfP,List.map_cons,List.map_nil,List.mem_cons,List.not_mem_nil,or_false] at hk
 rcases hk with hk | hk
 ·exact h1 k hk.symm
 ·injection hk with hk;omega
end
section
attribute [local go_sem ↓] ldvI_eq
def inL (l:List Txt) (n:Txt):Bool:=l.any fun x=>decide (x=n)
theorem inL_iff {l:List Txt} {n:Txt}:inL l n=true↔n∈l:=by simp [inL]
theorem inL_drop {l:List Txt} {k:Nat} {x:Txt} (hx:l[k]?=some x) (n:Txt):inL (l.drop k) n=(decide (x=n)||inL (l.drop (k+1)) n):=by
 obtain ⟨hlt,he⟩:=List.getElem?_eq_some_iff.1 hx
 rw [List.drop_eq_getElem_cons hlt,he]
 rfl
set_option maxRecDepth 100000 in
set_option maxHeartbeats 2000000 in
theorem in02_calls (l:List Txt) (hok : ∀ x∈l,x.length=32) (v:Value) (n:Txt) (hn:n.length=32) (w:World) (hv:Ids w v l) :
 Calls Tryz.prog 23 #[v, .agg (u8s n)] w fun e w'=>e = .returned (.bool (inL l n))∧Below w.heap.size w w':=by
 obtain ⟨W1,hW1⟩ : ∃ W1,w.alloc (.cells (u8s n) 46)=W1:=⟨_,rfl⟩
 have n1:Blk W1 w.heap.size 46 (u8s n):=by rw [←hW1];exact Blk.new _ _ _
 have b1:Below w.heap.size w W1:=by rw [←hW1];exact (Below.refl _ _).alloc (Nat.le_refl _) _
 have hG0:Hid (inL (l.drop 0) n=inL l n):=rfl
 have lnn:=fun W (hW:Below W1.heap.size W1 W)=>zAb (zAi (n1.below hW n1.lt)) hn
 obtain ⟨A,cap,rfl,hcap1,hcap2,hat⟩:=hv
 generalize inL l n=G at *
 go_enter Tryz.func23,Tryz.ntmps23
 go_wp2
 go_loopw [5] (fun vi wr => ∃ k:Nat,vi = .int .i64 k∧k≤l.length∧Hid (inL (l.drop k) n=G)∧Below W1.heap.size W1 wr) (fun vi _=>l.length-(intOf vi).toNat)
 case atStart=>exact ⟨0,rfl,by omega,hG0,Below.refl _ _⟩
 case round=>
  obtain ⟨k,rfl,hk,hrel,hbel⟩:=hrel
  clear hW1
  by_cases hlt:k<l.length
  ·have hki:(k:Int)<(l.length:Int):=by omega
   obtain ⟨ga,oa,rfl,hga,hca⟩:=hat (by omega)
   obtain ⟨x,hx⟩ : ∃ x,l[k]?=some x:=⟨_,List.getElem?_eq_getElem hlt⟩
   have hxi:=hok x (List.mem_of_getElem? hx)
   have hlx : ∀ W,Below W1.heap.size W1 W→(ldvI ⟨ga,oa+k*32,none⟩).run Tryz.prog W = .ok (.agg (u8s x)) W:=fun W hW=>by
    have hr:=zAc (hca k x hx) hga (bthen b1 b1.size hW)
    exact zAb (show World.rangeAt W ga (oa+k*32) (u8s x).toList from hr) hxi
   have heq:=fun W=>zBD W x n hxi hn
   have hmd:=inL_drop hx n
   obtain ⟨bo,hbo⟩ : ∃ bo,decide (x=n)=bo:=⟨_,rfl⟩
   rw [hbo] at heq hmd
   have hmd:=Lib.hid hmd
   clear hx hca hat hok hbo
   go_wp2
   refine zAA 6 (by kernel_rfl) (by kernel_rfl) (by kernel_rfl) (by kernel_rfl) ?_
   simp only [exSp]
   iterate 6 apply Exists.intro
   repeat
    first
     | ((with_reducible apply lx0_ex)
        ·(go_simp;done)
        apply Exists.intro
        apply And.intro
        ·apply Eq.refl
        apply And.intro
        ·intro W hW hD
         have hW2:=hbel.trans (hW.mono hbel.size)
         have q0:=lnn W hW2
         have q1:=hlx W hW2
         have q2:=heq W
         go_simp
         first
          | rfl
          | (simp only [Sem.run_bind,run_eqGuard_agg _ _ _ _ _ _ _ Tryz.eqGuardType46,q2,Result.andThen_ok];rfl)
        simp only [Act.put,zA,zB,zC])
     | ((with_reducible apply zA2)
        ·(first | rfl | (go_simp;done))
        ·apply Eq.refl
        simp only [Act.put,zA,zB,zC])
   refine lx0_nil ?_ fun w5 hW5 hD5=>?_
   ·exact List.nodup_nil
   clear hD5 heq hlx
   have b5:=hbel.trans (hW5.mono hbel.size)
   cases bo
   ·have hnext:Hid (inL (l.drop (k+1)) n=G):=Lib.hid (by rw [←hrel.out,hmd.out,Bool.false_or])
    clear hrel hmd
    go_wp2
    go_roundw
    case rel=>exact ⟨k+1,by go_num,by omega,hnext,b5⟩
    case measure=>simp [intOf];omega
   ·have hG:Hid (G=true):=Lib.hid (by rw [←hrel.out,hmd.out,Bool.true_or])
    clear hrel hmd
    go_wp2
    go_ret
    exact ⟨by rw [hG.out];rfl,bthen b1 b1.size b5⟩
  ·have hki : ¬ (k:Int)<(l.length:Int):=by omega
   have hG:Hid (G=false):=Lib.hid (by rw [←hrel.out,List.drop_eq_nil_of_le (by omega)];rfl)
   clear hrel
   go_wp2
   go_ret
   exact ⟨by rw [hG.out];rfl,bthen b1 b1.size hbel⟩
end
end Go.Proofs.YtbhdfaadedlcfaaGreatDoor
