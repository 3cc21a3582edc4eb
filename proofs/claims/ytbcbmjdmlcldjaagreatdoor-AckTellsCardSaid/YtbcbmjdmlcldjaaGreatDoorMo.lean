/- Texts of this claim, laid together: Mk17, ObjId, StoI, StL, StM, AckL, OpenIds, Tab. -/
import Derived.Test.YtbcbmjdmlcldjaaGreatDoorMn
import Derived.Test.YtbcbmjdmlcldjaaGreatDoorCards
import Derived.WalkKit
import Derived.ProofKit
import Derived.OpenShut
import Derived.Deep.DeepHandedRow
import Derived.Lib.LaidTab
namespace Go.Proofs.YtbcbmjdmlcldjaaGreatDoor
open Go.RowKit
section
def ldvM (p:Addr):Sem Value:=loadVar 31 p
theorem ldvM_eq (p:Addr):loadVar 31 p=ldvM p:=rfl
theorem run_ldvM {w:World} {g:Nat} {a b c d e f:Value} (h:Blk w g 31 #[a,b,c,d,e,f]):(ldvM ⟨g,0,none⟩).run Tryz.prog w = .ok (.agg #[a,b,c,d,e,f]) w:=run_loadVar_row w g _ _ _ _ _ h Tryz.underlying31 rfl (by kernel_rfl)
attribute [local go_sem ↓] ldvI_eq ldvS_eq ldvM_eq
def zMade : Array Value := #[.slice none 0 0, .slice none 0 0, .slice none 0 0, .slice none 0 0, .slice none 0 0, .slice none 0 0]
theorem zeroMade (W:World):(zeroValue 31).run Tryz.prog W = .ok (.agg zMade) W:=by
 have h:(Tryz.prog.info? 31).map (·.zero)=some (some (.agg zMade)):=by kernel_rfl
 obtain ⟨i,h1,h2⟩:=Option.map_eq_some_iff.1 h
 simp [zeroValue,typeInfo,h1,h2]
theorem built_made (a b:Value):Tryz.prog.built 31 [(0, .agg #[a]),(1, .agg #[b])]=some #[a,b, .slice none 0 0, .slice none 0 0, .slice none 0 0, .slice none 0 0]:=by kernel_rfl
theorem built_made0 : Tryz.prog.built 31 []=some zMade:=by kernel_rfl
theorem szMade : (Tryz.prog.info? 31).map (·.size)=some 6:=by kernel_rfl
def IdsIn (w:World) (v:Value) (n:Nat):Prop := ∃ l,Ids w v l∧(∀ x∈l,x.length=32)∧l.length≤n
theorem IdsIn.below {w w':World} {v:Value} {n:Nat} (h:IdsIn w v n) (hb:Below w.heap.size w w'):IdsIn w' v n:=by
 obtain ⟨l,h1,h2,h3⟩:=h
 exact ⟨l,h1.below hb,h2,h3⟩
def IdsT (w:World) (e:Ending) (w':World):Prop := ∃ v l,e = .returned v∧OwnIds w' w.heap.size v l∧(∀ x∈l,x.length=32)∧l.length≤10
theorem IdsR.ten {w w':World} {n:Nat} {e:Ending} (h:IdsR w n e w') (hn:n≤10):IdsT w e w':=by
 obtain ⟨v,l,h1,h2,h3,h4⟩:=h
 exact ⟨v,l,h1,h2,h3,by omega⟩
def MadeAt (w:World) (X:Array Value):Prop := ∃ vm1 es1 vm2 es2 v3 v4 v5 v6,X = #[vm1,vm2,v3,v4,v5,v6]∧(DocSt w vm1 es1∧es1.length≤24)∧(DocSt w vm2 es2∧es2.length≤24)∧IdsIn w v3 10∧IdsIn w v4 10∧IdsIn w v5 10∧IdsIn w v6 24
def MakeR (e:Ending) (w':World):Prop := ∃ X b,e = .returned (.tuple #[.agg X, .bool b])∧X.size=6∧X.all (·.oneCell')=true∧(b=true→MadeAt w' X)
def idsR (B N:Nat) (v:Value) (F:Foot) (w:World):Prop := ∃ ids:List Txt,(∀ x∈ids,x.length=32)∧ids.length≤N∧ownR B 53 32 ids.length (rowsOf idC ids) v F w
theorem own_snocM {w:World} {B:Nat} {v:Value} {acc:List Txt} {x:Txt} (h:w.ownsRow B 53 32 v (acc.length+1) (rowsOf idC acc++(u8s x).toList)):OwnIds w B v (acc++[x]):=by
 unfold OwnIds
 rw [List.length_append,List.length_singleton,zAo,zAp]
 exact h
theorem idsR_stab (B N:Nat) (v:Value):Stab (idsR B N v):=fun F F' w w' hf ha ⟨ids,h1,h2,h3⟩=>⟨ids,h1,h2,zBL _ _ _ _ _ v F F' w w' hf ha h3⟩
theorem idsR_new {B N:Nat} {ids:List Txt} {v:Value} {w w':World} {w0:World} {rows:List (Option Nat)} (hB:B≤w.heap.size) (h:OwnIds w' w.heap.size v ids) (h1 : ∀ x∈ids,x.length=32) (h2:ids.length≤N):NewR w0 rows (idsR B N) none w v w':=fun F f1 f2 f3=>⟨ids,h1,h2,zDb hB h F f1 f2 f3⟩
def prtF (N:Nat) (v:Value) (F:Foot) (w:World):Prop := ∃ vm es,v = .agg #[vm]∧DocSt w vm es∧es.length≤24∧(∀ k,DocUse vm es k→N≤k) ∧ ∀ k,DocUse vm es k→F k
theorem prtF_stab (N:Nat) (v:Value):Stab (prtF N v):=fun _ _ _ _ hf ha ⟨vm,es,h1,h2,h3,h0,h4⟩=>⟨vm,es,h1,h2.same fun k hk=>ha.same k (h2.lt hk) (h4 k hk),h3,h0,fun k hk=>hf k (h4 k hk)⟩
def two1 (v0 v1:Value) (cs:Array Value):Prop := ∃ a b,v0 = .agg #[a]∧v1 = .agg #[b]∧cs = #[a,b, .slice none 0 0, .slice none 0 0, .slice none 0 0, .slice none 0 0]
section
variable {P:Program} {ops:Array Oper} {w0:World} {rows:List (Option Nat)} {pres:Pres} {sps:List Sp} {E:Act→Facts→Prop} {i:Nat} {rest:List Oper} {s:Sp} {ss:List Sp} {a:Act} {D:Facts} {w:World}
def bld2R (Φ:Value→Value→Array Value→Prop) (ρ:List Value) (v:Value):Prop := ∃ cs,v = .agg cs∧Φ (ρ.getD 0 undef) (ρ.getD 1 undef) cs
theorem lx_build2 {d:Option Tmp} {T rt:TypeId} {pos:String} {af:Array Edge} {i0 i1:Nat} {x0 x1:Operand} (Φ:Value→Value→Array Value→Prop) (hs:s = .new fun ρ v _ _=>bld2R Φ ρ v)
 (h : ∃ v0 v1,a.eval x0=v0∧a.eval x1=v1∧(∀ w,Far rows w0 w→Have ops pres i D w → ∃ cs,P.built T [(i0,v0),(i1,v1)]=some cs∧Φ v0 v1 cs) ∧ ∀ v,LxL P ops w0 rows pres sps E (i+1) rest ss (a.put d v) ((i,fun _ _ => ∃ cs,v = .agg cs∧Φ v0 v1 cs)::D)) :
 LxL P ops w0 rows pres sps E i ({ dst:=d,op := .build T #[(i0,x0),(i1,x1)],type:=rt,pos:=pos,after:=af,guard:=none }::rest) (s::ss) a D:=by
 obtain ⟨_,_,rfl,rfl,hc,h⟩:=h
 refine lx_new (fun ρ v _ _=>bld2R Φ ρ v) hs (by simp [Region.wanted]) (fun ρ v=>zBO (bld2R Φ ρ) v) (fun w hw hh=>?_) h
 obtain ⟨cs,hb,hp⟩:=hc w hw hh
 exact does_build [(i0,a.eval x0),(i1,a.eval x1)] cs hb (by simp) ⟨Below.refl _ _,fun _ _ _ _=>⟨cs,rfl,hp⟩⟩
end
def IdsO (w:World) (v:Value) (n:Nat):Prop := ∃ l,OwnIds w 0 v l∧(∀ x∈l,x.length=32)∧l.length≤n
theorem IdsO.mk' {w:World} {B n:Nat} {v:Value} {l:List Txt} (h:OwnIds w B v l) (h1 : ∀ x∈l,x.length=32) (h2:l.length≤n):IdsO w v n:=⟨l,zAx h (Nat.zero_le _),h1,h2⟩
theorem IdsO.below {w w':World} {v:Value} {n:Nat} (h:IdsO w v n) (hb:Below w.heap.size w w'):IdsO w' v n:=by
 obtain ⟨l,h1,h2,h3⟩:=h
 exact ⟨l,zAd h1 hb,h2,h3⟩
theorem IdsO.in_ {w:World} {v:Value} {n:Nat} (h:IdsO w v n):IdsIn w v n:=by
 obtain ⟨l,h1,h2,h3⟩:=h
 exact ⟨l,SliceAt.of_own (idsK h2) h1,h2,h3⟩
theorem IdsO.far {w w':World} {v:Value} {n g:Nat} {T:TypeId} {cs:Array Value} (h:IdsO w v n) (hb:Blk w g T cs) (hT:53≠T) (hf:Far [some g] w w'):IdsO w' v n:=by
 obtain ⟨l,h1,h2,h3⟩:=h
 exact ⟨l,hf.own h1 fun k hk hm=>zAu h1 hb hT (by rw [hk];exact (List.mem_singleton.1 hm).symm),h2,h3⟩
theorem DocSt.far1 {w w':World} {vm:Value} {es:List DiL} {g:Nat} {T:TypeId} {cs:Array Value} (h:DocSt w vm es) (hb:Blk w g T cs) (h1:70≠T) (h2:138≠T) (h3:53≠T) (hf:Far [some g] w w'):DocSt w' vm es:=h.far hf fun k hk hu=>h.blk_ne hb h1 h2 h3 (by
 have:=List.mem_singleton.1 hk
 injection this with this
 rw [←this];exact hu)
theorem zC8 (w:World) (g i:Nat) (v:Value):Far [some g] w (w.setCell ⟨g,i,none⟩ v):=(Far.refl [some g] w).set_ (p:=⟨g,i,none⟩) (.inl (List.mem_singleton.2 rfl)) v
theorem far_row (w:World) (g:Nat) (cs:Array Value):Far [some g] w (w.setRow g cs):=⟨rfl,rfl,rfl,by simp,fun k _ hn=>setRow_other _ _ _ _ fun e=>hn (List.mem_singleton.2 (by rw [e]))⟩
theorem run_ldvS_at {w:World} {g o:Nat} {vm:Value} (h:w.rangeAt g o [vm]):(ldvS ⟨g,o,none⟩).run Tryz.prog w = .ok (.agg #[vm]) w:=run_loadVar_mid (P:=Tryz.prog) w g o 29 [vm] _ h Tryz.underlying29 rfl szDSt
structure MkS (w:World) (g gr:Nat) (cs:Array Value) (vm1 vm2:Value) (es1 es2:List DiL):Prop where
 blk:Blk w g 31 cs
 res:Blk w gr 31 zMade
 d1:DocSt w vm1 es1
 d2:DocSt w vm2 es2
theorem MkS.below {w w':World} {g gr:Nat} {cs:Array Value} {vm1 vm2:Value} {es1 es2:List DiL} (h:MkS w g gr cs vm1 vm2 es1 es2) (hb:Below w.heap.size w w'):MkS w' g gr cs vm1 vm2 es1 es2:=⟨h.blk.below hb h.blk.lt,h.res.below hb h.res.lt,h.d1.below hb,h.d2.below hb⟩
theorem MkS.put {w:World} {g gr:Nat} {cs:Array Value} {vm1 vm2:Value} {es1 es2:List DiL} (h:MkS w g gr cs vm1 vm2 es1 es2) (hg:gr≠g) (i:Nat) (v:Value):MkS (w.setCell ⟨g,i,none⟩ v) g gr (cs.setIfInBounds i v) vm1 vm2 es1 es2:=
 ⟨h.blk.set_ i v,h.res.far (p:=⟨g,i,none⟩) hg v,h.d1.far1 h.blk (by decide) (by decide) (by decide) (zC8 _ _ _ _),h.d2.far1 h.blk (by decide) (by decide) (by decide) (zC8 _ _ _ _)⟩
set_option maxRecDepth 100000 in
set_option maxHeartbeats 16000000 in
theorem make17_calls (x:SideL) (vs v1 v2 v3 v4 v5 v6:Value) (w:World) (hx:SideOk w vs v1 v2 v3 v4 v5 x) :
 Calls Tryz.prog 5 #[.agg #[vs,v1,v2,v3,v4,v5,v6]] w fun e w'=>MakeR e w'∧Below w.heap.size w w':=by
 have hzS:=zeroS14
 have hzM:=zeroMade
 obtain ⟨W1,hW1⟩ : ∃ W1,w.alloc (.cells #[vs,v1,v2,v3,v4,v5,v6] 25)=W1:=⟨_,rfl⟩
 have s1:Blk W1 w.heap.size 25 #[vs,v1,v2,v3,v4,v5,v6]:=by rw [←hW1];exact Blk.new _ _ _
 have b1:Below w.heap.size w W1:=by rw [←hW1];exact (Below.refl _ _).alloc (Nat.le_refl _) _
 obtain ⟨W2,hW2⟩ : ∃ W2,W1.alloc (.cells zMade 31)=W2:=⟨_,rfl⟩
 have r2:Blk W2 W1.heap.size 31 zMade:=by rw [←hW2];exact Blk.new _ _ _
 have bb2:Below W1.heap.size W1 W2:=by rw [←hW2];exact (Below.refl _ _).alloc (Nat.le_refl _) _
 have b2:=bthen b1 b1.size bb2
 have s2:=s1.below bb2 s1.lt
 have hle1:w.heap.size≤W1.heap.size:=b1.size
 have hlt1:W1.heap.size<W2.heap.size:=r2.lt
 have c0 : ∀ W,Below W2.heap.size W2 W→W.cell? ⟨w.heap.size,0,none⟩=some vs:=fun W hW=>(s2.below hW s2.lt).cell 0
 have c1 : ∀ W,Below W2.heap.size W2 W→W.cell? ⟨w.heap.size,1,none⟩=some v1:=fun W hW=>(s2.below hW s2.lt).cell 1
 have c2 : ∀ W,Below W2.heap.size W2 W→W.cell? ⟨w.heap.size,2,none⟩=some v2:=fun W hW=>(s2.below hW s2.lt).cell 2
 have c3 : ∀ W,Below W2.heap.size W2 W→W.cell? ⟨w.heap.size,3,none⟩=some v3:=fun W hW=>(s2.below hW s2.lt).cell 3
 have c4 : ∀ W,Below W2.heap.size W2 W→W.cell? ⟨w.heap.size,4,none⟩=some v4:=fun W hW=>(s2.below hW s2.lt).cell 4
 have c5 : ∀ W,Below W2.heap.size W2 W→W.cell? ⟨w.heap.size,5,none⟩=some v5:=fun W hW=>(s2.below hW s2.lt).cell 5
 have c02:=c0 W2 (Below.refl _ _)
 have hfw:Hid (Calls Tryz.prog 23 #[vs, .int .i64 24] W2 fun e w'=>FewB x.seeds 24 e∧Below W2.heap.size W2 w'):=Lib.hid (few_calls11 x.seeds 24 (by omega) vs W2 (hx.seeds.below b2))
 have hgr:=fun (h1:x.seeds.length≤24 ∧ ∀ y∈x.seeds,y.refs.length≤10∧y.text.length≤300) W (hW:Below w.heap.size w W)=>Lib.hid (grow_calls x.seeds (Nat.le_trans h1.1 (by omega)) h1.2 vs W (hx.seeds.below hW))
 have hid:=fun (ids:List Txt) (hok : ∀ y∈ids,y.length=32) (hil:ids.length≤24) (v:Value) W (hW:Below w.heap.size w W) (hv:Ids W v ids) (l:Txt) (hl10:l.length≤10) (vl:Value) (hvl:SliceAt w 1 byC vl l)=>(ids12_calls ids hok (Nat.le_trans hil (by omega)) v W hv l (Nat.le_trans hl10 (by omega)) vl (hvl.below hW)).mono fun e w' (q:IdsR W l.length e w'∧Below W.heap.size W w')=>(⟨q.1.ten hl10,q.2⟩:IdsT W e w'∧Below W.heap.size W w')
 have hM1:zMade.all (·.oneCell')=true:=by kernel_rfl
 have hszM:(Tryz.prog.info? 31).map (·.size)=some zMade.size:=szMade
 have hbZ:=built_made0
 have hno:Hid (∀ w',MakeR (.returned (.tuple #[.agg zMade, .bool false])) w'):=Lib.hid fun w'=>⟨zMade,false,rfl,rfl,hM1,fun h=>by cases h⟩
 have hs1:=hx.srv
 obtain ⟨A1,k1,rfl,_⟩:=id hs1
 obtain ⟨L1,hL1⟩ : ∃ L,x.srv.length=L:=⟨_,rfl⟩
 simp only [hL1] at c1 hs1 hW1 ⊢
 have hs2:=hx.cli
 obtain ⟨A2,k2,rfl,_⟩:=id hs2
 obtain ⟨L2,hL2⟩ : ∃ L,x.cli.length=L:=⟨_,rfl⟩
 simp only [hL2] at c2 hs2 hW1 ⊢
 have hs3:=hx.cut
 obtain ⟨A3,k3,rfl,_⟩:=id hs3
 obtain ⟨L3,hL3⟩ : ∃ L,x.cut.length=L:=⟨_,rfl⟩
 simp only [hL3] at c3 hs3 hW1 ⊢
 have hs4:=hx.wants
 obtain ⟨A4,k4,rfl,_⟩:=id hs4
 obtain ⟨L4,hL4⟩ : ∃ L,x.wants.length=L:=⟨_,rfl⟩
 simp only [hL4] at c4 hs4 hW1 ⊢
 have hs5:=hx.common
 obtain ⟨A5,k5,rfl,_⟩:=id hs5
 obtain ⟨L5,hL5⟩ : ∃ L,x.common.length=L:=⟨_,rfl⟩
 simp only [hL5] at c5 hs5 hW1 ⊢
 clear hx
 clear s1 s2
 go_enter Tryz.func5,Tryz.ntmps5
 go_upto_region 2 with (first
  | ((with_reducible refine hfw.out.mono ?_);rintro e w3 ⟨⟨b,rfl,hb⟩,hb3⟩))
 have b3:=bthen b2 b2.size hb3
 have r3:=r2.below hb3 r2.lt
 have d0:=c0 w3 hb3
 have d1:=c1 w3 hb3
 have d2:=c2 w3 hb3
 have d3:=c3 w3 hb3
 have d4:=c4 w3 hb3
 have d5:=c5 w3 hb3
 clear hfw c02 hW1 hW2
 cases b with
 | false=>
   clear hgr hid c0 c1 c2 c3 c4 c5 hb
   go_wp2_with (first
    | ((with_reducible refine zBk hbZ ?_ ?_);rfl)
    | (refine wpList_store_row rfl 31 (.tmp 2) (.tmp 46) rfl W1.heap.size zMade rfl rfl _ _ r3 hszM rfl hM1 ?_))
   refine bodyPost_ret (zAg rfl _ _ W1.heap.size _ _ _ _ rfl (setRow_heap _ _ _ _ _ _ r3) Tryz.underlying31 rfl hszM) rfl ?_
   exact ⟨hno.out _,zAa b3 hle1 _⟩
 | true=>
   have hb:=hb rfl
   replace hgr:=hgr hb w3 b3
   rcases (show 10<L1∨(¬ 10<L1∧10<L2)∨(¬ 10<L1 ∧ ¬ 10<L2∧10<L3)∨(¬ 10<L1 ∧ ¬ 10<L2 ∧ ¬ 10<L3∧10<L4)∨(¬ 10<L1 ∧ ¬ 10<L2 ∧ ¬ 10<L3 ∧ ¬ 10<L4∧10<L5)∨(¬ 10<L1 ∧ ¬ 10<L2 ∧ ¬ 10<L3 ∧ ¬ 10<L4 ∧ ¬ 10<L5) by omega) with q1 | ⟨q1,q2⟩ | ⟨q1,q2,q3⟩ | ⟨q1,q2,q3,q4⟩ | ⟨q1,q2,q3,q4,q5⟩ | ⟨q1,q2,q3,q4,q5⟩
   ·have i1:(10:Int)<(L1:Int):=by omega
    clear hgr hid c0 c1 c2 c3 c4 c5 hb
    go_wp2_with (first
     | ((with_reducible refine zBk hbZ ?_ ?_);rfl)
     | (refine wpList_store_row rfl 31 (.tmp 2) (.tmp 46) rfl W1.heap.size zMade rfl rfl _ _ r3 hszM rfl hM1 ?_))
    refine bodyPost_ret (zAg rfl _ _ W1.heap.size _ _ _ _ rfl (setRow_heap _ _ _ _ _ _ r3) Tryz.underlying31 rfl hszM) rfl ?_
    exact ⟨hno.out _,zAa b3 hle1 _⟩
   ·have i1 : ¬ (10:Int)<(L1:Int):=by omega
    have i2:(10:Int)<(L2:Int):=by omega
    clear hgr hid c0 c1 c2 c3 c4 c5 hb
    go_wp2_with (first
     | ((with_reducible refine zBk hbZ ?_ ?_);rfl)
     | (refine wpList_store_row rfl 31 (.tmp 2) (.tmp 46) rfl W1.heap.size zMade rfl rfl _ _ r3 hszM rfl hM1 ?_))
    refine bodyPost_ret (zAg rfl _ _ W1.heap.size _ _ _ _ rfl (setRow_heap _ _ _ _ _ _ r3) Tryz.underlying31 rfl hszM) rfl ?_
    exact ⟨hno.out _,zAa b3 hle1 _⟩
   ·have i1 : ¬ (10:Int)<(L1:Int):=by omega
    have i2 : ¬ (10:Int)<(L2:Int):=by omega
    have i3:(10:Int)<(L3:Int):=by omega
    clear hgr hid c0 c1 c2 c3 c4 c5 hb
    go_wp2_with (first
     | ((with_reducible refine zBk hbZ ?_ ?_);rfl)
     | (refine wpList_store_row rfl 31 (.tmp 2) (.tmp 46) rfl W1.heap.size zMade rfl rfl _ _ r3 hszM rfl hM1 ?_))
    refine bodyPost_ret (zAg rfl _ _ W1.heap.size _ _ _ _ rfl (setRow_heap _ _ _ _ _ _ r3) Tryz.underlying31 rfl hszM) rfl ?_
    exact ⟨hno.out _,zAa b3 hle1 _⟩
   ·have i1 : ¬ (10:Int)<(L1:Int):=by omega
    have i2 : ¬ (10:Int)<(L2:Int):=by omega
    have i3 : ¬ (10:Int)<(L3:Int):=by omega
    have i4:(10:Int)<(L4:Int):=by omega
    clear hgr hid c0 c1 c2 c3 c4 c5 hb
    go_wp2_with (first
     | ((with_reducible refine zBk hbZ ?_ ?_);rfl)
     | (refine wpList_store_row rfl 31 (.tmp 2) (.tmp 46) rfl W1.heap.size zMade rfl rfl _ _ r3 hszM rfl hM1 ?_))
    refine bodyPost_ret (zAg rfl _ _ W1.heap.size _ _ _ _ rfl (setRow_heap _ _ _ _ _ _ r3) Tryz.underlying31 rfl hszM) rfl ?_
    exact ⟨hno.out _,zAa b3 hle1 _⟩
   ·have i1 : ¬ (10:Int)<(L1:Int):=by omega
    have i2 : ¬ (10:Int)<(L2:Int):=by omega
    have i3 : ¬ (10:Int)<(L3:Int):=by omega
    have i4 : ¬ (10:Int)<(L4:Int):=by omega
    have i5:(10:Int)<(L5:Int):=by omega
    clear hgr hid c0 c1 c2 c3 c4 c5 hb
    go_wp2_with (first
     | ((with_reducible refine zBk hbZ ?_ ?_);rfl)
     | (refine wpList_store_row rfl 31 (.tmp 2) (.tmp 46) rfl W1.heap.size zMade rfl rfl _ _ r3 hszM rfl hM1 ?_))
    refine bodyPost_ret (zAg rfl _ _ W1.heap.size _ _ _ _ rfl (setRow_heap _ _ _ _ _ _ r3) Tryz.underlying31 rfl hszM) rfl ?_
    exact ⟨hno.out _,zAa b3 hle1 _⟩
   ·have i1 : ¬ (10:Int)<(L1:Int):=by omega
    have i2 : ¬ (10:Int)<(L2:Int):=by omega
    have i3 : ¬ (10:Int)<(L3:Int):=by omega
    have i4 : ¬ (10:Int)<(L4:Int):=by omega
    have i5 : ¬ (10:Int)<(L5:Int):=by omega
    have hsl:=hb.1
    have hl1:x.srv.length≤10:=by omega
    have hl2:x.cli.length≤10:=by omega
    have hl3:x.cut.length≤10:=by omega
    have hl4:x.wants.length≤10:=by omega
    have hl5:x.common.length≤10:=by omega
    have hc1':=Lib.hid c1
    have hc2':=Lib.hid c2
    have hc4':=Lib.hid c4
    have hc5':=Lib.hid c5
    clear hb c0 c1 c2 c4 c5 hL1 hL2 hL3 hL4 hL5 hno
    go_upto_region 6 with (first
     | ((with_reducible refine hgr.out.mono ?_);rintro e w4 ⟨⟨vm,es,vi,ids,rfl,hD,hel,hoi,hil,hok, -⟩,hb4⟩
        obtain ⟨Ai,ci,rfl⟩:=zAl hoi
        obtain ⟨Am,cm,rfl⟩:=zAl hD.own
        have hm2:(#[Value.slice Am es.length cm]:Array Value).all (·.oneCell')=true:=by simp [Value.oneCell']
        have hm1:(#[Value.slice Am es.length cm]:Array Value).size=1:=rfl)
     | ((with_reducible refine lit_new 29 (.tmp 5) (.tmp 51) #[.slice Am es.length cm] 1 szDSt hm1 hm2 _ ?_ ?_ ?_ ?_)
        ·first | exact hm1 | rfl
        ·rfl
        ·rfl
        intro w5 hb5 hbl5
        have b25:=bthen hb3 hb3.size (bthen hb4 hb4.size hbl5)
        have e3:=c3 w5 b25
        have b5:=bthen b2 b2.size b25
        have hiI5:=(SliceAt.of_own (idsK hok) hoi).below hbl5
        have hcut5:=Lib.hid (hid ids hok (by omega) _ w5 b5 hiI5 x.cut hl3 _ hs3))
     | ((with_reducible refine hcut5.out.mono ?_);rintro e w6 ⟨⟨vcu,cut,rfl,hocu,hcok,hcl⟩,hb6⟩
        obtain ⟨Acu,ccu,rfl⟩:=zAl hocu))
    have b26:=bthen b25 b25.size hb6
    have b6:=bthen b2 b2.size b26
    have hD6:=(hD.below hbl5).below hb6
    have hiI6:=hiI5.below hb6
    have hoi6:=zAd (zAd hoi hbl5) hb6
    have r6:=r2.below b26 r2.lt
    have lS6:=fun W (hW:Below w6.heap.size w6 W)=>zAC ((hb5.below hb6 hb5.lt).below hW (hb5.below hb6 hb5.lt).lt)
    have c16:=fun W (hW:Below w6.heap.size w6 W)=>hc1'.out W (bthen b26 b26.size hW)
    have c26:=fun W (hW:Below w6.heap.size w6 W)=>hc2'.out W (bthen b26 b26.size hW)
    have hsrv:=fun W (hW:Below w6.heap.size w6 W)=>hid ids hok (by omega) _ W (bthen b6 b6.size hW) (hiI6.below hW) x.srv hl1 _ hs1
    have hcli:=fun W (hW:Below w6.heap.size w6 W)=>hid ids hok (by omega) _ W (bthen b6 b6.size hW) (hiI6.below hW) x.cli hl2 _ hs2
    have hcuI:=SliceAt.of_own (idsK hcok) hocu
    have hsn:es.length≤24:=Nat.le_trans hel hsl
    have hpS:=fun W (hW:Below w6.heap.size w6 W) ini (hi : ∀ y∈ini,y.length=32) (hil:ini.length≤10) v (hv:Ids W v ini)=>part_calls (hD6.below hW) (by omega) ini [] hi (fun y hy=>absurd hy List.not_mem_nil) (by omega) v _ hv SliceAt.nil
    have hpC:=fun W (hW:Below w6.heap.size w6 W) ini (hi : ∀ y∈ini,y.length=32) (hil:ini.length≤10) v (hv:Ids W v ini)=>part_calls (hD6.below hW) (by omega) ini cut hi hcok (by omega) v _ hv (hcuI.below hW)
    have hsn24:(es.map (·.st)).length≤24:=by rw [List.length_map];exact hsn
    clear hcut5 hgr hD hoi hiI5 e3 c3 hb4 hbl5 hb5 hb6 d0 d1 d2 d3 d4 d5 b5 b25
    refine zAr 16 (by kernel_rfl) (by kernel_rfl) (by kernel_rfl) (by kernel_rfl) ?_
    simp only [exSp]
    iterate 16 apply Exists.intro
    repeat
     first
      | ((with_reducible apply lx0_ex)
         ·(go_simp;done)
         apply Exists.intro
         apply And.intro
         ·apply Eq.refl
         apply And.intro
         ·intro W hW hD
          have q0:=lS6 W hW
          have q1:=c16 W hW
          have q2:=c26 W hW
          go_simp
          rfl
         simp only [Act.put,zA,zB,zC])
      | ((with_reducible apply zAJ)
         ·(first | rfl | (go_simp;done))
         ·apply Eq.refl
         simp only [Act.put,zA,zB,zC])
      | ((with_reducible refine lx0_new (idsR w6.heap.size 10) rfl ?_ (idsR_stab _ _) ?_ ?_)
         ·(go_simp;done)
         ·intro W hW hD
          unfold doesAt Oper.wp execOp
          go_simp
          first
           | (with_reducible refine (hsrv W hW).mono ?_)
           | (with_reducible refine (hcli W hW).mono ?_)
          rintro e w' ⟨⟨v,l,rfl,ho,hl1_,hl2_⟩,hb⟩
          exact ⟨hb,idsR_new hW.size ho hl1_ hl2_⟩
         intro v
         simp only [Act.put,zA,zB,zC])
      | ((with_reducible refine lx0_new (prtF w6.heap.size) rfl ?_ (prtF_stab _) ?_ ?_)
         ·(go_simp;done)
         ·intro W hW hD
          unfold doesAt Oper.wp execOp
          go_simp
          obtain ⟨F,ini,hiok,hil_,ho,_⟩:=hD.at 0 rfl (by kernel_rfl)
          first
           | (with_reducible refine (hpS W hW ini hiok hil_ _ (SliceAt.of_own (idsK hiok) ho)).mono ?_)
           | (with_reducible refine (hpC W hW ini hiok hil_ _ (SliceAt.of_own (idsK hiok) ho)).mono ?_)
          rintro e w' ⟨⟨vm7,es7,rfl,D7,hp7,hn7⟩,hb7⟩
          have hl7:=part_len hp7
          rw [List.length_map] at hl7
          exact ⟨hb7,fun F f1 f2 f3=>⟨vm7,es7,rfl,D7,Nat.le_trans hl7 hsn24,fun k hk=>Nat.le_trans hW.size (hn7 k hk),fun k hk=>f3 k (hn7 k hk) (D7.lt hk)⟩⟩
         intro v
         simp only [Act.put,zA,zB,zC])
      | ((with_reducible apply lx_build2 two1)
         ·apply Eq.refl
         apply Exists.intro
         apply Exists.intro
         apply And.intro
         ·(go_simp;rfl)
         apply And.intro
         ·(go_simp;rfl)
         refine ⟨fun W hF hD=>?_,?_⟩
         ·obtain ⟨F1,vmb,esb,rfl,_⟩:=hD.at 0 rfl (by kernel_rfl)
          obtain ⟨F2,vma,esa,rfl,_⟩:=hD.at 2 rfl (by kernel_rfl)
          exact ⟨_,built_made vma vmb,vma,vmb,rfl,rfl,rfl⟩
         intro v
         simp only [Act.put,zA,zB,zC])
      | ((with_reducible apply lx_al 31 zMade hzM)
         ·apply Eq.refl
         intro v
         simp only [Act.put,zA,zB,zC])
      | ((with_reducible apply lx_st' 14 31 zMade hszM (by kernel_rfl))
         ·exact rfl
         ·apply Eq.refl
         apply Exists.intro
         apply Exists.intro
         apply And.intro
         ·(go_simp;rfl)
         apply And.intro
         ·(go_simp;rfl)
         refine ⟨?_,fun W hW hD=>?_,?_⟩
         ·first | exact List.Mem.head _ | exact List.Mem.tail _ (List.Mem.head _) | exact List.Mem.tail _ (List.Mem.tail _ (List.Mem.head _)) | exact List.Mem.tail _ (List.Mem.tail _ (List.Mem.tail _ (List.Mem.head _)))
         ·obtain ⟨F,cs,rfl,a_,b_,ha,hb_,rfl⟩:=hD.at 1 rfl (by kernel_rfl)
          obtain ⟨F1,vmb,esb,hvb,Db,_⟩:=hD.at 2 rfl (by kernel_rfl)
          obtain ⟨F2,vma,esa,hva,Da,_⟩:=hD.at 4 rfl (by kernel_rfl)
          obtain rfl:vma=a_:=by rw [hva] at ha;injection ha with ha;injection ha with ha;injection ha
          obtain rfl:vmb=b_:=by rw [hvb] at hb_;injection hb_ with hb_;injection hb_ with hb_;injection hb_
          exact ⟨_,rfl,rfl,by simp [Da.one,Db.one,show (Value.slice none 0 0).oneCell'=true from rfl]⟩)
    refine lx0_nil ?_ fun w7 hW7 hD7=>?_
    ·exact (by simp [stsOf])
    obtain ⟨_,g8,cs8,rfl,hcs8,hg8,_,hb8⟩:=hD7 _ (.head _)
    obtain ⟨_,cs9,hcs9,va_,vb_,hva,hvb,rfl⟩:=hD7 _ (.tail _ (.tail _ (.head _)))
    obtain ⟨_,vm2,es2,hv2,hD2,hE2,hn2, -⟩:=hD7 _ (.tail _ (.tail _ (.tail _ (.head _))))
    obtain ⟨_,vm1,es1,hv1,hD1,hE1,hn1, -⟩:=hD7 _ (.tail _ (.tail _ (.tail _ (.tail _ (.tail _ (.head _))))))
    obtain rfl:vm1=va_:=by rw [hv1] at hva;injection hva with hva;injection hva with hva;injection hva
    obtain rfl:vm2=vb_:=by rw [hv2] at hvb;injection hvb with hvb;injection hvb with hvb;injection hvb
    obtain rfl : #[vm1,vm2, .slice none 0 0, .slice none 0 0, .slice none 0 0, .slice none 0 0]=cs8:=by rw [hcs9] at hcs8;injection hcs8
    replace hg8:w6.heap.size≤g8:=hg8
    clear hD7 hcs8 hcs9 hva hvb hv1 hv2 hsrv hcli hpS hpC c16 c26 lS6
    have b07:=bthen b6 b6.size hW7
    have r7:=r6.below hW7 r6.lt
    have hg8r:W1.heap.size≠g8:=by have:=r6.lt;have:=b26.size;have:=r2.lt;omega
    have hS7:MkS w7 g8 W1.heap.size _ vm1 vm2 es1 es2:=⟨hb8,r7,hD1,hD2⟩
    have hi7:IdsO w7 (.slice Ai ids.length ci) 24:=IdsO.mk' (zAd hoi6 hW7) hok (by omega)
    have hiI7:=hiI6.below hW7
    have hcu7:=hcuI.below hW7
    have hcl10:cut.length≤10:=hcl
    have hg80:w.heap.size≤g8:=by have:=b6.size;omega
    have hz7:W1.heap.size≤w7.heap.size:=Nat.le_of_lt r7.lt
    have lB:=fun W (hW:Below w7.heap.size w7 W)=>run_ldvS_at (w:=W) (g:=g8) (o:=1) (vm:=vm2) (fun j u hu=>by
     cases j with
     | zero=>
       have h0:some vm2=some u:=hu
       injection h0 with h0
       subst h0
       exact (hb8.below hW hb8.lt).cell 1
     | succ j=>simp at hu)
    have hkd:=fun W (hW:Below w7.heap.size w7 W) y (hy:y.length=32)=>zAM (hD2.below hW) y hy
    obtain ⟨A',c',he,_,_,hat⟩:=hcu7
    injection he with e1 _ e3
    subst e1
    subst e3
    have BW7:=hW7.mono (Nat.le_refl _)
    clear hb8 hD1 hD2 r6 r7 r3 hiI6 hoi6 hD6 hocu hcuI hsn hn1 hn2 hW7 hel hsl
    go_wp2_with (fail)
    go_loopg [9,10] cut.length (fun f v9 v10 wr => ∃ (vo:Value) (k:Nat) (acc:List Txt),vo=v9∧v10 = .int .i64 k∧k+f=cut.length∧OwnIds wr w7.heap.size vo acc∧(∀ y∈acc,y.length=32)∧acc.length≤k∧Below w7.heap.size w7 wr)
    case atStart=>exact ⟨_,0,[],rfl,rfl,by omega,World.ownsRow_nil _ _ _ _,(fun y hy=>by cases hy),Nat.zero_le _,Below.refl _ _⟩
    case round=>
     obtain ⟨vo,k,acc,rfl,rfl,hkf,hown,hak,hal,hbel⟩:=hrel
     have hbs:=hbel.size
     obtain ⟨Ao,co,rfl⟩:=zAl hown
     cases gk with
     | succ f=>
       have hki:(k:Int)<(cut.length:Int):=by omega
       obtain ⟨ga,oa,rfl,hga,hca⟩:=hat (by omega)
       obtain ⟨y,hy⟩ : ∃ y,cut[k]?=some y:=⟨_,List.getElem?_eq_getElem (by omega)⟩
       have hyi:=hcok y (List.mem_of_getElem? hy)
       have hly : ∀ W,Below wr.heap.size wr W→(ldvI ⟨ga,oa+k*32,none⟩).run Tryz.prog W = .ok (.agg (u8s y)) W:=fun W hW=>zAb (show World.rangeAt W ga (oa+k*32) (u8s y).toList from zAc (hca k y hy) hga (bthen hbel hbs hW)) hyi
       have lBr:=fun W (hW:Below wr.heap.size wr W)=>lB W (bthen hbel hbs hW)
       have hky:=fun W (hW:Below wr.heap.size wr W)=>hkd W (bthen hbel hbs hW) y hyi
       have hy32:(u8s y).size=32:=by rw [zAh,hyi]
       have hy132:(u8s y).size=1*32:=hy32
       have hy1' : ∀ u∈(u8s y).toList,u.oneCell'=true:=idC_one y
       have hAk:acc.length+1≤9223372036854775807:=by omega
       have hAb:(acc.length+1)*32≤140737488355328:=by omega
       have hak2 : ∀ z∈acc++[y],z.length=32:=fun z hz=>(List.mem_append.1 hz).elim (hak z) fun e=>by rw [List.mem_singleton.1 e];exact hyi
       have hal2:(acc++[y]).length≤k+1:=by rw [List.length_append,List.length_singleton];omega
       obtain ⟨YC,hYC⟩ : ∃ YC,u8s y=YC:=⟨_,rfl⟩
       obtain ⟨K,hK⟩ : ∃ K,kindS (es2.map (·.st)) y=K:=⟨_,rfl⟩
       simp only [hYC] at hly
       simp only [hYC,hK] at hky
       rw [hYC] at hy32 hy132 hy1'
       replace hYC:=Lib.hid hYC
       clear hca hat hy hK hkd lB hS7 hi7 hiI7
       by_cases hK3:K=3
       ·subst hK3
        go_upto_region 11 with (fail)
        refine zAe (C:=fun W=>Below wr.heap.size wr W) (by kernel_rfl) (by kernel_rfl) (Below.refl _ _).drew ?_
        repeat
         first
          | ((with_reducible refine zAm ?_ ?_)
             ·(go_simp;done)
             apply Exists.intro
             refine ⟨fun W hW=>?_,?_⟩
             ·first
               | (have q0:=lBr W hW
                  have q1:=hly W hW
                  have q2:=zAL hW (hky W hW)
                  go_simp
                  first
                   | rfl
                   | (with_reducible exact q2))
             simp only [Act.put,zA,zB,zC])
          | ((with_reducible refine zAj ?_ ?_)
             ·(first | rfl | (go_simp;done))
             simp only [Act.put,zA,zB,zC])
        with_reducible refine wpQuiet_nil ?_
        intro w9 hW9
        have o9:=zAd hown hW9
        have b9:=bthen hbel hbs hW9
        have z9:=b9.size
        have hly9:=hly w9 hW9
        clear hown lBr hky hly
        go_wp2_with (first
         | ((with_reducible refine zAq (.tmp 89) Tryz.idsTy YC hy32 (by omega) ?_ ?_);rfl)
         | ((with_reducible refine zAn (.tmp 85) (.tmp 90) 1 _ Tryz.idsTy o9 YC hy132 hy1' hAk hAb z9 ?_ ?_ ?_);rfl;rfl
            intro v5_ w10 ho10 hb10 _ _))
        have o10:OwnIds w10 w7.heap.size v5_ (acc++[y]):=own_snocM (by rw [hYC.out];exact ho10)
        have b10:=b9.trans hb10
        clear o9 ho10
        go_roundg f
        case rel=>exact ⟨_,k+1,_,rfl,by go_num,by omega,o10,hak2,hal2,b10⟩
        case measure=>omega
       ·have hKb:(K==3)=false:=by simp [hK3]
        go_upto_region 11 with (fail)
        refine zAe (C:=fun W=>Below wr.heap.size wr W) (by kernel_rfl) (by kernel_rfl) (Below.refl _ _).drew ?_
        repeat
         first
          | ((with_reducible refine zAm ?_ ?_)
             ·(go_simp;done)
             apply Exists.intro
             refine ⟨fun W hW=>?_,?_⟩
             ·first
               | (have q0:=lBr W hW
                  have q1:=hly W hW
                  have q2:=zAL hW (hky W hW)
                  go_simp
                  first
                   | rfl
                   | (with_reducible exact q2))
             simp only [Act.put,zA,zB,zC])
          | ((with_reducible refine zAj ?_ ?_)
             ·(first | rfl | (go_simp;done))
             simp only [Act.put,zA,zB,zC])
        with_reducible refine wpQuiet_nil ?_
        intro w9 hW9
        have o9:=zAd hown hW9
        have b9:=bthen hbel hbs hW9
        clear hown lBr hky hly
        go_wp2_with (fail)
        go_roundg f
        case rel=>exact ⟨_,k+1,acc,rfl,by go_num,by omega,o9,hak,by omega,b9⟩
        case measure=>omega
     | zero=>
       have hki : ¬ (k:Int)<(cut.length:Int):=by omega
       have hso:=Lib.hid (zDp acc hak (by omega) _ wr (SliceAt.of_own (idsK hak) hown))
       have hsk : ∀ y∈sortU acc,y.length=32:=fun y hy=>hak y (((zBz acc).2 y).1 hy)
       have hsl10:(sortU acc).length≤10:=Nat.le_trans (zCQ acc) (by omega)
       obtain ⟨SU,hSU⟩ : ∃ SU,sortU acc=SU:=⟨_,rfl⟩
       rw [hSU] at hso hsk hsl10
       clear hSU
       have hSr:=hS7.below hbel
       have hir:=hi7.below hbel
       have b0r:=bthen b07 b07.size hbel
       have hiIr:=hiI7.below hbel
       have b2r:Below W2.heap.size W2 wr:=bthen b26 b26.size (BW7.trans (hbel.mono BW7.size))
       clear hat hkd lB hS7 hi7 hiI7 hown hkf
       go_upto_region 14 with (first
        | ((with_reducible refine hso.out.mono ?_);rintro e w9 ⟨v9,rfl,ho9,hb9⟩
           obtain ⟨A9,c9,rfl⟩:=zAl ho9
           have hS9:=hSr.below hb9
           have q9:=hS9.blk.cell 2
           have f9:=hS9.blk.frozen 2))
       obtain ⟨w10,hw10⟩ : ∃ w10,w9.setCell ⟨g8,2,none⟩ (.slice A9 SU.length c9)=w10:=⟨_,rfl⟩
       have hS10:MkS w10 g8 W1.heap.size #[vm1,vm2, .slice A9 SU.length c9, .slice none 0 0, .slice none 0 0, .slice none 0 0] vm1 vm2 es1 es2:=by rw [←hw10];exact hS9.put hg8r 2 _
       have hf10:Far [some g8] w9 w10:=by rw [←hw10];exact zC8 _ _ _ _
       have hgl : ∀ k,some k∈[some g8]→w.heap.size≤k:=fun k hk=>by have:=List.mem_singleton.1 hk;injection this with this;omega
       have hgl2 : ∀ k,some k∈[some g8]→W2.heap.size≤k:=fun k hk=>by have:=List.mem_singleton.1 hk;injection this with this;have:=b26.size;omega
       have hsh10:IdsO w10 (.slice A9 SU.length c9) 10:=(IdsO.mk' ho9 hsk hsl10).far hS9.blk (by decide) hf10
       have hi10:=(hir.below hb9).far hS9.blk (by decide) hf10
       have b09:=bthen b0r b0r.size hb9
       have b29:=bthen b2r b2r.size hb9
       have b010:Below w.heap.size w w10:=b09.trans (hf10.below b09.size hgl)
       have b210:Below W2.heap.size W2 w10:=b29.trans (hf10.below b29.size hgl2)
       obtain ⟨lI,hlI,hlIok,hlIl⟩:=id hi10
       have e10:=hc4'.out w10 b210
       have k10:=Lib.hid (hid lI hlIok hlIl _ w10 b010 (SliceAt.of_own (idsK hlIok) hlI) x.wants hl4 _ hs4)
       rw [hw10]
       clear hw10 hSr hir hiIr hso b0r b2r hb9 hS9 q9 f9 ho9 hlI hlIok hlIl hf10 b09 b29
       go_upto_region 15 with (first
        | ((with_reducible refine k10.out.mono ?_);rintro e w11 ⟨⟨vw,lw,rfl,how,hwok,hwl⟩,hb11⟩
           obtain ⟨Aw,cw,rfl⟩:=zAl how
           have hS11:=hS10.below hb11
           have q11:=hS11.blk.cell 3
           have f11:=hS11.blk.frozen 3))
       obtain ⟨w12,hw12⟩ : ∃ w12,w11.setCell ⟨g8,3,none⟩ (.slice Aw lw.length cw)=w12:=⟨_,rfl⟩
       have hS12:MkS w12 g8 W1.heap.size #[vm1,vm2, .slice A9 SU.length c9, .slice Aw lw.length cw, .slice none 0 0, .slice none 0 0] vm1 vm2 es1 es2:=by rw [←hw12];exact hS11.put hg8r 3 _
       have hf12:Far [some g8] w11 w12:=by rw [←hw12];exact zC8 _ _ _ _
       have hsh12:=(hsh10.below hb11).far hS11.blk (by decide) hf12
       have hwa12:IdsO w12 (.slice Aw lw.length cw) 10:=(IdsO.mk' how hwok hwl).far hS11.blk (by decide) hf12
       have hi12:=(hi10.below hb11).far hS11.blk (by decide) hf12
       have b011:=bthen b010 b010.size hb11
       have b211:=bthen b210 b210.size hb11
       have b012:Below w.heap.size w w12:=b011.trans (hf12.below b011.size hgl)
       have b212:Below W2.heap.size W2 w12:=b211.trans (hf12.below b211.size hgl2)
       obtain ⟨lI,hlI,hlIok,hlIl⟩:=id hi12
       have e12:=hc5'.out w12 b212
       have k12:=Lib.hid (hid lI hlIok hlIl _ w12 b012 (SliceAt.of_own (idsK hlIok) hlI) x.common hl5 _ hs5)
       rw [hw12]
       clear hw12 hS10 hsh10 hi10 k10 b010 b210 hb11 hS11 q11 f11 how hwok hwl e10 hlI hlIok hlIl hf12 b011 b211
       go_upto_region 16 with (first
        | ((with_reducible refine k12.out.mono ?_);rintro e w13 ⟨⟨vd,lc,rfl,hoc,hck,hcl_⟩,hb13⟩
           obtain ⟨Ad,cd,rfl⟩:=zAl hoc
           have hS13:=hS12.below hb13
           have q13:=hS13.blk.cell 4
           have f13:=hS13.blk.frozen 4))
       obtain ⟨w14,hw14⟩ : ∃ w14,w13.setCell ⟨g8,4,none⟩ (.slice Ad lc.length cd)=w14:=⟨_,rfl⟩
       have hS14:MkS w14 g8 W1.heap.size #[vm1,vm2, .slice A9 SU.length c9, .slice Aw lw.length cw, .slice Ad lc.length cd, .slice none 0 0] vm1 vm2 es1 es2:=by rw [←hw14];exact hS13.put hg8r 4 _
       have hf14:Far [some g8] w13 w14:=by rw [←hw14];exact zC8 _ _ _ _
       have hsh14:=(hsh12.below hb13).far hS13.blk (by decide) hf14
       have hwa14:=(hwa12.below hb13).far hS13.blk (by decide) hf14
       have hco14:IdsO w14 (.slice Ad lc.length cd) 10:=(IdsO.mk' hoc hck hcl_).far hS13.blk (by decide) hf14
       have hi14:=(hi12.below hb13).far hS13.blk (by decide) hf14
       have b013:=bthen b012 b012.size hb13
       have b014:Below w.heap.size w w14:=b013.trans (hf14.below b013.size hgl)
       have q14:=hS14.blk.cell 5
       have f14:=hS14.blk.frozen 5
       rw [hw14]
       clear hw14 hS12 hsh12 hwa12 hi12 k12 b012 b212 hb13 hS13 q13 f13 hoc hck hcl_ e12 hf14 b013
       go_upto_region 17 with (fail)
       obtain ⟨w15,hw15⟩ : ∃ w15,w14.setCell ⟨g8,5,none⟩ (.slice Ai ids.length ci)=w15:=⟨_,rfl⟩
       have hS15:MkS w15 g8 W1.heap.size #[vm1,vm2, .slice A9 SU.length c9, .slice Aw lw.length cw, .slice Ad lc.length cd, .slice Ai ids.length ci] vm1 vm2 es1 es2:=by rw [←hw15];exact hS14.put hg8r 5 _
       have hf15:Far [some g8] w14 w15:=by rw [←hw15];exact zC8 _ _ _ _
       have hsh15:=hsh14.far hS14.blk (by decide) hf15
       have hwa15:=hwa14.far hS14.blk (by decide) hf15
       have hco15:=hco14.far hS14.blk (by decide) hf15
       have hi15:=hi14.far hS14.blk (by decide) hf15
       have b015:Below w.heap.size w w15:=b014.trans (hf15.below b014.size hgl)
       rw [hw15]
       clear hw15 hS14 hsh14 hwa14 hco14 hi14 b014 q14 f14 hf15 hgl hgl2
       have hldM:=run_ldvM hS15.blk
       have hr15:=hS15.res
       have hX1:(#[vm1,vm2, .slice A9 SU.length c9, .slice Aw lw.length cw, .slice Ad lc.length cd, .slice Ai ids.length ci]:Array Value).all (·.oneCell')=true:=by
        have o1:=hS15.d1.one
        have o2:=hS15.d2.one
        simp [o1,o2,Value.oneCell'] at *
        exact ⟨o1,o2⟩
       obtain ⟨X,hX⟩ : ∃ X:Array Value, #[vm1,vm2, .slice A9 SU.length c9, .slice Aw lw.length cw, .slice Ad lc.length cd, .slice Ai ids.length ci]=X:=⟨_,rfl⟩
       have hXs:X.size=6:=by rw [←hX];rfl
       have hszX:(Tryz.prog.info? 31).map (·.size)=some X.size:=by rw [hXs];exact szMade
       have hzX:zMade.size=X.size:=by rw [hXs];rfl
       have hfr:Far [some W1.heap.size] w15 (w15.setRow W1.heap.size X):=far_row _ _ _
       have hmade:MadeAt (w15.setRow W1.heap.size X) X:=⟨_,_,_,_,_,_,_,_,hX.symm,⟨hS15.d1.far1 hr15 (by decide) (by decide) (by decide) hfr,hE1⟩,⟨hS15.d2.far1 hr15 (by decide) (by decide) (by decide) hfr,hE2⟩,(hsh15.far hr15 (by decide) hfr).in_,(hwa15.far hr15 (by decide) hfr).in_,(hco15.far hr15 (by decide) hfr).in_,(hi15.far hr15 (by decide) hfr).in_⟩
       rw [hX] at hldM hX1
       have hres:Hid (MakeR (.returned (.tuple #[.agg X, .bool true])) (w15.setRow W1.heap.size X)):=Lib.hid ⟨X,true,rfl,hXs,hX1,fun _=>hmade⟩
       clear hX hmade hfr hS15 hsh15 hwa15 hco15 hi15
       go_wp2_with (first
        | (refine wpList_store_row rfl 31 (.tmp 2) (.tmp 107) rfl W1.heap.size X rfl rfl _ _ hr15 hszX hzX hX1 ?_))
       refine bodyPost_ret (zAg rfl _ _ W1.heap.size _ _ _ _ rfl (setRow_heap _ _ _ _ _ _ hr15) Tryz.underlying31 rfl hszX) rfl ?_
       exact ⟨hres.out,zAa b015 hle1 _⟩
end
theorem TabK.alloc_ {w:World} (h:TabK w) (o:Obj):TabK (w.alloc o):=h.below ((Below.refl _ _).alloc (Nat.le_refl _) o)
set_option maxRecDepth 100000 in
set_option maxHeartbeats 2000000 in
theorem objId_calls (s:Txt) (hs:s.length≤1000000000) (w:World) (hK:TabK w):Calls Tryz.prog 53 #[.string (B s)] w fun e w'=>e = .returned (.agg (u8s (shaOf s)))∧Below w.heap.size w w':=by
 have hzv:=zeroIdV
 have hzl:(u8s noId).size=32:=by rw [zAh,zAi]
 generalize u8s noId=Z at *
 obtain ⟨W1,hW1⟩ : ∃ W1,w.alloc (.cells Z 53)=W1:=⟨_,rfl⟩
 have hx1:Blk W1 w.heap.size 53 Z:=by rw [←hW1];exact Blk.new _ _ _
 have b1:Below w.heap.size w W1:=by rw [←hW1];exact (Below.refl _ _).alloc (Nat.le_refl _) _
 obtain ⟨W2,hW2⟩ : ∃ W2,W1.alloc (.cells #[.string (B s)] 9)=W2:=⟨_,rfl⟩
 have hb2:Below W1.heap.size W1 W2:=by rw [←hW2];exact (Below.refl _ _).alloc (Nat.le_refl _) _
 have hy2:Blk W2 W1.heap.size 9 #[.string (B s)]:=by rw [←hW2];exact Blk.new _ _ _
 have hx2:=hx1.below hb2 hx1.lt
 have b2:=bthen b1 b1.size hb2
 have hK2:TabK W2:=by rw [←hW2,←hW1];exact (hK.alloc_ _).alloc_ _
 have hst:Strs W2 (.slice (some ⟨W1.heap.size,0,none⟩) 1 1) [s] := .inr ⟨W1.heap.size,0,1,rfl,fun j l hj=>by
  match j,hj with
  | 0,hj=>
    injection hj with hj
    subst hj
    rw [hy2.cell];rfl
  | j+1,hj=>simp at hj,hy2.lt,by simp,by simp⟩
 have hsum:=sum_calls [s] _ W2 hK2 hst (by simp;omega)
 have hfl:[s].flatten=s:=by simp
 rw [hfl] at hsum
 have hsum:=Lib.hid hsum
 have hl:=zBd s
 have hsz:(Tryz.prog.info? 53).map (·.size)=some (u8s (shaOf s)).size:=by rw [zAh,hl];exact sz32
 have h32:(u8s (shaOf s)).size=32:=by rw [zAh,hl]
 have hone:=u8s_one (shaOf s)
 obtain ⟨D,hD⟩ : ∃ D,Hid (u8s (shaOf s)=D):=⟨_,Lib.hid rfl⟩
 rw [hD.out] at hsum hsz h32 hone
 clear hy2 hK2 hst hfl hl hx1 b1 hb2
 go_enter Tryz.func53,Tryz.ntmps53
 go_wp2_with (first
  | ((with_reducible refine hsum.out.mono ?_);rintro e w3 ⟨rfl,hb3⟩
     have hx3:=hx2.below hb3 hx2.lt
     have b3:=bthen b2 b2.size hb3
     clear hsum hW1 hW2)
  | (refine wpList_store_row rfl 53 (.tmp 2) (.tmp 5) rfl w.heap.size D rfl rfl _ _ hx3 hsz (by rw [hzl,h32]) hone ?_))
 exact bodyPost_ret (results_cell_row rfl _ _ w.heap.size _ _ _ _ rfl (setRow_heap _ _ _ _ _ _ hx3) Tryz.underlying53 rfl hsz) rfl ⟨by rw [hD.out],zAa b3 (Nat.le_refl _) _⟩
section
attribute [local go_sem ↓] ldvI_eq ldvO_eq
def PutAt (w:World) (base p:Nat) (vl:Value) (s':List StL) (w':World):Prop := ∃ vl',StoAt w' base p vl' s'∧Far [some p,vl.ownBlock] w w'∧Newer w vl vl'
set_option maxRecDepth 100000 in
set_option maxHeartbeats 8000000 in
theorem stoPut_calls {w:World} {base p:Nat} {vl:Value} {s:List StL} (hB:base≤w.heap.size) (h:StoAt w base p vl s) (t:Txt) (ht:t.length≤1000000) (hK:TabK w) (hf:s.length<500000) :
 Calls Tryz.prog 28 #[.pointer (some ⟨p,0,none⟩), .string (B t)] w fun e w'=>e = .returned (.tuple #[.agg (u8s (putI t)), .int .i64 (putC t)])∧PutAt w base p vl (putS s t) w':=by
 have hzI:=zeroIdV
 have hrb:=fun W=>run_build (P:=Tryz.prog) W _ _ _ zBP
 have hZ32:(u8s noId).size=32:=by rw [zAh,zAi]
 have hZone:=u8s_one noId
 obtain ⟨W0,hW0⟩ : ∃ W0,w.alloc (.cells (u8s noId) 53)=W0:=⟨_,rfl⟩
 have z0:Blk W0 w.heap.size 53 (u8s noId):=by rw [←hW0];exact Blk.new _ _ _
 have b0:Below w.heap.size w W0:=by rw [←hW0];exact (Below.refl _ _).alloc (Nat.le_refl _) _
 have hsz : ∀ cs:Array Value,cs.size=32→(Tryz.prog.info? 53).map (·.size)=some cs.size:=fun cs h=>by rw [h];exact sz32
 have hde:=Lib.hid (zED t (by omega) W0)
 have hzo:=zeroObj
 have hz72:=zAF
 have hplw:=h.lt
 have hD:=Lib.hid h
 have hn0:(List.replicate 32 (0:UInt8))=noId:=rfl
 cases hd:decO t with
 | none=>
   have hpi:putI t=noId:=by unfold putI;rw [hd];exact hn0
   have hpc:putC t=2:=by unfold putC;rw [hd]
   have hps:putS s t=s:=by unfold putS;rw [hd]
   rw [hpi,hpc,hps]
   rw [hd] at hde
   have hde:Hid (Calls Tryz.prog 52 #[.string (B t)] W0 fun e w'=>e = .returned (.tuple #[.agg zObj, .int .i64 2])∧Below W0.heap.size W0 w'):=hde
   have hzone:zObj.all (·.oneCell')=true:=zAv zeroO none none 0 0 0 0
   generalize u8s noId=Z at *
   generalize zObj=ZO at *
   clear hd hpi hpc hps hn0
   go_enter Tryz.func28,Tryz.ntmps28
   go_wp2_with (first
    | ((with_reducible refine hde.out.mono ?_);rintro e w1 ⟨rfl,bb1⟩
       have b1:=bthen b0 b0.size bb1
       have z1:=z0.below bb1 z0.lt)
    | ((with_reducible refine lit_new 68 (.tmp 6) (.tmp 17) ZO 72 szObj hz72 hzone _ ?_ ?_ ?_ ?_)
       ·first | exact hz72 | rfl
       ·rfl
       ·rfl
       intro W2 hb2 hbl2
       have b2:=bthen b1 b1.size hbl2
       have z2:=z1.below hbl2 z1.lt)
    | (refine wpList_store_row rfl 53 (.tmp 4) (.tmp 21) rfl w.heap.size Z rfl rfl _ _ z2 (hsz Z hZ32) rfl hZone ?_))
   refine bodyPost_ret (zAg rfl _ _ w.heap.size _ _ _ _ rfl (setRow_heap _ _ _ _ _ _ z2) Tryz.underlying53 rfl (hsz Z hZ32)) rfl ⟨rfl,?_⟩
   have hb:=zAa b2 (Nat.le_refl _) Z
   exact ⟨vl,hD.out.below hb,Far.of_below hb,Newer.refl _ _⟩
 | some o=>
   have hpi:putI t=shaOf t:=by unfold putI;rw [hd]
   have hpc:putC t=0:=by unfold putC;rw [hd]
   have hps:putS s t=if hasK StL.id s (shaOf t) then s else insK StL.id s ⟨shaOf t,t⟩:=by unfold putS;rw [hd]
   have hokP:=h.ok.put t hf
   rw [hpi,hpc]
   rw [hps] at hokP ⊢
   rw [hd] at hde
   have hde:Hid (Calls Tryz.prog 52 #[.string (B t)] W0 fun e w'=>(∃ A1 A2 k1 k2,e = .returned (.tuple #[.agg (objC o (.slice A1 o.ents.length k1) (.slice A2 o.pars.length k2)).toArray, .int .i64 0])∧ObjV w' (.slice A1 o.ents.length k1) (.slice A2 o.pars.length k2) o)∧Below W0.heap.size W0 w'):=Lib.hid (hde.out.mono fun e w' ⟨⟨A1,A2,k1,k2,h1,h2,_⟩,hb⟩=>⟨⟨A1,A2,k1,k2,h1,h2⟩,hb⟩)
   have hid:=fun W (hb:Below w.heap.size w W)=>objId_calls t (by omega) W (hK.below hb)
   have hn32:=zBd t
   have hxok:StitOk ⟨shaOf t,t⟩:=⟨hn32,by show t.length≤_;omega⟩
   obtain ⟨n,hn⟩ : ∃ n,shaOf t=n:=⟨_,rfl⟩
   rw [hn] at hid hn32 hxok hokP ⊢
   have hN32:(u8s n).size=32:=by rw [zAh,hn32]
   have hNone:=u8s_one n
   have hsI:(Tryz.prog.info? 53).map (·.size)=some (u8s n).toList.length:=by rw [zAO,hn32];exact sz32
   have hldn : ∀ W g,Blk W g 53 (u8s n)→(ldvI ⟨g,0,none⟩).run Tryz.prog W = .ok (.agg (u8s n)) W:=fun W g hb=>by
    have:=run_loadVar_mid (P:=Tryz.prog) W g 0 53 (u8s n).toList _ (zAk hb) Tryz.underlying53 rfl hsI
    rwa [Array.toArray_toList] at this
   have hpl:=fun W (hb:Below w.heap.size w W)=>zDl (hD.out.below hb) n hn32
   have hPle:posK StL.id s n≤s.length:=posK_le
   have hZ32':(u8s noId).size=(u8s n).size:=by rw [hZ32,hN32]
   clear hd hpi hpc hps hn0 hn
   cases hh:hasK StL.id s n with
   | true=>
     rw [hh] at hpl hokP
     simp only [if_true] at hokP ⊢
     generalize posK StL.id s n=P at *
     go_enter Tryz.func28,Tryz.ntmps28
     go_wp2_with (first
      | ((with_reducible refine hde.out.mono ?_);rintro e w1 ⟨⟨A1,A2,k1,k2,rfl,hv1⟩,bb1⟩
         have b1:=bthen b0 b0.size bb1
         have z1:=z0.below bb1 z0.lt
         have hc72:(objC o (.slice A1 o.ents.length k1) (.slice A2 o.pars.length k2)).toArray.size=72:=by rw [List.size_toArray,zAy hv1.ok]
         have hcone:=zAv o A1 A2 o.ents.length k1 o.pars.length k2)
      | ((with_reducible refine lit_new 68 (.tmp 6) (.tmp 17) (objC o (.slice A1 o.ents.length k1) (.slice A2 o.pars.length k2)).toArray 72 szObj hc72 hcone _ ?_ ?_ ?_ ?_)
         ·first | exact hz72 | rfl
         ·rfl
         ·rfl
         intro W2 hb2 hbl2
         have b2:=bthen b1 b1.size hbl2
         have z2:=z1.below hbl2 z1.lt)
      | ((with_reducible refine (hid _ b2).mono ?_);rintro e w3 ⟨rfl,bb3⟩
         have b3:=bthen b2 b2.size bb3
         have z3:=z2.below bb3 z2.lt)
      | ((with_reducible refine lit_new 53 (.tmp 8) (.tmp 23) (u8s n) 32 sz32 hN32 hNone _ ?_ ?_ ?_ ?_)
         ·first | exact hZ32 | rfl
         ·rfl
         ·rfl
         intro W4 hb4 hbl4
         have b4:=bthen b3 b3.size hbl4
         have z4:=z3.below hbl4 z3.lt
         have ld4:=hldn _ _ hb4)
      | ((with_reducible refine (hpl _ b4).mono ?_);rintro e w5 ⟨rfl,bb5⟩
         have b5:=bthen b4 b4.size bb5
         have z5:=z4.below bb5 z4.lt
         have ld5:=hldn _ _ (hb4.below bb5 hb4.lt))
      | (refine wpList_store_row rfl 53 (.tmp 4) (.tmp 45) rfl w.heap.size (u8s n) rfl rfl _ _ z5 (hsz _ hN32) hZ32' hNone ?_))
     refine bodyPost_ret (zAg rfl _ _ w.heap.size _ _ _ _ rfl (setRow_heap _ _ _ _ _ _ z5) Tryz.underlying53 rfl (hsz _ hN32)) rfl ⟨rfl,?_⟩
     have hb:=zAa b5 (Nat.le_refl _) (u8s n)
     exact ⟨vl,hD.out.below hb,Far.of_below hb,Newer.refl _ _⟩
   | false=>
     rw [hh] at hpl hokP
     simp only [Bool.false_eq_true,if_false] at hokP ⊢
     unfold insK at hokP ⊢
     simp only at hokP ⊢
     generalize posK StL.id s n=P at *
     obtain ⟨s',hs'⟩ : ∃ s',s.take P++[(⟨n,t⟩:StL)]++s.drop P=s':=⟨_,rfl⟩
     rw [hs'] at hokP ⊢
     have HS:=Lib.hid hs'
     clear hs'
     go_enter Tryz.func28,Tryz.ntmps28
     go_upto_region 9 with (first
      | ((with_reducible refine hde.out.mono ?_);rintro e w1 ⟨⟨A1,A2,k1,k2,rfl,hv1⟩,bb1⟩
         have b1:=bthen b0 b0.size bb1
         have z1:=z0.below bb1 z0.lt
         have hc72:(objC o (.slice A1 o.ents.length k1) (.slice A2 o.pars.length k2)).toArray.size=72:=by rw [List.size_toArray,zAy hv1.ok]
         have hcone:=zAv o A1 A2 o.ents.length k1 o.pars.length k2)
      | ((with_reducible refine lit_new 68 (.tmp 6) (.tmp 17) (objC o (.slice A1 o.ents.length k1) (.slice A2 o.pars.length k2)).toArray 72 szObj hc72 hcone _ ?_ ?_ ?_ ?_)
         ·first | exact hz72 | rfl
         ·rfl
         ·rfl
         intro W2 hb2 hbl2
         have b2:=bthen b1 b1.size hbl2
         have z2:=z1.below hbl2 z1.lt)
      | ((with_reducible refine (hid _ b2).mono ?_);rintro e w3 ⟨rfl,bb3⟩
         have b3:=bthen b2 b2.size bb3
         have z3:=z2.below bb3 z2.lt)
      | ((with_reducible refine lit_new 53 (.tmp 8) (.tmp 23) (u8s n) 32 sz32 hN32 hNone _ ?_ ?_ ?_ ?_)
         ·first | exact hZ32 | rfl
         ·rfl
         ·rfl
         intro W4 hb4 hbl4
         have b4:=bthen b3 b3.size hbl4
         have z4:=z3.below hbl4 z3.lt
         have hgI:w.heap.size≤w3.heap.size:=b3.size
         have ld4:=hldn _ _ hb4)
      | ((with_reducible refine (hpl _ b4).mono ?_);rintro e w0 ⟨rfl,bb5⟩
         have b5:=bthen b4 b4.size bb5
         have z5:=z4.below bb5 z4.lt
         have hI5:=hb4.below bb5 hb4.lt))
     have hgI0:=z3.lt
     obtain ⟨gI,hgIe⟩ : ∃ gI,w3.heap.size=gI:=⟨_,rfl⟩
     rw [hgIe] at hI5 hgI0 ⊢
     have hD0:=hD.out.below b5
     have hplw2:p<w.heap.size:=hplw
     have hlv0 : ∀ q,vl.ownBlock=some q→q<w.heap.size:=fun q hq=>(World.ownsRow.lt hD.out.own q hq).2
     have hok:=hD.out.ok
     have hB:base≤w0.heap.size:=Nat.le_trans hB b5.size
     replace hD:=Lib.hid hD0
     have hlv : ∀ q,vl.ownBlock=some q→q<w0.heap.size:=fun q hq=>(World.ownsRow.lt hD.out.own q hq).2
     have hPl:=hPle
     have ldn:=fun W (hW:Below w0.heap.size w0 W)=>hldn W gI (hI5.below hW hI5.lt)
     clear hde hid hpl b0 b1 b2 b3 b4 z0 z1 z2 z3 z4 ld4 bb1 bb3 bb5 hv1 hc72 hcone hb2 hbl2 hb4 hbl4 hW0 hD0 hgIe hplw hPle hh hK
     obtain ⟨V,hV⟩ : ∃ V:Nat→Value,V=fun i=>[(.pointer (some ⟨p,0,none⟩)),(.pointer (some ⟨p,0,none⟩)),(.pointer (some ⟨p,0,none⟩)),(.pointer (some ⟨p,0,none⟩)),vl,(.int .i64 P),(.agg (u8s n)),(.string (B t)),(.agg (stitC ⟨n,t⟩).toArray),undef,undef,(.pointer (some ⟨p,0,none⟩)),(.pointer (some ⟨p,0,none⟩)),undef].getD i undef:=⟨_,rfl⟩
     have v0:V 0=(.pointer (some ⟨p,0,none⟩)):=by rw [hV];rfl
     have v1:V 1=(.pointer (some ⟨p,0,none⟩)):=by rw [hV];rfl
     have v2:V 2=(.pointer (some ⟨p,0,none⟩)):=by rw [hV];rfl
     have v3:V 3=(.pointer (some ⟨p,0,none⟩)):=by rw [hV];rfl
     have v4:V 4=vl:=by rw [hV];rfl
     have v5:V 5=(.int .i64 P):=by rw [hV];rfl
     have v6:V 6=(.agg (u8s n)):=by rw [hV];rfl
     have v7:V 7=(.string (B t)):=by rw [hV];rfl
     have v8:V 8=(.agg (stitC ⟨n,t⟩).toArray):=by rw [hV];rfl
     have v11:V 11=(.pointer (some ⟨p,0,none⟩)):=by rw [hV];rfl
     have v12:V 12=(.pointer (some ⟨p,0,none⟩)):=by rw [hV];rfl
     have v13:V 13=undef:=by rw [hV];rfl
     clear hV
     refine zAR (C:=StPutC w0 base p vl s') (R:=StPutR V w0 base vl ⟨n,t⟩ s') (by kernel_rfl) (by kernel_rfl) (by kernel_rfl) ?_ (StPutC.start w0).drew ?_ ?_
     ·exact zAV (n:=46) (by kernel_rfl)
     ·intro i o listed a w1 ho hi hL
      have hin:=(zAt hi).1
      have hsz:listed.size=14:=hL.size
      match i,ho with
      | 0,ho=>
        obtain rfl:=(Option.some.inj ho).symm
        have e0:a.tmps[0]?.getD undef=(.pointer (some ⟨p,0,none⟩)):=(zAf a 0).trans (hL.get_old hi (by kernel_rfl))
        have hc:=hL.cls
        refine step_wp rfl rfl ?_
        clear ho hL
        refine wp_val (v:=(.pointer (some ⟨p,0,none⟩))) ?_ ⟨_,rfl,StPutR.mk (by decide) v0.symm,hc.same (by rw [hsz];decide) (by decide),fun _ _ _ h=>h⟩
        clear hi hin hsz v0 v1 v2 v3 v4 v5 v6 v7 v8 v11 v12 v13  hc
        unfold execOp
        go_simp
      | 1,ho=>
        obtain rfl:=(Option.some.inj ho).symm
        have e0:a.tmps[0]?.getD undef=(.pointer (some ⟨p,0,none⟩)):=(zAf a 0).trans (hL.get_old hi (by kernel_rfl))
        have hc:=hL.cls
        refine step_wp rfl rfl ?_
        clear ho hL
        refine wp_val (v:=(.pointer (some ⟨p,0,none⟩))) ?_ ⟨_,rfl,StPutR.mk (by decide) v1.symm,hc.same (by rw [hsz];decide) (by decide),fun _ _ _ h=>h⟩
        clear hi hin hsz v0 v1 v2 v3 v4 v5 v6 v7 v8 v11 v12 v13  hc
        unfold execOp
        go_simp
      | 2,ho=>
        obtain rfl:=(Option.some.inj ho).symm
        have e0:a.tmps[33]?.getD undef=(.pointer (some ⟨p,0,none⟩)):=(zAf a 33).trans ((StPutR.at_ (hi:=by decide) (hL.get_new (j:=1) hi (by kernel_rfl))).trans v1)
        have hc:=hL.cls
        refine step_wp rfl rfl ?_
        clear ho hL
        refine wp_val (v:=(.pointer (some ⟨p,0,none⟩))) ?_ ⟨_,rfl,StPutR.mk (by decide) v2.symm,hc.same (by rw [hsz];decide) (by decide),fun _ _ _ h=>h⟩
        clear hi hin hsz v0 v1 v2 v3 v4 v5 v6 v7 v8 v11 v12 v13  hc
        unfold execOp
        go_simp
      | 3,ho=>
        obtain rfl:=(Option.some.inj ho).symm
        have e0:a.tmps[34]?.getD undef=(.pointer (some ⟨p,0,none⟩)):=(zAf a 34).trans ((StPutR.at_ (hi:=by decide) (hL.get_new (j:=2) hi (by kernel_rfl))).trans v2)
        have hc:=hL.cls
        refine step_wp rfl rfl ?_
        clear ho hL
        refine wp_val (v:=(.pointer (some ⟨p,0,none⟩))) ?_ ⟨_,rfl,StPutR.mk (by decide) v3.symm,hc.same (by rw [hsz];decide) (by decide),fun _ _ _ h=>h⟩
        clear hi hin hsz v0 v1 v2 v3 v4 v5 v6 v7 v8 v11 v12 v13  hc
        unfold execOp
        go_simp
      | 4,ho=>
        obtain rfl:=(Option.some.inj ho).symm
        have e0:a.tmps[35]?.getD undef=(.pointer (some ⟨p,0,none⟩)):=(zAf a 35).trans ((StPutR.at_ (hi:=by decide) (hL.get_new (j:=3) hi (by kernel_rfl))).trans v3)
        have hc:=hL.cls
        refine step_wp rfl rfl ?_
        have hL4:=hL.later (j:=10) hi (by kernel_rfl)
        clear ho hL
        refine wp_val (v:=vl) ?_ ⟨_,rfl,StPutR.mk (by decide) v4.symm,hc.same (by rw [hsz];decide) (by decide),fun _ _ _ h=>h⟩
        have hb0:=hc.a_ (hL4)
        have q:=(hD.out.below hb0).c0
        clear hi hin hsz v0 v1 v2 v3 v4 v5 v6 v7 v8 v11 v12 v13  hc
        unfold execOp
        go_simp
      | 5,ho=>
        obtain rfl:=(Option.some.inj ho).symm
        have e0:a.tmps[9]?.getD undef=(.int .i64 P):=(zAf a 9).trans (hL.get_old hi (by kernel_rfl))
        have hc:=hL.cls
        refine step_wp rfl rfl ?_
        clear ho hL
        refine wp_val (v:=(.int .i64 P)) ?_ ⟨_,rfl,StPutR.mk (by decide) v5.symm,hc.same (by rw [hsz];decide) (by decide),fun _ _ _ h=>h⟩
        clear hi hin hsz v0 v1 v2 v3 v4 v5 v6 v7 v8 v11 v12 v13  hc
        unfold execOp
        go_simp
      | 6,ho=>
        obtain rfl:=(Option.some.inj ho).symm
        have e0:a.tmps[8]?.getD undef=(.pointer (some ⟨gI,0,none⟩)):=(zAf a 8).trans (hL.get_old hi (by kernel_rfl))
        have hc:=hL.cls
        refine step_wp rfl rfl ?_
        have hL8:=hL.later (j:=8) hi (by kernel_rfl)
        have hL9:listed.getD 9 false=false:=hL.later2 hL8 (by kernel_rfl)
        have hL6:listed.getD 10 false=false:=hL.later2 hL9 (by kernel_rfl)
        clear ho hL
        refine wp_val (v:=(.agg (u8s n))) ?_ ⟨_,rfl,StPutR.mk (by decide) v6.symm,hc.same (by rw [hsz];decide) (by decide),fun _ _ _ h=>h⟩
        have hb0:=hc.a_ (hL6)
        have q:=ldn w1 hb0
        clear hi hin hsz v0 v1 v2 v3 v4 v5 v6 v7 v8 v11 v12 v13  hc
        unfold execOp
        go_simp
      | 7,ho=>
        obtain rfl:=(Option.some.inj ho).symm
        have e0:a.tmps[1]?.getD undef=(.string (B t)):=(zAf a 1).trans (hL.get_old hi (by kernel_rfl))
        have hc:=hL.cls
        refine step_wp rfl rfl ?_
        clear ho hL
        refine wp_val (v:=(.string (B t))) ?_ ⟨_,rfl,StPutR.mk (by decide) v7.symm,hc.same (by rw [hsz];decide) (by decide),fun _ _ _ h=>h⟩
        clear hi hin hsz v0 v1 v2 v3 v4 v5 v6 v7 v8 v11 v12 v13  hc
        unfold execOp
        go_simp
      | 8,ho=>
        obtain rfl:=(Option.some.inj ho).symm
        have e0:a.tmps[38]?.getD undef=(.agg (u8s n)):=(zAf a 38).trans ((StPutR.at_ (hi:=by decide) (hL.get_new (j:=6) hi (by kernel_rfl))).trans v6)
        have e1:a.tmps[39]?.getD undef=(.string (B t)):=(zAf a 39).trans ((StPutR.at_ (hi:=by decide) (hL.get_new (j:=7) hi (by kernel_rfl))).trans v7)
        have hc:=hL.cls
        refine step_wp rfl rfl ?_
        clear ho hL
        refine build_step rfl (built_stit ⟨n,t⟩ hxok.1) (parts2 (slot_is e0) (slot_is e1)) ⟨_,rfl,StPutR.mk (by decide) v8.symm,hc.same (by rw [hsz];decide) (by decide),fun _ _ _ h=>h⟩
      | 9,ho=>
        obtain rfl:=(Option.some.inj ho).symm
        have e0:a.tmps[40]?.getD undef=(.agg (stitC ⟨n,t⟩).toArray):=(zAf a 40).trans ((StPutR.at_ (hi:=by decide) (hL.get_new (j:=8) hi (by kernel_rfl))).trans v8)
        have hc:=hL.cls
        have hla:=hL.later (j:=10) hi (by kernel_rfl)
        have hb0:=hc.a_ hla
        clear ho hL
        refine step_wp rfl rfl ?_
        refine zCy rfl Tryz.stitTy (by decide) (zBe hxok) (.inl (slot_is e0)) ⟨_,rfl,StPutR.lit (Blk.new _ _ _) hb0.size,?_,fun j u _ h=>StPutR.far (S:=[]) h (Far.of_below ((Below.refl _ _).alloc (Nat.le_refl _) _)) (fun _ _ _=>by simp) (fun _ _ _=>by simp)⟩
        refine StPutC.same ⟨fun _=>hb0.alloc hb0.size _,fun e=>?_,fun e=>?_,?_⟩ (by rw [hsz];decide) (by decide)
        ·rw [hla] at e;cases e
        ·obtain ⟨v',h1,h2,h3,h4⟩:=hc.c_ e
         exact ⟨v',h1.alloc _,World.ownsRow.alloc h2 _,h3,h4.alloc _⟩
        ·exact Nat.le_trans hc.sz (by simp)
      | 10,ho=>
        obtain rfl:=(Option.some.inj ho).symm
        have e0:a.tmps[36]?.getD undef=vl:=(zAf a 36).trans ((StPutR.at_ (hi:=by decide) (hL.get_new (j:=4) hi (by kernel_rfl))).trans v4)
        have e1:a.tmps[37]?.getD undef=(.int .i64 P):=(zAf a 37).trans ((StPutR.at_ (hi:=by decide) (hL.get_new (j:=5) hi (by kernel_rfl))).trans v5)
        have e2:=hL.get_new (j:=9) (t:=41) hi (by kernel_rfl)
        have hc:=hL.cls
        have hla:listed.getD 10 false=false:=by rw [zAw (by rw [hsz];exact hin)];exact (zAt hi).2.1
        have hlb:=hL.later (j:=13) hi (by kernel_rfl)
        have hb0:=hc.a_ hla
        obtain ⟨b,h5,hb5,hge5⟩:=StPutR.litAt e2
        clear ho hL
        refine step_wp rfl rfl ?_
        have hins:=zEa s hok.ok (by have:=hok.few;omega) vl w1 base P b ⟨n,t⟩ hxok (Nat.le_trans hB hc.sz) (zAd hD.out.own hb0) hPl hb5 (fun e=>by have:=hlv _ e;omega)
        refine zDz rfl (vals := #[vl, .int .i64 P, .slice (some ⟨b,0,none⟩) 1 1]) (map3 (slot_is e0) (slot_is e1) h5) (by go_simp) hins ?_
        rintro e w2 ⟨v',rfl,hown2,hg2,hnw2⟩
        rw [HS.out] at hown2
        have hf2:Far [vl.ownBlock] w1 w2:=Far.of_grown hg2
        refine ⟨_,rfl,_,rfl,StPutR.ins hown2 ((Newer.refl w0 vl).then_ hnw2 hc.sz),?_,fun j u hj h=>StPutR.far h hf2 (fun q hq _ hm=>?_) (fun hj10 k hk hm=>?_)⟩
        ·refine ⟨fun e=>?_,fun _ _=>(Far.of_below hb0).then_ hf2 (fun k hk => .inl hk),fun e=>?_,Nat.le_trans hc.sz hf2.size⟩
         ·rw [zAY (by rw [hsz];decide),if_pos rfl] at e;cases e
         ·rw [zAY (by rw [hsz];decide),if_neg (by decide),hlb] at e;cases e
        ·simp only [List.mem_singleton] at hm
         have:=hlv q hm.symm
         omega
        ·subst hj10
         rw [hla] at hj;cases hj
      | 11,ho=>
        obtain rfl:=(Option.some.inj ho).symm
        have e0:a.tmps[32]?.getD undef=(.pointer (some ⟨p,0,none⟩)):=(zAf a 32).trans ((StPutR.at_ (hi:=by decide) (hL.get_new (j:=0) hi (by kernel_rfl))).trans v0)
        have hc:=hL.cls
        refine step_wp rfl rfl ?_
        clear ho hL
        refine wp_val (v:=(.pointer (some ⟨p,0,none⟩))) ?_ ⟨_,rfl,StPutR.mk (by decide) v11.symm,hc.same (by rw [hsz];decide) (by decide),fun _ _ _ h=>h⟩
        clear hi hin hsz v0 v1 v2 v3 v4 v5 v6 v7 v8 v11 v12 v13  hc
        unfold execOp
        go_simp
      | 12,ho=>
        obtain rfl:=(Option.some.inj ho).symm
        have e0:a.tmps[43]?.getD undef=(.pointer (some ⟨p,0,none⟩)):=(zAf a 43).trans ((StPutR.at_ (hi:=by decide) (hL.get_new (j:=11) hi (by kernel_rfl))).trans v11)
        have hc:=hL.cls
        refine step_wp rfl rfl ?_
        clear ho hL
        refine wp_val (v:=(.pointer (some ⟨p,0,none⟩))) ?_ ⟨_,rfl,StPutR.mk (by decide) v12.symm,hc.same (by rw [hsz];decide) (by decide),fun _ _ _ h=>h⟩
        clear hi hin hsz v0 v1 v2 v3 v4 v5 v6 v7 v8 v11 v12 v13  hc
        unfold execOp
        go_simp
      | 13,ho=>
        obtain rfl:=(Option.some.inj ho).symm
        have e0:a.tmps[44]?.getD undef=(.pointer (some ⟨p,0,none⟩)):=(zAf a 44).trans ((StPutR.at_ (hi:=by decide) (hL.get_new (j:=12) hi (by kernel_rfl))).trans v12)
        have e1:=hL.get_new (j:=10) (t:=42) hi (by kernel_rfl)
        have hc:=hL.cls
        have hla:listed.getD 10 false=true:=hL.before hi (by kernel_rfl)
        have hls:listed.getD 13 false=false:=(zAw (by rw [hsz];exact hin)).trans (zAt hi).2.1
        have hf0:=hc.b_ hla hls
        obtain ⟨hown2,hnw2⟩:=StPutR.insAt e1
        have hp1:Blk w1 p 104 #[vl]:=hf0.blk hD.out.blk (fun hm=>by simp only [List.mem_singleton] at hm;exact hD.out.ne hm.symm)
        have hvp : ∀ k,(a.eval (.tmp 42)).ownBlock=some k→some k ∉ [some p]:=fun k hk hm=>by
         simp only [List.mem_singleton] at hm
         injection hm with hm
         subst hm
         exact hnw2.ne hD.out.lt hD.out.ne hk
        obtain ⟨A2,c2,hform⟩:=zAl hown2
        have e2:a.tmps[42]?.getD undef = .slice A2 s'.length c2:=(zAf a 42).trans hform
        have c0:w1.cell? ⟨p,0,none⟩=some vl:=by rw [hp1.cell];rfl
        have f0:=hp1.frozen 0
        rw [hform] at hown2 hnw2 hvp
        have hf1:Far [some p] w1 (w1.setCell ⟨p,0,none⟩ (.slice A2 s'.length c2)):=(Far.refl _ _).set_ (p:=⟨p,0,none⟩) (.inl (by simp)) _
        have hown3:=hf1.own hown2 hvp
        have hH : ∀ u:Value,StPutC w0 base p vl s' (listed.setIfInBounds 13 true) (w1.setCell ⟨p,0,none⟩ (.slice A2 s'.length c2)):=fun _=>by
         refine ⟨fun e=>?_,fun _ e=>?_,fun _=>⟨_,hp1.set_ 0 _,hown3,hnw2,(hf0.mono (T:=[some p,vl.ownBlock]) fun k hk=>List.mem_cons_of_mem _ hk).then_ (T:=[some p]) hf1 (fun k hk => .inl (by simp only [List.mem_singleton] at hk;rw [hk];simp))⟩,Nat.le_trans hc.sz hf1.size⟩
         ·rw [zAY (by rw [hsz];decide),if_neg (by decide),hla] at e;cases e
         ·rw [zAY (by rw [hsz];decide),if_pos rfl] at e;cases e
        have hK : ∀ j u,listed.getD j false=true→StPutR V w0 base vl ⟨n,t⟩ s' j u w1→StPutR V w0 base vl ⟨n,t⟩ s' j u (w1.setCell ⟨p,0,none⟩ (.slice A2 s'.length c2)):=fun j u _ hju=>StPutR.far hju hf1 (fun q hq _ hm=>by
         simp only [List.mem_singleton] at hm
         injection hm with hm
         have:=hD.out.lt
         omega) (fun hj k hk hm=>by
         rw [hj] at hju
         simp only [List.mem_singleton] at hm
         injection hm with hm
         rw [hm] at hk
         exact (StPutR.insAt hju).2.ne hD.out.lt hD.out.ne hk)
        refine step_wp rfl rfl ?_
        clear hi ho hL hin hc hown2 hnw2 hown3 hvp e1 hform
        refine wp_skip (w':=w1.setCell ⟨p,0,none⟩ (.slice A2 s'.length c2)) ?_ ⟨_,rfl,StPutR.mk (by decide) v13.symm,hH undef,hK⟩
        clear hH hK v0 v1 v2 v3 v4 v5 v6 v7 v8 v11 v12 v13
        unfold execOp
        go_simp
      | (n+14),ho=>exact absurd hin (by simp)
     ·intro a w1 listed hL hall
      have hc:=hL.cls
      obtain ⟨vs,rfl,hR⟩:=hL.frame (by kernel_rfl) (zAV (n:=46) (by kernel_rfl)) hall
      simp only [putAll,Act.put,List.setIfInBounds_toArray,List.set_cons_zero,List.set_cons_succ]
      simp only [Nat.zero_add,Nat.reduceAdd]
      obtain ⟨v',hp9,hown9,hnw9,hfar9⟩:=hc.c_ (hall 13 (by decide))
      clear hR hc hL
      have hgIn:some gI ∉ [some p,vl.ownBlock]:=fun hm=>by
       rcases List.mem_cons.1 hm with h1 | h1
       ·injection h1 with h1
        omega
       ·have h2:=hlv0 gI (List.mem_singleton.1 h1).symm
        omega
      have hgZn:some w.heap.size ∉ [some p,vl.ownBlock]:=fun hm=>by
       rcases List.mem_cons.1 hm with h1 | h1
       ·injection h1 with h1
        omega
       ·have h2:=hlv0 w.heap.size (List.mem_singleton.1 h1).symm
        omega
      have ld9:=hldn w1 gI (hfar9.blk hI5 hgIn)
      have z9:=hfar9.blk z5 hgZn
      go_wp2_with (first
       | (refine wpList_store_row rfl 53 (.tmp 4) (.tmp 45) rfl w.heap.size (u8s n) rfl rfl _ _ z9 (hsz _ hN32) hZ32' hNone ?_))
      refine bodyPost_ret (zAg rfl _ _ w.heap.size _ _ _ _ rfl (setRow_heap _ _ _ _ _ _ z9) Tryz.underlying53 rfl (hsz _ hN32)) rfl ⟨rfl,?_⟩
      have hf10:Far [some w.heap.size] w1 (w1.setRow w.heap.size (u8s n)):=⟨rfl,rfl,rfl,by simp,fun k _ hk=>setRow_other _ _ _ _ (fun e=>hk (by rw [e];simp))⟩
      have hne1:some p ∉ [some w.heap.size]:=fun hm=>by
       have:=List.mem_singleton.1 hm
       injection this with this
       omega
      have hne2 : ∀ k,v'.ownBlock=some k→some k ∉ [some w.heap.size]:=fun k hk hm=>by
       have h1:=List.mem_singleton.1 hm
       injection h1 with h1
       subst h1
       rcases hnw9 with h2 | h2
       ·have:=hlv0 _ (h2.symm.trans hk)
        omega
       ·have:=h2 _ hk
        have:=z5.lt
        omega
      refine ⟨v',⟨hf10.blk hp9 hne1,hf10.own hown9 hne2,hokP⟩,?_,?_⟩
      ·exact ((Far.of_below b5).then_ hfar9 (fun k hk => .inl hk)).then_ hf10 (fun k hk => .inr (by
        have:=List.mem_singleton.1 hk
        injection this with this
        omega))
      ·rcases hnw9 with h2 | h2
       ·exact .inl h2
       ·exact .inr fun k hk=>Nat.le_trans b5.size (h2 k hk)
end
section
attribute [local go_sem ↓] ldvI_eq ldvS_eq
end
section
attribute [local go_sem ↓] ldvI_eq ldvS_eq
def OfR (w:World) (L:List StL) (e:Ending) (w':World):Prop := ∃ p vl,e = .returned (.pointer (some ⟨p,0,none⟩))∧w.heap.size≤p∧StoAt w' w.heap.size p vl L
set_option maxRecDepth 100000 in
set_option maxHeartbeats 8000000 in
theorem of_calls11 {w:World} {vm:Value} {es:List DiL} (hm:DocSt w vm es) (hf:es.length<490000) (hK:TabK w) :
 Calls Tryz.prog 7 #[.agg #[vm]] w fun e w'=>OfR w (es.map (·.st)) e w'∧Below w.heap.size w w':=by
 obtain ⟨W1,hW1⟩ : ∃ W1,w.alloc (.cells #[vm] 29)=W1:=⟨_,rfl⟩
 have s1:Blk W1 w.heap.size 29 #[vm]:=by rw [←hW1];exact Blk.new _ _ _
 have b1:Below w.heap.size w W1:=by rw [←hW1];exact (Below.refl _ _).alloc (Nat.le_refl _) _
 have hlt0:=s1.lt
 have hnw:=Lib.hid (zEC W1)
 have hzI:=zeroIdV
 have hZ32:(u8s noId).size=32:=by rw [zAh,zAi]
 have hok:=hm.ok
 have heach:=hm.each
 have hmat:=hm.at_
 obtain ⟨L,hL⟩ : ∃ L,es.map (·.st)=L:=⟨_,rfl⟩
 have hLl:L.length=es.length:=by rw [←hL,List.length_map]
 rw [hL] at hok
 have hLk : ∀ (k:Nat) (x:DiL),es[k]?=some x→L[k]?=some x.st:=fun k x hx=>by rw [←hL,List.getElem?_map,hx];rfl
 rw [hL]
 have hLl:=Lib.hid hLl
 have hLk:=Lib.hid hLk
 obtain ⟨A,cap,rfl,hcap1,hcap2,hat⟩:=hmat
 clear hL
 go_enter Tryz.func7,Tryz.ntmps7
 go_wp2_with (first
  | ((with_reducible refine hnw.out.mono ?_);rintro e w2 ⟨rfl,s2,b12⟩))
 have hpl:W1.heap.size<w2.heap.size:=s2.lt
 go_loopw [4] (fun vi wr => ∃ (k:Nat) (vl:Value),vi = .int .i64 k∧k≤es.length∧StoAt wr W1.heap.size W1.heap.size vl (L.take k)∧Below W1.heap.size W1 wr) (fun vi _=>es.length-(intOf vi).toNat)
 case atStart=>exact ⟨0,_,rfl,by omega,by rw [List.take_zero];exact s2,b12⟩
 case round=>
  obtain ⟨k,vl,rfl,hk,hS,hbel⟩:=hrel
  have hbr:=bthen b1 b1.size hbel
  have cr:wr.cell? ⟨w.heap.size,0,none⟩=some (.slice A es.length cap):=(s1.below hbel hlt0).cell 0
  by_cases hlt:k<es.length
  ·have hki:(k:Int)<(es.length:Int):=by omega
   obtain ⟨ga,oa,rfl,hga,hca⟩:=hat (by omega)
   obtain ⟨x,hx⟩ : ∃ x,es[k]?=some x:=⟨_,List.getElem?_eq_getElem hlt⟩
   have hxm:=List.mem_of_getElem? hx
   have hxo:=heach x hxm
   have hxi:=hxo.id
   have hLx:=hLk.out k x hx
   have hIs:=hok.each x.st (List.mem_of_getElem? hLx)
   have htx:=dit_text (zAc (hca k x hx) hga hbr) hxi
   have hKr:=hK.below hbr
   have htl:=(zEP hxo.dec).2
   have htk:(L.take k).length<500000:=by have:=hLl.out;rw [List.length_take];omega
   have hpt:=stoPut_calls hbel.size hS x.st.text (by omega) hKr htk
   rw [hIs.putI,hIs.putC,putS_rise hok hLx] at hpt
   have hpt:=Lib.hid hpt
   have hid32:(u8s x.st.id).size=32:=by rw [zAh,hxi]
   have hid1:=u8s_one x.st.id
   have heq:=fun W=>zEd W x.st.id x.st.id hxi hxi
   simp only [decide_true,Bool.not_true] at heq
   have hxr:=dit_id (hca k x hx)
   clear hx hat hca heach hLx hIs htk hLk hxo hxm
   go_upto_region 8 with (first
    | ((with_reducible refine hpt.out.mono ?_);rintro e w3 ⟨rfl,vl3,s3,f3,n3⟩
       have hS3 : ∀ k,some k∈[some W1.heap.size,vl.ownBlock]→W1.heap.size≤k:=fun k hk=>by
        simp only [List.mem_cons,List.not_mem_nil,or_false] at hk
        rcases hk with hk | hk
        ·injection hk with hk;omega
        ·exact (World.ownsRow.lt hS.own k hk.symm).1
       have b3:Below W1.heap.size W1 w3:=hbel.trans (f3.below hbel.size hS3))
    | ((with_reducible refine lit_new 53 (.tmp 5) (.tmp 26) (u8s x.st.id) 32 sz32 hid32 hid1 _ ?_ ?_ ?_ ?_)
       ·first | exact hZ32 | rfl
       ·rfl
       ·rfl
       intro W4 i4 hbl4
       have b4:=bthen b3 b3.size hbl4
       have s4:=s3.below hbl4))
   have fI:=fun W (hW:Below W4.heap.size W4 W)=>zAb (zAk (i4.below hW i4.lt)) hxi
   have fX:=fun W (hW:Below W4.heap.size W4 W)=>zAb (zAc hxr hga (bthen b1 b1.size (bthen b4 b4.size hW))) hxi
   have fC : ∀ W,Below W4.heap.size W4 W→W.cell? ⟨w.heap.size,0,none⟩=some (.slice (some ⟨ga,oa,none⟩) es.length cap):=fun W hW=>(s1.below (bthen b4 b4.size hW) hlt0).cell 0
   go_wp2
   refine zAr 12 (by kernel_rfl) (by kernel_rfl) (by kernel_rfl) (by kernel_rfl) ?_
   simp only [exSp]
   iterate 12 apply Exists.intro
   repeat
    first
     | ((with_reducible apply lx0_ex)
        ·(go_simp;done)
        apply Exists.intro
        apply And.intro
        ·apply Eq.refl
        apply And.intro
        ·intro W hW hD
         have q0:=fI W hW
         have q1:=fX W hW
         have q2:=fC W hW
         have q4:=heq W
         go_simp
         rfl
        simp only [Act.put,zA,zB,zC])
     | ((with_reducible apply zAJ)
        ·(first | rfl | (go_simp;done))
        ·apply Eq.refl
        simp only [Act.put,zA,zB,zC])
   refine lx0_nil ?_ fun w5 hW5 hD5=>?_
   ·exact List.nodup_nil
   have b5:=bthen b4 b4.size hW5
   have s5:=s4.below hW5
   go_wp2
   go_roundw
   case rel=>exact ⟨k+1,_,by go_num,by omega,s5,b5⟩
   case measure=>simp [intOf];omega
  ·have hki : ¬ (k:Int)<(es.length:Int):=by omega
   obtain rfl:k=es.length:=by omega
   rw [←hLl.out,List.take_length] at hS
   clear hat heach hLk
   go_wp2
   go_ret
   exact ⟨⟨_,vl,rfl,Nat.le_of_lt hlt0,hS.blk,own_down hS.own (Nat.le_of_lt hlt0),hS.ok⟩,hbr⟩
end
section
def ldvSid (p:Addr):Sem Value:=loadVar 25 p
theorem ldvSid_eq (p:Addr):loadVar 25 p=ldvSid p:=rfl
theorem run_ldvSid {w:World} {g:Nat} {a b c d e f h:Value} (hb:Blk w g 25 #[a,b,c,d,e,f,h]):(ldvSid ⟨g,0,none⟩).run Tryz.prog w = .ok (.agg #[a,b,c,d,e,f,h]) w:=run_loadVar_row w g _ _ _ _ _ hb Tryz.underlying25 rfl (by kernel_rfl)
attribute [local go_sem ↓] ldvI_eq ldvS_eq ldvSid_eq
set_option maxRecDepth 100000 in
set_option maxHeartbeats 16000000 in
theorem ackTells_calls (x:SideL) (vs v1 v2 v3 v4 v5 v6:Value) (odd:List Txt) (hodd : ∀ y∈odd,y.length=32) (vo:Value) (r:Int) (w:World) (hK:TabK w) (hx:SideOk w vs v1 v2 v3 v4 v5 x) (hvo:Ids w vo odd) :
 Calls Tryz.prog 3 #[.agg #[vs,v1,v2,v3,v4,v5,v6],vo, .int .i64 r] w fun e w'=>e = .returned (.bool true)∧Below w.heap.size w w':=by
 have hzM:=zeroMade
 obtain ⟨W1,hW1⟩ : ∃ W1,w.alloc (.cells #[vs,v1,v2,v3,v4,v5,v6] 25)=W1:=⟨_,rfl⟩
 have s1:Blk W1 w.heap.size 25 #[vs,v1,v2,v3,v4,v5,v6]:=by rw [←hW1];exact Blk.new _ _ _
 have b1:Below w.heap.size w W1:=by rw [←hW1];exact (Below.refl _ _).alloc (Nat.le_refl _) _
 have hld1:=run_ldvSid s1
 have hmk:=Lib.hid (make17_calls x vs v1 v2 v3 v4 v5 v6 W1 (hx.below b1))
 have hkn:=fun W=>Lib.hid (knows19_calls W)
 have hvw:=fun W (hW:Below w.heap.size w W)=>hvo.below hW
 obtain ⟨Ao,co,rfl,_⟩:=hvo
 have hzm:zMade.size=6:=rfl
 clear hx s1
 go_enter Tryz.func3,Tryz.ntmps3
 go_upto_region 2 with (first
  | ((with_reducible refine hmk.out.mono ?_);rintro e w2 ⟨⟨X,b,rfl,hX6,hX1,hb⟩,hb2⟩)
  | ((with_reducible refine lit_new 31 (.tmp 7) (.tmp 17) X 6 szMade hX6 hX1 _ ?_ ?_ ?_ ?_)
     ·first | exact hzm | rfl
     ·rfl
     ·rfl
     intro w3 hb3 hbl3))
 have b23:=bthen hb2 hb2.size hbl3
 have b3:=bthen b1 b1.size b23
 have hkn3:=hkn w3
 clear hmk hld1 hW1
 cases b with
 | false=>
   clear hb hkn
   go_wp2_with (first
    | ((with_reducible refine hkn3.out.mono ?_);rintro e w5 ⟨rfl,hb5⟩))
   go_ret
   exact ⟨rfl,bthen b3 b3.size hb5⟩
 | true=>
   by_cases ho10:10<odd.length
   ·have hoi:(10:Int)<(odd.length:Int):=by omega
    clear hb hkn
    go_wp2_with (first
     | ((with_reducible refine hkn3.out.mono ?_);rintro e w5 ⟨rfl,hb5⟩))
    go_ret
    exact ⟨rfl,bthen b3 b3.size hb5⟩
   ·have hoi : ¬ (10:Int)<(odd.length:Int):=by omega
    obtain ⟨vm1,es1,vm2,es2,vsh,vw,vc,va,rfl,⟨hD,hel⟩, -, -,⟨wl,hwI,hwok,hwl⟩,⟨cl,hcI,hcok,hcl⟩, -⟩:=hb rfl
    have hD3:=hD.below hbl3
    have hwI3:=hwI.below hbl3
    have hcI3:=hcI.below hbl3
    have lM3:=fun W (hW:Below w3.heap.size w3 W)=>run_ldvS_at (w:=W) (g:=w2.heap.size) (o:=0) (vm:=vm1) (fun j u hu=>by
     cases j with
     | zero=>
       have h0:some vm1=some u:=hu
       injection h0 with h0
       subst h0
       exact (hb3.below hW hb3.lt).cell 0
     | succ j=>simp at hu)
    have cw:=fun W (hW:Below w3.heap.size w3 W)=>(hb3.below hW hb3.lt).cell 3
    have cc_:=fun W (hW:Below w3.heap.size w3 W)=>(hb3.below hW hb3.lt).cell 4
    have lM33:=lM3 w3 (Below.refl _ _)
    have hof:=Lib.hid (of_calls11 hD3 (by omega) (hK.below b3))
    have hll:(es1.map (·.st)).length=es1.length:=List.length_map _
    have hoI:=fun W (hW:Below w3.heap.size w3 W)=>hvw W (bthen b3 b3.size hW)
    obtain ⟨S,hS⟩ : ∃ S,es1.map (·.st)=S:=⟨_,rfl⟩
    obtain ⟨Aw,cw_,rfl,_⟩:=id hwI3
    obtain ⟨Ac,cc2,rfl,_⟩:=id hcI3
    clear hb3 hD hwI hcI hkn3 hvw hX6 hX1 hK hb2 hbl3 b23
    go_upto_region 7 with (first
     | ((with_reducible refine hof.out.mono ?_);rintro e w4 ⟨⟨p,vl,rfl,hp4,hS4⟩,hb4⟩))
    rw [hS] at hS4
    have hSrc:=fun W (hW:Below w4.heap.size w4 W)=>SrcAt.of (idsK hcok) (hcI3.below (bthen hb4 hb4.size hW))
    have hSrcO:=fun W (hW:Below w4.heap.size w4 W)=>SrcAt.of (idsK hodd) (hoI W (bthen hb4 hb4.size hW))
    have cc4:=fun W (hW:Below w4.heap.size w4 W)=>cc_ W (bthen hb4 hb4.size hW)
    have hol:odd.length≤10:=by omega
    refine zAr 10 (by kernel_rfl) (by kernel_rfl) (by kernel_rfl) (by kernel_rfl) ?_
    simp only [exSp]
    iterate 10 apply Exists.intro
    repeat
     first
      | ((with_reducible apply lx0_ex)
         ·(go_simp;done)
         apply Exists.intro
         apply And.intro
         ·apply Eq.refl
         apply And.intro
         ·intro W hW hD
          have q0:=cc4 W hW
          go_simp
          rfl
         simp only [Act.put,zA,zB,zC])
      | ((with_reducible apply zAJ)
         ·(first | rfl | (go_simp;done))
         ·apply Eq.refl
         simp only [Act.put,zA,zB,zC])
      | (first | (with_reducible apply zBc) | (with_reducible apply zAK)
         ·apply Eq.refl
         apply Exists.intro
         apply And.intro
         ·(go_simp;rfl)
         simp only [Act.put,zA,zB,zC])
      | ((with_reducible apply zDD Tryz.idsTy)
         ·apply Eq.refl
         intro v
         simp only [Act.put,zA,zB,zC])
      | ((with_reducible apply lx_appC Tryz.idsTy 0 0 cl.length (fun xs=>xs=[]) (fun xs=>xs=rowsOf idC cl) (by omega) (by omega) zBa (by kernel_rfl) (by kernel_rfl) [] (fun q hq=>absurd hq (List.not_mem_nil)))
         ·apply Eq.refl
         apply Exists.intro
         apply Exists.intro
         apply And.intro
         ·(go_simp;rfl)
         apply And.intro
         ·(go_simp;rfl)
         refine ⟨(by first | exact List.Mem.head _ | exact List.Mem.tail _ (List.Mem.head _) | exact List.Mem.tail _ (List.Mem.tail _ (List.Mem.head _)) | exact List.Mem.tail _ (List.Mem.tail _ (List.Mem.tail _ (List.Mem.head _)))),fun W hF hD=>?_,?_⟩
         ·exact ⟨_,hSrc W (far_nil hF),zAH fun x _=>idC_one x,by rintro _ rfl;rfl⟩
         intro v
         simp only [Act.put,zA,zB,zC])
      | ((with_reducible apply lx_appC Tryz.idsTy 3 (0+cl.length) odd.length (fun xs=>xs=rowsOf idC cl) (fun xs=>xs=rowsOf idC cl++rowsOf idC odd) (by omega) (by omega) zBa (by kernel_rfl) (by kernel_rfl) [] (fun q hq=>absurd hq (List.not_mem_nil)))
         ·apply Eq.refl
         apply Exists.intro
         apply Exists.intro
         apply And.intro
         ·(go_simp;rfl)
         apply And.intro
         ·(go_simp;rfl)
         refine ⟨(by first | exact List.Mem.head _ | exact List.Mem.tail _ (List.Mem.head _) | exact List.Mem.tail _ (List.Mem.tail _ (List.Mem.head _)) | exact List.Mem.tail _ (List.Mem.tail _ (List.Mem.tail _ (List.Mem.head _)))),fun W hF hD=>?_,?_⟩
         ·exact ⟨_,hSrcO W (far_nil hF),zAH fun x _=>idC_one x,by rintro _ rfl;rfl⟩
         intro v
         simp only [Act.put,zA,zB,zC])
      | ((with_reducible apply lx_appC Tryz.idsTy 5 (0+cl.length+odd.length) cl.length (fun xs=>xs=rowsOf idC cl++rowsOf idC odd) (fun xs=>xs=rowsOf idC cl++rowsOf idC odd++rowsOf idC cl) (by omega) (by omega) zBa (by kernel_rfl) (by kernel_rfl) [] (fun q hq=>absurd hq (List.not_mem_nil)))
         ·apply Eq.refl
         apply Exists.intro
         apply Exists.intro
         apply And.intro
         ·(go_simp;rfl)
         apply And.intro
         ·(go_simp;rfl)
         refine ⟨(by first | exact List.Mem.head _ | exact List.Mem.tail _ (List.Mem.head _) | exact List.Mem.tail _ (List.Mem.tail _ (List.Mem.head _)) | exact List.Mem.tail _ (List.Mem.tail _ (List.Mem.tail _ (List.Mem.head _)))),fun W hF hD=>?_,?_⟩
         ·exact ⟨_,hSrc W (far_nil hF),zAH fun x _=>idC_one x,by rintro _ rfl;rfl⟩
         intro v
         simp only [Act.put,zA,zB,zC])
    refine lx0_nil ?_ fun w5 hW5 hD5=>?_
    ·exact List.nodup_nil
    obtain ⟨_,xs5,rfl,ho5,_⟩:=hD5 _ (.head _)
    obtain ⟨HV,hHV⟩ : ∃ HV,cl++odd++cl=HV:=⟨_,rfl⟩
    have hHok : ∀ y∈HV,y.length=32:=fun y hy=>by
     rw [←hHV] at hy
     rcases List.mem_append.1 hy with hy | hy
     ·rcases List.mem_append.1 hy with hy | hy
      ·exact hcok y hy
      ·exact hodd y hy
     ·exact hcok y hy
    have hHo:OwnIds w5 w4.heap.size v HV:=by
     unfold OwnIds
     rw [←hHV,zAo,zAo,List.length_append,List.length_append]
     rw [Nat.zero_add] at ho5
     exact ho5
    have hHI:=SliceAt.of_own (idsK hHok) hHo
    have b35:=bthen hb4 hb4.size hW5
    have hS5:=hS4.below hW5
    have hD5':=hD3.below b35
    have hwI5:=hwI3.below b35
    have hcI5:=hcI3.below b35
    have hoI5:=hoI w5 b35
    have lM5:=fun W (hW:Below w5.heap.size w5 W)=>lM3 W (bthen b35 b35.size hW)
    have cw5:=fun W (hW:Below w5.heap.size w5 W)=>cw W (bthen b35 b35.size hW)
    have cc5:=fun W (hW:Below w5.heap.size w5 W)=>cc_ W (bthen b35 b35.size hW)
    have b05:=bthen b3 b3.size b35
    have k1:=fun W (hW:Below w5.heap.size w5 W)=>ackAcks_calls (hS5.below hW) (hHI.below hW) hHok
    have k2:=fun W (hW:Below w5.heap.size w5 W)=>refAcks_calls (hD5'.below hW) HV hHok _ (hHI.below hW)
    have k3:=fun W (hW:Below w5.heap.size w5 W)=>zBJ (hS5.below hW) (hwI5.below hW) hwok (hcI5.below hW) hcok
    have k4:=fun W (hW:Below w5.heap.size w5 W)=>zDr (hD5'.below hW) wl cl hwok hcok _ _ (hwI5.below hW) (hcI5.below hW)
    have k5:=fun W (hW:Below w5.heap.size w5 W)=>zBJ (hS5.below hW) (hoI5.below hW) hodd (hcI5.below hW) hcok
    have k6:=fun W (hW:Below w5.heap.size w5 W)=>zDr (hD5'.below hW) odd cl hodd hcok _ _ (hoI5.below hW) (hcI5.below hW)
    have hok2 : ∀ y∈offerL (es1.map (·.st)) [] HV,y.length=32:=fun y hy=>by
     rcases (zBE (S:=es1.map (·.st)) HV (seen:=[]) List.nodup_nil (fun x hx=>by cases hx)).2.2.2 y hy with h | h
     ·cases h
     ·exact hHok y h
    rw [hS] at hok2
    simp only [hS] at k2 k4 k6
    obtain ⟨AL,hAL⟩ : ∃ AL,offerL S [] HV=AL:=⟨_,rfl⟩
    obtain ⟨R1,hR1⟩ : ∃ R1,readyS S wl cl=R1:=⟨_,rfl⟩
    obtain ⟨R2,hR2⟩ : ∃ R2,readyS S odd cl=R2:=⟨_,rfl⟩
    rw [hAL] at hok2
    simp only [hAL] at k1 k2
    simp only [hR1] at k3 k4
    simp only [hR2] at k5 k6
    have k7:=fun W va vb (ha:Ids W va AL) (hb:Ids W vb AL)=>refSame02_calls AL hok2 va vb W ha hb
    have e1:(R1==R1)=true:=by simp
    have e2:(R2==R2)=true:=by simp
    clear hD5 ho5 hHo hS4 hD3 hwI3 hcI3 hoI lM3 lM33 cw cc_ cc4 hSrc hSrcO hAL hR1 hR2 hHV hof hb4 hW5 b35 b3 hS
    go_upto_region 8 with (fail)
    refine zAr 9 (by kernel_rfl) (by kernel_rfl) (by kernel_rfl) (by kernel_rfl) ?_
    simp only [exSp]
    iterate 9 apply Exists.intro
    repeat
     first
      | ((with_reducible apply lx0_ex)
         ·(go_simp;done)
         apply Exists.intro
         apply And.intro
         ·apply Eq.refl
         apply And.intro
         ·intro W hW hD
          have q0:=lM5 W hW
          first
           | (go_simp
              rfl)
           | (obtain ⟨F,o2,_⟩:=hD.at 0 rfl (by kernel_rfl)
              obtain ⟨F',o1,_⟩:=hD.at 1 rfl (by kernel_rfl)
              have q1:=k7 W _ _ (SliceAt.of_own (idsK hok2) o1) (SliceAt.of_own (idsK hok2) o2)
              go_simp
              with_reducible exact q1)
         simp only [Act.put,zA,zB,zC])
      | ((with_reducible apply zAJ)
         ·(first | rfl | (go_simp;done))
         ·apply Eq.refl
         simp only [Act.put,zA,zB,zC])
      | ((with_reducible refine lx0_new (ownR w5.heap.size 53 32 AL.length (rowsOf idC AL)) rfl ?_ (zBL _ _ _ _ _) ?_ ?_)
         ·(go_simp;done)
         ·intro W hW hD
          have q0:=lM5 W hW
          unfold doesAt Oper.wp execOp
          go_simp
          first
           | (with_reducible refine (k1 W hW).mono ?_)
           | (with_reducible refine (k2 W hW).mono ?_)
          rintro e w' ⟨v,rfl,ho,hb⟩
          exact ⟨hb,zDb hW.size ho⟩
         intro v
         simp only [Act.put,zA,zB,zC])
    refine lx0_nil ?_ fun w8 hW8 hD8=>?_
    ·exact List.nodup_nil
    have b58:=hW8
    clear hD8 k1 k2 k7
    go_upto_region 9 with (fail)
    refine zAe (C:=fun W=>Below w8.heap.size w8 W) (by kernel_rfl) (by kernel_rfl) (Below.refl _ _).drew ?_
    repeat
     first
      | ((with_reducible refine zAm ?_ ?_)
         ·(go_simp;done)
         apply Exists.intro
         refine ⟨fun W hW=>?_,?_⟩
         ·first
           | (have q0:=lM5 W (bthen b58 b58.size hW)
              have q1:=cw5 W (bthen b58 b58.size hW)
              have q2:=cc5 W (bthen b58 b58.size hW)
              have q3:=zAL hW (k3 W (bthen b58 b58.size hW))
              have q4:=zAL hW (k4 W (bthen b58 b58.size hW))
              go_simp
              first
               | rfl
               | (with_reducible exact q3)
               | (with_reducible exact q4))
         simp only [Act.put,zA,zB,zC])
      | ((with_reducible refine zAj ?_ ?_)
         ·(first | rfl | (go_simp;done))
         simp only [Act.put,zA,zB,zC])
    with_reducible refine wpQuiet_nil ?_
    intro w9 hW9
    go_upto_region 10 with (fail)
    refine zAe (C:=fun W=>Below w9.heap.size w9 W) (by kernel_rfl) (by kernel_rfl) (Below.refl _ _).drew ?_
    repeat
     first
      | ((with_reducible refine zAm ?_ ?_)
         ·(go_simp;done)
         apply Exists.intro
         refine ⟨fun W hW=>?_,?_⟩
         ·first
           | (have q0:=lM5 W (bthen b58 b58.size (bthen hW9 hW9.size hW))
              have q1:=cw5 W (bthen b58 b58.size (bthen hW9 hW9.size hW))
              have q2:=cc5 W (bthen b58 b58.size (bthen hW9 hW9.size hW))
              have q3:=zAL hW (k5 W (bthen b58 b58.size (bthen hW9 hW9.size hW)))
              have q4:=zAL hW (k6 W (bthen b58 b58.size (bthen hW9 hW9.size hW)))
              go_simp
              first
               | rfl
               | (with_reducible exact q3)
               | (with_reducible exact q4))
         simp only [Act.put,zA,zB,zC])
      | ((with_reducible refine zAj ?_ ?_)
         ·(first | rfl | (go_simp;done))
         simp only [Act.put,zA,zB,zC])
    with_reducible refine wpQuiet_nil ?_
    intro w10 hW10
    have b5a:=bthen b58 b58.size (bthen hW9 hW9.size hW10)
    have b0a:=bthen b05 b05.size b5a
    have hka:=hkn w10
    have hm1:=fun W=>Lib.hid (zBV r W)
    have hm2:=fun W=>Lib.hid (refMany_calls r W)
    obtain ⟨N,hN⟩ : ∃ N,manyN r=N:=⟨_,rfl⟩
    simp only [hN] at hm1 hm2
    have e3:((N:Int)==(N:Int))=true:=by simp
    clear hN k3 k4 k5 k6 hW9 hW10 b58 lM5 cw5 cc5 hkn
    go_wp2_with (first
     | ((with_reducible refine hka.out.mono ?_);rintro e w11 ⟨rfl,hb11⟩
        have m11:=hm1 w11
        have n11:=hm2 w11)
     | ((with_reducible refine m11.out.mono ?_);rintro e w12 ⟨rfl,hw12⟩;obtain rfl:=hw12.symm)
     | ((with_reducible refine n11.out.mono ?_);rintro e w13 ⟨rfl,hw13⟩;obtain rfl:=hw13.symm))
    go_ret
    exact ⟨rfl,bthen b0a b0a.size hb11⟩
end
end Go.Proofs.YtbcbmjdmlcldjaaGreatDoor
namespace Go.Proofs.YtbcbmjdmlcldjaaGreatDoor
open Go.ChangeShapes Go.WideShapes Go.ChangeAt Go.RowKit
section
variable {H:Type} {enc:TypeId×Value→H} {w:World} {base:Nat} {sp:Nat→Bool} {held:Bool}
theorem elem_gid (fuel:Nat) (cs:List Value) (x:DataW H×List MemPlace) (h:DataW.trod enc Tryz.prog w base sp held fuel 53 cs=some x) (_:cs.length=32) : ∃ r:Txt,cs=idC r∧r.length=32:=by
 obtain ⟨l,hl,hc⟩:=trod_bytes Tryz.underlying53 Tryz.underlying5 (by kernel_rfl) (by kernel_rfl) h
 exact ⟨l,by rw [hc];simp [idC,u8s],hl⟩
theorem open_ids {v:Value} {d:DataW H} {p:List MemPlace} (h:DataW.Trod enc Tryz.prog w base sp held 26 v d p) (hc:v.cells.toList=[v]) : ∃ l:List Txt,Ids w v l ∧ ∀ x∈l,x.length=32:=by
 obtain ⟨fuel,hf⟩:=h
 rw [hc] at hf
 exact zBr idC 32 (by omega) (fun x=>x.length=32) Tryz.underlying26 (by kernel_rfl) (fun y hy=>idC_len hy) elem_gid hf
end
end Go.Proofs.YtbcbmjdmlcldjaaGreatDoor
namespace Go.Proofs.YtbcbmjdmlcldjaaGreatDoor
open Go.ChangeShapes Go.WideShapes Go.ChangeAt Go.RowKit
theorem gTab : Tryz.prog.globalNamed "knapsack/sha256.constants" = some 0:=by kernel_rfl
theorem gTabType : (Tryz.prog.globals[0]?).map (·.type)=some 177:=by kernel_rfl
theorem cellsTab : Tryz.prog.cellsOf 177=64:=by kernel_rfl
theorem cellsU32 : Tryz.prog.cellsOf 66=1:=by kernel_rfl
theorem laid_is : (Rows.laid_knapsack_sha256_constants:DataW Unit)=Lib.tabData .u32 (K256.map fun n=>((n:Nat):Int)):=by kernel_rfl
theorem tabK_of {W:World} (h:laidMetH Tryz.prog [("knapsack/sha256.constants",Rows.laid_knapsack_sha256_constants)] W):TabK W:=by
 rw [laid_is] at h
 have ht:=Lib.tabIs_of_head (rest:=[]) gTab gTabType Tryz.underlying177 Tryz.underlying66 cellsU32 cellsTab h
 have hc (t:Nat) (h64:t<64):W.cell? ⟨0,t,none⟩=some (.int .u32 (K256.getD t 0:Nat)):=by
  rw [ht.cell gTab t (by rw [List.length_map,zBp];exact h64)]
  have:t<K256.length:=by rw [zBp];exact h64
  simp [List.getD,List.getElem?_map,List.getElem?_eq_getElem this]
 exact ⟨World.block_lt_of_cell? W _ (hc 0 (by omega)),hc⟩
noncomputable def laidWorld (os:Os):World:=
 { World.holding Tryz.prog os ⟨#[], #[],[]⟩ with heap:=(World.holding Tryz.prog os ⟨#[], #[],[]⟩).heap.modify 0 fun
  | .cells _ t frozen => .cells (u32s K256) t frozen
  | o=>o }
end Go.Proofs.YtbcbmjdmlcldjaaGreatDoor
