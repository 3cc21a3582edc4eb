/- Texts of this claim, laid together: DptV, DptO, DptB, ObjQ, DptX, DptK, WlkP, DptR, DptZ, Ris, StoQ, ObjId, StoI, StL, StM. -/
import Derived.Test.YtbhdfaadedlcfaaGreatDoorMm
namespace Go.Proofs.YtbhdfaadedlcfaaGreatDoor
open Go.RowKit
section
attribute [local go_sem ↓] ldvI_eq
set_option maxRecDepth 100000 in
theorem built_dpt (id:Txt) (k:Nat) (hid:id.length=32):Tryz.prog.built 48 [(0, .agg (u8s id)),(1, .int .i64 (k:Nat))]=some (dptC ⟨id,k⟩).toArray:=by
 obtain ⟨it,hi,hz,hs,hb⟩:=Tryz.dptTy.hi
 have hpl:(match Tryz.prog.underlying 48 with | some (.struct fields)=>fields.toList.mapM (fun f=>(Tryz.prog.info? f.type).map fun i=>(f.offset,i.size)) | _=>none)=some [(0,32),(32,1)]:=by kernel_rfl
 have hu:=Tryz.underlying48
 rw [hu] at hpl
 unfold Program.built
 rw [hi,hu]
 simp only [hz]
 simp only at hpl
 rw [hpl]
 have hf:=fold_link zDpt.cells (.int .i64 (k:Nat)) (id.map u8v) 32 (by simpa using hid) zCx
 have h33:=zCx
 have e1:(Value.int .i64 (k:Nat)).cells = #[.int .i64 (k:Nat)]:=rfl
 have e2:(Value.agg (u8s id)).cells=u8s id:=rfl
 have f1 : ∀ c:Array Value,Array.foldl (fun cs (x:Value×Nat)=>cs.setIfInBounds (32+x.snd) x.fst) c (#[.int .i64 (k:Nat)]:Array Value).zipIdx=c.setIfInBounds 32 (.int .i64 (k:Nat)):=fun c=>rfl
 have f2 : ∀ c:Array Value,Array.foldl (fun cs (x:Value×Nat)=>cs.setIfInBounds (0+x.snd) x.fst) c (u8s id).zipIdx=(id.map u8v).zipIdx.foldl (fun cs (x:Value×Nat)=>cs.setIfInBounds (0+x.snd) x.fst) c:=fun c=>by
  rw [←Array.foldl_toList,Array.toList_zipIdx]
  rfl
 have g0:(#[(0,32),(32,1)]:Array (Nat×Nat))[0]?=some (0,32):=rfl
 have g1:(#[(0,32),(32,1)]:Array (Nat×Nat))[1]?=some (32,1):=rfl
 have hsz:((id.map u8v).zipIdx.foldl (fun cs (x:Value×Nat)=>cs.setIfInBounds (0+x.snd) x.fst) zDpt.cells).size=33:=by
  rw [(Great.foldl_set 0 (id.map u8v) 0 zDpt.cells).1,h33]
 simp only [Instr.fill,g0,g1,e1,e2]
 rw [f2,if_neg (by simp [zAj,hid,h33]),f1,hf,if_neg (by rw [hsz];simp)]
 show some (dptC ⟨id,k⟩).toArray=_
 unfold dptC
 rw [show (u8s id).toList=id.map u8v from by simp [u8s]]
set_option maxRecDepth 100000 in
theorem built_ddt (id:Txt) (k:Nat) (hid:id.length=32):Tryz.prog.built 55 [(0, .agg (u8s id)),(1, .int .i64 (k:Nat))]=some (dptC ⟨id,k⟩).toArray:=by
 obtain ⟨it,hi,hz,hs,hb⟩:=Tryz.ddtTy.hi
 have hpl:(match Tryz.prog.underlying 55 with | some (.struct fields)=>fields.toList.mapM (fun f=>(Tryz.prog.info? f.type).map fun i=>(f.offset,i.size)) | _=>none)=some [(0,32),(32,1)]:=by kernel_rfl
 have hu:=Tryz.underlying55
 rw [hu] at hpl
 unfold Program.built
 rw [hi,hu]
 simp only [hz]
 simp only at hpl
 rw [hpl]
 have hf:=fold_link zDpt.cells (.int .i64 (k:Nat)) (id.map u8v) 32 (by simpa using hid) zCx
 have h33:=zCx
 have e1:(Value.int .i64 (k:Nat)).cells = #[.int .i64 (k:Nat)]:=rfl
 have e2:(Value.agg (u8s id)).cells=u8s id:=rfl
 have f1 : ∀ c:Array Value,Array.foldl (fun cs (x:Value×Nat)=>cs.setIfInBounds (32+x.snd) x.fst) c (#[.int .i64 (k:Nat)]:Array Value).zipIdx=c.setIfInBounds 32 (.int .i64 (k:Nat)):=fun c=>rfl
 have f2 : ∀ c:Array Value,Array.foldl (fun cs (x:Value×Nat)=>cs.setIfInBounds (0+x.snd) x.fst) c (u8s id).zipIdx=(id.map u8v).zipIdx.foldl (fun cs (x:Value×Nat)=>cs.setIfInBounds (0+x.snd) x.fst) c:=fun c=>by
  rw [←Array.foldl_toList,Array.toList_zipIdx]
  rfl
 have g0:(#[(0,32),(32,1)]:Array (Nat×Nat))[0]?=some (0,32):=rfl
 have g1:(#[(0,32),(32,1)]:Array (Nat×Nat))[1]?=some (32,1):=rfl
 have hsz:((id.map u8v).zipIdx.foldl (fun cs (x:Value×Nat)=>cs.setIfInBounds (0+x.snd) x.fst) zDpt.cells).size=33:=by
  rw [(Great.foldl_set 0 (id.map u8v) 0 zDpt.cells).1,h33]
 simp only [Instr.fill,g0,g1,e1,e2]
 rw [f2,if_neg (by simp [zAj,hid,h33]),f1,hf,if_neg (by rw [hsz];simp)]
 show some (dptC ⟨id,k⟩).toArray=_
 unfold dptC
 rw [show (u8s id).toList=id.map u8v from by simp [u8s]]
def ObjK (S:List StL) (n:Txt) (B0:Nat) (w':World) (e:Ending):Prop := ∃ OC K th vp,e = .returned (.tuple #[.agg OC, .bool th])∧OC.size=72∧OC.all (·.oneCell')=true∧OC[0]?=some (.int .i64 K)∧OC[35]?=some vp∧OwnIds w' B0 vp (parS S n)∧(th=true∧K=3↔kindS S n=3)
theorem objC_kind (o:ObjL) (ve vp:Value):(objC o ve vp)[0]?=some (.int .i64 o.kind):=rfl
theorem zCO (S:List StL) (n:Txt):(parS S n).length≤20 ∧ ∀ x∈parS S n,x.length=32:=by
 unfold parS
 cases ho:objS S n with
 | none=>exact ⟨Nat.zero_le _,fun x hx=>by cases hx⟩
 | some o=>
   refine ⟨?_,(zD5 ho).1.pars⟩
   unfold objS at ho
   cases hg:getS S n with
   | none=>rw [hg] at ho;cases ho
   | some s=>rw [hg] at ho;exact (dec_small ho).pars
theorem nextP_small (S:List StL) (D:List DpL) (a:Nat):(nextP S D a).length≤D.length*20 ∧ ∀ x∈nextP S D a,x.length=32:=by
 unfold nextP
 constructor
 ·have h : ∀ l:List DpL,(l.flatMap fun p=>parS S p.id).length≤l.length*20:=fun l=>by
   induction l with
   | nil=>simp
   | cons p l ih=>
     rw [List.flatMap_cons,List.length_append,List.length_cons]
     have:=(zCO S p.id).1
     omega
  refine Nat.le_trans (h _) ?_
  rw [List.length_drop]
  omega
 ·intro x hx
  obtain ⟨p,_,hp⟩:=List.mem_flatMap.1 hx
  exact (zCO S p.id).2 x hp
section
variable {w w':World} {sb p:Nat} {vs:Value} {S:List StL}
theorem zDT (h:StoAt w sb p vs S) (n:Txt) (hn:n.length=32) :
 Calls Tryz.prog 30 #[.pointer (some ⟨p,0,none⟩), .agg (u8s n)] w fun e w'=>ObjK S n w.heap.size w' e∧Below w.heap.size w w':=by
 refine (zBV h n hn).mono fun e w' ⟨q1,q2⟩=>⟨?_,q2⟩
 unfold ObjT at q1
 unfold ObjK
 cases hG:getS S n with
 | none=>
   rw [hG] at q1
   have hp:parS S n=[]:=by unfold parS;rw [objS_none hG]
   have hk:kindS S n=0:=by unfold kindS;rw [hG]
   rw [hp,hk]
   exact ⟨zObj,0,false, .slice none 0 0,q1,zAB,zCd,by kernel_rfl,by kernel_rfl,World.ownsRow_nil _ _ _ _,by simp⟩
 | some x=>
   rw [hG] at q1
   obtain ⟨o,A1,A2,k1,k2,hd,rfl,hv,_,hop⟩:=q1
   have ho:=zDs hG hd
   have hp:parS S n=o.pars:=by unfold parS;rw [ho]
   have hk:kindS S n=o.kind:=by unfold kindS;rw [hG];simp only;rw [hd]
   rw [hp,hk]
   exact ⟨_,o.kind,true,_,rfl,by rw [List.size_toArray,zAv hv.ok],zAr o A1 A2 _ k1 _ k2,by rw [List.getElem?_toArray];exact objC_kind _ _ _,by rw [List.getElem?_toArray];exact (objC_at hv.ok.tree _ _).1,hop,by simp⟩
end
theorem lit_append_srcN {P:Program} {ops:Array Oper} {rest:List Oper} {a:Act} {W:World} {Q:Exit→Act→World→Prop} {d:Option Tmp} {rt:TypeId} {pos:String} {af:Array Edge}
 (s x:Operand) (t:TypeId) {e:TypeId} {z:Value} {size bytes:Nat} (hT:SliceTy P t e z size bytes) {base n:Nat} {v:Value} {xs:List Value} (hown:W.ownsRow base e size v n xs)
 {m:Nat} {v2:Value} {ys:List Value} (hsrc:SrcAt size W v2 m ys) (h1 : ∀ u∈ys,u.oneCell'=true) (h63:n+m≤9223372036854775807) (hbytes:(n+m)*bytes≤140737488355328) (hbase:base≤W.heap.size)
 (hs:a.eval s=v) (hx:a.eval x=v2)
 (h : ∀ v' w',w'.ownsRow base e size v' (n+m) (xs++ys)→W.grownBy w' v.ownBlock→Newer W v v'→wpList P ops Q rest (a.put d v') w') :
 wpList P ops Q ({ dst:=d,op := .call { callee := .builtin .append,args := #[s,x],argTypes := #[t,t] },type:=rt,pos:=pos,after:=af,guard:=none }::rest) a W:=
 wpList_plain rfl fun _ hK=>by
  obtain ⟨v',w',hrun,ho,hg,hat⟩:=zCj (rt:=rt) hT hown hsrc h1 h63 hbytes hbase
  unfold Oper.wp execOp
  simp only [resolve,invoke,builtin,Sem.run_bind,Sem.run_pure,Result.andThen_ok,List.map_toArray,List.map_cons,List.map_nil,hs,hx,hrun]
  refine hK _ _ (h v' w' ho hg ?_)
  rcases hat with h2 | h2
  ·exact .inl h2
  ·exact .inr fun k hk=>by rw [h2] at hk;injection hk with hk;omega
structure LevI (S:List StL) (w0:World) (B:Nat) (v:Value) (D:List DpL) (ids:List Txt) (n k:Nat) (wr:World) (vl vp:Value) (L:List DpL) (NP:List Txt):Prop where
 s:DptS L (addL S n D (ids.take k))
 ok:DptsOk L
 inv:DptI S (addL S n D (ids.take k))
 np:NP=nextP S (addL S n D (ids.take k)) D.length
 own:OwnDpts wr B vl L
 ownp:OwnIds wr w0.heap.size vp NP
 far:Far [v.ownBlock] w0 wr
 newer:Newer w0 v vl
section
variable {S:List StL} {w0 w1 w2 w3 w4:World} {B n k:Nat} {v vl vp vl' vp' vo:Value} {D L:List DpL} {ids NP:List Txt} {x:Txt}
theorem LevI.same (h:LevI S w0 B v D ids n k w1 vl vp L NP) (hB:B≤w0.heap.size) (hx:ids[k]?=some x) (hb:Below w1.heap.size w1 w2) (hno:inL ((addL S n D (ids.take k)).map DpL.id) x=true∨kindS S x≠3):LevI S w0 B v D ids n (k+1) w2 vl vp L NP:=by
 have e:addL S n D (ids.take (k+1))=addL S n D (ids.take k):=by rw [addL_more hx,addD_no hno]
 exact ⟨by rw [e];exact h.s,h.ok,by rw [e];exact h.inv,by rw [e];exact h.np,zAf h.own hb,zAf h.ownp hb,h.far.more hb,h.newer⟩
theorem LevI.more (h:LevI S w0 B v D ids n k w1 vl vp L NP) (hB:B≤w0.heap.size) (hx:ids[k]?=some x) (hx32:x.length=32) (hn:n≤2000000) (hb:Below w1.heap.size w1 w2) (hi:inL ((addL S n D (ids.take k)).map DpL.id) x=false) (hk3:kindS S x=3)
 (ho3:OwnDpts w3 B vl' (L.take (posK DpL.id L x)++[⟨x,n⟩]++L.drop (posK DpL.id L x))) (hg3:w2.grownBy w3 vl.ownBlock) (hn3:Newer w2 vl vl')
 (ho4:w4.ownsRow w0.heap.size 46 32 vp' (NP.length+(parS S x).length) (rowsOf idC NP++rowsOf idC (parS S x))) (hg4:w3.grownBy w4 vp.ownBlock) :
 LevI S w0 B v D ids n (k+1) w4 vl' vp' (L.take (posK DpL.id L x)++[⟨x,n⟩]++L.drop (posK DpL.id L x)) (NP++parS S x):=by
 have e:addL S n D (ids.take (k+1))=addL S n D (ids.take k)++[⟨x,n⟩]:=by rw [addL_more hx,addD_yes hi hk3]
 have hI:=addD_I (n:=n) h.inv x
 rw [addD_yes hi hk3] at hI
 have hp2:OwnIds w2 w0.heap.size vp NP:=zAf h.ownp hb
 have hf3:Far [vl.ownBlock] w2 w3:=Far.of_grown hg3
 have hf4:Far [vp.ownBlock] w3 w4:=Far.of_grown hg4
 have hp3:OwnIds w3 w0.heap.size vp NP:=hf3.own hp2 fun q hq hm=>own_ne hp2 (zAf h.own hb) (by decide) q hq (List.mem_singleton.1 hm).symm
 refine ⟨by rw [e];exact h.s.add (x:=⟨x,n⟩) hi,zEf h.ok _ ⟨hx32,hn⟩,by rw [e];exact hI,?_,?_,?_,?_,?_⟩
 ·rw [e,nextP_yes (by exact addL_len _),←h.np]
 ·exact hf4.own ho3 fun q hq hm=>own_ne ho3 hp3 (by decide) q hq (List.mem_singleton.1 hm).symm
 ·unfold OwnIds
  rw [List.length_append,zAo]
  exact ho4
 ·have h2:Far [v.ownBlock] w0 w2:=h.far.more hb
  have h3:Far [v.ownBlock] w0 w3:=h2.then_ hf3 fun q hq=>by
   rcases h.newer with h5 | h5
   ·rw [←h5];exact .inl hq
   ·exact .inr (h5 q (List.mem_singleton.1 hq).symm)
  exact h3.then_ hf4 fun q hq => .inr (World.ownsRow.lt h.ownp q (List.mem_singleton.1 hq).symm).1
 ·exact h.newer.then_ hn3 (Nat.le_trans h.far.size hb.size)
end
set_option maxRecDepth 100000 in
set_option maxHeartbeats 4000000 in
theorem depLevel_calls {S:List StL} {w:World} {sb p B:Nat} {vs v vi:Value} {L D:List DpL} {ids:List Txt} (hS:StoAt w sb p vs S) (hB:B≤w.heap.size) (hv:OwnDpts w B v L) (hL:DptS L D) (hok:DptsOk L) (hI:DptI S D)
 (hvi:OwnIds w B vi ids) (hids : ∀ x∈ids,x.length=32) (n:Nat) (hn:n≤2000000) :
 Calls Tryz.prog 29 #[.pointer (some ⟨p,0,none⟩),v,vi, .int .i64 n] w fun e w' => ∃ v' vp,e = .returned (.tuple #[v',vp]) ∧ ∃ L',DptS L' (addL S n D ids)∧DptsOk L'∧OwnDpts w' B v' L'∧OwnIds w' w.heap.size vp (nextP S (addL S n D ids) D.length)∧Far [v.ownBlock] w w':=by
 have hSl:S.length≤500000:=hS.ok.few
 obtain ⟨Ai,ci,rfl⟩:=zAm hvi
 have hSr : ∀ wr,Far [v.ownBlock] w wr→StoAt wr sb p vs S:=fun wr hf=>hS.far hf (fun hm=>zAs hv hS.blk (by decide) (List.mem_singleton.1 hm)) fun q hq hm=>own_ne hS.own hv (by decide) q hq (List.mem_singleton.1 hm).symm
 have hIr : ∀ wr,Far [v.ownBlock] w wr→OwnIds wr B (.slice Ai ids.length ci) ids:=fun wr hf=>hf.own hvi fun q hq hm=>own_ne hvi hv (by decide) q hq (List.mem_singleton.1 hm).symm
 have hst:LevI S w B v D ids n 0 w v (.slice none 0 0) L []:=⟨hL,hok,hI,(nextP_self D).symm,hv,World.ownsRow_nil _ _ _ _,Far.refl _ _,Newer.refl _ _⟩
 have hfin:Hid (ids.take ids.length=ids):=Lib.hid List.take_length
 clear hL hok hI hv hvi hS
 go_enter Tryz.func29,Tryz.ntmps29
 go_wp2_with (fail)
 go_loopg [1,10,19] ids.length (fun f v1 v10 vk wr => ∃ (vl vp:Value) (k:Nat) (L:List DpL) (NP:List Txt),vl=v1∧vp=v10∧vk = .int .i64 k∧k+f=ids.length∧LevI S w B v D ids n k wr vl vp L NP)
 case atStart=>exact ⟨_,_,0,L,[],rfl,rfl,rfl,by omega,hst⟩
 case round=>
  obtain ⟨vl,vp,k,L1,NP,rfl,rfl,rfl,hkf,hr⟩:=hrel
  cases gk with
  | zero=>
    have hki : ¬ (k:Int)<(ids.length:Int):=by omega
    obtain rfl:k=ids.length:=by omega
    clear hSr hIr hst
    go_wp2_with (fail)
    go_ret2
    obtain ⟨r1,r2,r3,r4,r5,r6,r7,r8⟩:=hr
    rw [hfin.out] at r1 r4
    rw [r4] at r6
    exact ⟨_,_,rfl,L1,r1,r2,r5,r6,r7⟩
  | succ f=>
    have hki:(k:Int)<(ids.length:Int):=by omega
    obtain ⟨x,hx⟩ : ∃ x,ids[k]?=some x:=⟨_,List.getElem?_eq_getElem (by omega)⟩
    have hxi:=hids x (List.mem_of_getElem? hx)
    have hSw:=hSr _ hr.far
    obtain ⟨A',c',he,_,_,hat⟩:=SliceAt.of_own (idsK hids) (hIr _ hr.far)
    injection he with e1 _ e3
    subst e1
    subst e3
    obtain ⟨ga,oa,rfl,hga,hca⟩:=hat (by omega)
    have hlx:(ldvI ⟨ga,oa+k*32,none⟩).run Tryz.prog wr = .ok (.agg (u8s x)) wr:=zAb (show World.rangeAt wr ga (oa+k*32) (u8s x).toList from hca k x hx) hxi
    have hLl:L1.length≤500000:=by rw [hr.s.len];exact Nat.le_trans hr.inv.len hSl
    have hpl:=fun W (hW:Below wr.heap.size wr W)=>Lib.hid (depPlace_calls (SliceAt.of_own (dptK hr.ok) (zAf hr.own hW)) hr.ok hr.s.sorted (by omega) x hxi)
    have hob:=fun W (hW:Below wr.heap.size wr W)=>Lib.hid (zDT (hSw.below hW) x hxi)
    have hin:hasK DpL.id L1 x=inL ((addL S n D (ids.take k)).map DpL.id) x:=hr.s.has x
    have hx32:(u8s x).size=32:=by rw [zAj,hxi]
    have hx1:=u8s_one x
    have hlm : ∀ W g,Blk W g 46 (u8s x)→(ldvI ⟨g,0,none⟩).run Tryz.prog W = .ok (.agg (u8s x)) W:=fun W g h=>zAb (zAi h) hxi
    have hbd:=built_dpt x n hxi
    have hPle:posK DpL.id L1 x≤L1.length:=posK_le
    have hins:=fun W (hW:Below wr.heap.size wr W) vb (hvb:Blk W vb 48 (dptC ⟨x,n⟩).toArray) (hne:vl.ownBlock≠some vb)=>Lib.hid (zEM L1 hr.ok (by omega) vl W B (posK DpL.id L1 x) vb ⟨x,n⟩ ⟨hxi,hn⟩ (Nat.le_trans hB (Nat.le_trans hr.far.size hW.size)) (zAf hr.own hW) hPle hvb hne)
    have hvlt : ∀ q,vl.ownBlock=some q→q<wr.heap.size:=fun q hq=>(World.ownsRow.lt hr.own q hq).2
    have hpart : ∀ W,Below wr.heap.size wr W→OwnIds W w.heap.size vp NP:=fun W hW=>zAf hr.ownp hW
    have hnps:NP.length≤10000000:=by
     have h1:=(nextP_small S (addL S n D (ids.take k)) D.length).1
     rw [←hr.np,←hr.s.len] at h1
     omega
    obtain ⟨hps1,hps2⟩:=zCO S x
    have hz72:=zAB
    have hzo:=zeroObj
    have hzI:=zeroIdV
    have hZ32:(u8s noId).size=32:=by rw [zAj,zAg]
    obtain ⟨XC,hXC⟩ : ∃ XC,u8s x=XC:=⟨_,rfl⟩
    obtain ⟨DC,hDC⟩ : ∃ DC,(dptC ⟨x,n⟩).toArray=DC:=⟨_,rfl⟩
    have hD33:DC.size=33:=by rw [←hDC,List.size_toArray];exact zBh ⟨hxi,hn⟩
    rw [hDC] at hbd
    simp only [hDC] at hins
    rw [hXC] at hlx hx32 hx1 hbd
    simp only [hXC] at hpl hob hlm
    obtain ⟨P,hP⟩ : ∃ P,posK DpL.id L1 x=P:=⟨_,rfl⟩
    obtain ⟨HB,hHB⟩ : ∃ HB,hasK DpL.id L1 x=HB:=⟨_,rfl⟩
    simp only [hP,hHB] at hpl hins
    rw [hHB] at hin
    replace hP:=Lib.hid hP
    replace hXC:=Lib.hid hXC
    replace hDC:=Lib.hid hDC
    replace hin:=Lib.hid hin
    have hwr:=hr.far.size
    clear hHB hat hca hst hfin hSw hPle
    go_upto_region 7 with (first
     | ((with_reducible refine lit_new 46 (.tmp 12) (.tmp 22) XC 32 sz32 hx32 hx1 _ ?_ ?_ ?_ ?_)
        ·first | exact hZ32 | rfl
        ·rfl
        ·rfl
        intro w2 hb2 hbl2
        have l2:=hlm w2 _ hb2
        have p2:=hpl w2 hbl2)
     | ((with_reducible refine p2.out.mono ?_);rintro e w3 ⟨rfl,hb3⟩
        have b3:=bthen hbl2 hbl2.size hb3
        have l3:=hlm w3 _ (hb2.below hb3 hb2.lt)
        have o3:=hob w3 b3)
     | ((with_reducible refine o3.out.mono ?_);rintro e w4 ⟨⟨OC,K,th,vo,rfl,hc72,hcone,hc0,hc35,hvo,hk3⟩,hb4⟩
        have b4:=bthen b3 b3.size hb4)
     | ((with_reducible refine lit_new 59 (.tmp 15) (.tmp 33) OC 72 szObj hc72 hcone _ ?_ ?_ ?_ ?_)
        ·first | exact hz72 | rfl
        ·rfl
        ·rfl
        intro w5 hb5 hbl5))
    have b5:=bthen b4 b4.size hbl5
    have l5:=hlm w5 _ ((hb2.below hb3 hb2.lt).below (bthen hb4 hb4.size hbl5) (hb2.below hb3 hb2.lt).lt)
    have k5:w5.cell? ⟨w4.heap.size,0,none⟩=some (.int .i64 K):=by rw [hb5.cell];exact hc0
    have hvo5:=zAf hvo hbl5
    clear p2 o3 l2 l3 hpl hob hlm hlx hb2 hcone hc72 hc0 hbl5 hbl2 hb3
    by_cases hyes:HB=false∧th=true∧K=3
    ·obtain ⟨rfl,rfl,rfl⟩:=hyes
     have hkd:=hk3.1 ⟨rfl,rfl⟩
     have hin6:=hins
     clear hk3
     go_upto_region 9 with (first
      | ((with_reducible refine lit_build2 hbd ?_ ?_ ?_);rfl;rfl)
      | ((with_reducible refine zAC (.tmp 49) Tryz.dptTy DC hD33 (by omega) ?_ ?_);rfl
         obtain ⟨w6,hw6⟩ : ∃ w6,w5.alloc (.cells DC 48)=w6:=⟨_,rfl⟩
         have n6:Blk w6 w5.heap.size 48 DC:=by rw [←hw6];exact Blk.new _ _ _
         have bb6:Below w5.heap.size w5 w6:=by rw [←hw6];exact (Below.refl _ _).alloc (Nat.le_refl _) _
         have b6:=bthen b5 b5.size bb6
         rw [hw6]
         clear hw6
         have i6:=hins w6 b6 w5.heap.size n6 (fun h=>by have:=hvlt _ h;have:=b5.size;omega))
      | ((with_reducible refine i6.out.mono ?_);rintro e w7 ⟨vl',rfl,ho7,hg7,hn7⟩))
     have hf7:Far [vl.ownBlock] w6 w7:=Far.of_grown hg7
     have c35:w7.cell? ⟨w4.heap.size,35,none⟩=some vo:=by
      have h6:=hb5.below bb6 hb5.lt
      rw [(hf7.blk h6 (fun hm=>by have:=hvlt _ (List.mem_singleton.1 hm).symm;have:=b4.size;omega)).cell]
      exact hc35
     have hap : ∀ q,vl.ownBlock=some q→q<w6.heap.size:=fun q hq=>Nat.lt_of_lt_of_le (hvlt q hq) b6.size
     have hvo7:OwnIds w7 w3.heap.size vo (parS S x):=hf7.own (zAf hvo5 bb6) fun q hq hm=>own_ne (zAf hvo5 bb6) (zAf hr.own b6) (by decide) q hq (List.mem_singleton.1 hm).symm
     have hvp7:OwnIds w7 w.heap.size vp NP:=hf7.own (hpart w6 b6) fun q hq hm=>own_ne (hpart w6 b6) (zAf hr.own b6) (by decide) q hq (List.mem_singleton.1 hm).symm
     have hsrc:=SrcAt.of (idsK hps2) (SliceAt.of_own (idsK hps2) hvo7)
     have hone : ∀ u∈rowsOf idC (parS S x),u.oneCell'=true:=zAJ fun x _=>idC_one x
     have k63:NP.length+(parS S x).length≤9223372036854775807:=by omega
     have kby:(NP.length+(parS S x).length)*32≤140737488355328:=by omega
     have hz7:w.heap.size≤w7.heap.size:=Nat.le_trans hwr (Nat.le_trans b6.size hf7.size)
     clear hins i6 hvlt hpart hnps hps1 hbd hD33 n6 hap hvo7 l5 k5 hb5 hc35 hvo hvo5 hf7
     go_wp2_with (first
      | ((with_reducible refine lit_append_srcN (.tmp 52) (.tmp 54) 34 Tryz.idsTy hvp7 hsrc hone k63 kby hz7 ?_ ?_ ?_);rfl;rfl
         intro vp' w8 ho8 hg8 hn8))
     rw [←hP.out] at ho7
     have hr2:=hr.more hB hx hxi hn b6 hin.out.symm hkd ho7 hg7 hn7 ho8 hg8
     clear hr hin
     go_roundg f
     case rel=>exact ⟨_,_,k+1,_,_,rfl,rfl,by go_num,by omega,hr2⟩
     case measure=>omega
    ·have hno:inL ((addL S n D (ids.take k)).map DpL.id) x=true∨kindS S x≠3:=by
      rw [←hin.out]
      cases HB with
      | true=>exact .inl rfl
      | false=>exact .inr fun h=>hyes ⟨rfl,hk3.2 h⟩
     have hr2:=hr.same hB hx b5 hno
     clear hr hin hno hk3 hins hbd hvlt hpart hnps hps1 hps2 hD33 hvo5 hvo hb5 l5 hx hxi
     cases HB with
     | true=>
       go_wp2_with (fail)
       go_roundg f
       case rel=>exact ⟨_,_,k+1,L1,NP,rfl,rfl,by go_num,by omega,hr2⟩
       case measure=>omega
     | false=>
       cases th with
       | false=>
         go_wp2_with (fail)
         go_roundg f
         case rel=>exact ⟨_,_,k+1,L1,NP,rfl,rfl,by go_num,by omega,hr2⟩
         case measure=>omega
       | true=>
         have hK : ¬ K=3:=fun h=>hyes ⟨rfl,rfl,h⟩
         go_wp2_with (fail)
         go_roundg f
         case rel=>exact ⟨_,_,k+1,L1,NP,rfl,rfl,by go_num,by omega,hr2⟩
         case measure=>omega
end
section
attribute [local go_sem ↓] ldvI_eq
theorem zDy {w:World} {B:Nat} {v:Value} {acc:List Txt} {x:Txt} (h:w.ownsRow B 46 32 v (acc.length+1) (rowsOf idC acc++(u8s x).toList)):OwnIds w B v (acc++[x]):=by
 unfold OwnIds
 rw [List.length_append,List.length_singleton,zAo,zAx]
 exact h
theorem endsM_len {S:List StL} {l:List Txt}:(endsM S l).length≤l.length:=by unfold endsM;exact List.length_filterMap_le _ _
theorem endsM_ok {S:List StL} {l:List Txt} (h : ∀ x∈l,x.length=32) : ∀ x∈endsM S l,x.length=32:=fun x hx=>by
 unfold endsM at hx
 obtain ⟨y,hy,he⟩:=List.mem_filterMap.1 hx
 exact endS_ok _ _ _ (h y hy) he
structure DpoI (S:List StL) (w0:World) (most:Nat) (R:List DpL) (f n:Nat) (wr:World) (vi vo:Value) (ids:List Txt) (L D:List DpL):Prop where
 s:DptS L D
 ok:DptsOk L
 inv:DptI S D
 own:OwnDpts wr w0.heap.size vo L
 owni:OwnIds wr w0.heap.size vi ids
 iok : ∀ x∈ids,x.length=32
 fuel:FuelD S f D ids
 num:n≤most+1
 res:levQ S most f D ids n=R
 bel:Below w0.heap.size w0 wr
def DpoR (S:List StL) (R:List DpL) (B:Nat) (v:Value) (w':World):Prop := ∃ L,DptS L R∧DptsOk L∧OwnDpts w' B v L
set_option maxRecDepth 100000 in
set_option maxHeartbeats 4000000 in
theorem zDk {S:List StL} {w:World} {sb p:Nat} {vs vf:Value} {ini:List Txt} (hS:StoAt w sb p vs S) (hvf:Ids w vf ini) (hini : ∀ x∈ini,x.length=32) (hil:ini.length≤800000) (most:Nat) (h1:1≤most) (h2:most≤1048576) :
 Calls Tryz.prog 10 #[.pointer (some ⟨p,0,none⟩),vf, .int .i64 most] w fun e w' => ∃ v,e = .returned (.tuple #[v, .int .i64 0])∧DpoR S (depS S most (endsM S ini)) w.heap.size v w'∧Below w.heap.size w w':=by
 have hf:=Lib.hid (fineB_calls most w)
 rw [decide_eq_true (show 1≤(most:Int)∧(most:Int)≤1048576 by omega)] at hf
 have hR:=dep_lev (S:=S) h1 (endsM S ini)
 obtain ⟨R,hRe⟩ : ∃ R,depS S most (endsM S ini)=R:=⟨_,rfl⟩
 rw [hRe] at hR ⊢
 clear hRe
 have hSl:S.length≤500000:=hS.ok.few
 have hSr:=fun wr (hW:Below w.heap.size w wr)=>hS.below hW
 have hfin:ini.take ini.length=ini:=List.take_length
 have hEok:=endsM_ok (S:=S) hini
 obtain ⟨Ai,ci,rfl,hi1,hi2,hat⟩:=hvf
 replace hR:=Lib.hid hR
 have h0:OwnIds w w.heap.size (.slice none 0 0) (endsM S (ini.take 0)):=World.ownsRow_nil _ _ _ _
 clear hS
 go_enter Tryz.func10,Tryz.ntmps10
 go_wp2_with (first
  | ((with_reducible refine hf.out.mono ?_);rintro e w1 ⟨rfl,hw1⟩;obtain rfl:=hw1.symm))
 clear hf
 go_loopg [8,20] ini.length (fun f v8 v20 wr => ∃ (vi:Value) (k:Nat),vi=v8∧v20 = .int .i64 k∧k+f=ini.length∧OwnIds wr w.heap.size vi (endsM S (ini.take k))∧Below w.heap.size w wr)
 case atStart=>exact ⟨_,0,rfl,rfl,by omega,h0,Below.refl _ _⟩
 case round=>
  obtain ⟨vi,k,rfl,rfl,hkf,hown,hbel⟩:=hrel
  cases gk with
  | zero=>
    have hki : ¬ (k:Int)<(ini.length:Int):=by omega
    obtain rfl:k=ini.length:=by omega
    rw [hfin] at hown
    have hst:DpoI S w most R (S.length+2) 1 wr vi (.slice none 0 0) (endsM S ini) [] []:=⟨DptS.nil,(fun x hx=>by cases hx),DptI.nil,World.ownsRow_nil _ _ _ _,hown,hEok, .inr (by simp),by omega,hR.out,hbel⟩
    clear hat hown h0 hfin hEok hR hini hil hi1 hi2 hkf hki hbel
    go_wp2_with (fail)
    go_loopg [8,13,14] (S.length+2) (fun f v8 v13 v14 wr => ∃ (vi vo:Value) (ids:List Txt) (L D:List DpL) (n:Nat),vi=v8∧vo=v13∧v14 = .int .i64 n∧DpoI S w most R f n wr vi vo ids L D)
    case atStart=>exact ⟨_,_,_,_,_,1,rfl,rfl,rfl,hst⟩
    case round=>
     obtain ⟨vi,vo,ids,L,D,n,rfl,rfl,rfl,hr⟩:=hrel
     have hbs:=hr.bel.size
     obtain ⟨Ad,cd,rfl⟩:=zAm hr.owni
     by_cases hn:n≤most
     ·have hni:(n:Int)≤(most:Int):=by omega
      by_cases hids:ids=[]
      ·have hli : ¬ (0:Int)<(ids.length:Int):=by rw [hids];simp
       have hre:=hr.res
       rw [lev_end (fun h=>h.2 hids)] at hre
       have hres:DpoR S R w.heap.size vo wr:=⟨L,hre▸hr.s,hr.ok,hr.own⟩
       have hb:=hr.bel
       clear hr hre hids hSr hst
       go_wp2_with (fail)
       go_ret2
       exact ⟨_,rfl,hres,hb⟩
      ·have hfp:=hr.fuel.pos hr.inv hids
       obtain ⟨f,rfl⟩ : ∃ f,gk=f+1:=⟨gk-1,by omega⟩
       have hli:(0:Int)<(ids.length:Int):=by
        have:=List.length_pos_iff.2 hids
        omega
       have hlev:=Lib.hid (depLevel_calls (hSr wr hr.bel) hbs hr.own hr.s hr.ok hr.inv hr.owni hr.iok n (by omega))
       clear hSr hst
       go_wp2_with (first
        | ((with_reducible refine hlev.out.mono ?_);rintro e w5 ⟨vo',vi',rfl,L',q1,q2,q3,q4,q5⟩))
       have hb5:Below w.heap.size w w5:=hr.bel.trans (q5.below hbs fun q hq=>(World.ownsRow.lt hr.own q (List.mem_singleton.1 hq).symm).1)
       have hnext:DpoI S w most R f (n+1) w5 vi' vo' (nextP S (addL S n D ids) D.length) L' (addL S n D ids):=⟨q1,q2,addL_I _ hr.inv,q3,zAw q4 hbs,(nextP_small S _ _).2,hr.fuel.go hids,by omega,by rw [←lev_go hn hids];exact hr.res,hb5⟩
       clear hlev q1 q2 q3 q4 q5 hr hb5 hids hli
       go_roundg f
       case rel=>exact ⟨_,_,_,_,_,n+1,rfl,rfl,by go_num,hnext⟩
       case measure=>omega
     ·have hni : ¬ (n:Int)≤(most:Int):=by omega
      have hre:=hr.res
      rw [lev_end (fun h=>hn h.1)] at hre
      have hres:DpoR S R w.heap.size vo wr:=⟨L,hre▸hr.s,hr.ok,hr.own⟩
      have hb:=hr.bel
      clear hr hre hSr hst
      go_wp2_with (fail)
      go_ret2
      exact ⟨_,rfl,hres,hb⟩
  | succ f=>
    have hki:(k:Int)<(ini.length:Int):=by omega
    obtain ⟨ga,oa,rfl,hga,hca⟩:=hat (by omega)
    obtain ⟨x,hx⟩ : ∃ x,ini[k]?=some x:=⟨_,List.getElem?_eq_getElem (by omega)⟩
    have hxi:=hini x (List.mem_of_getElem? hx)
    have hbs:=hbel.size
    have hlx:(ldvI ⟨ga,oa+k*32,none⟩).run Tryz.prog wr = .ok (.agg (u8s x)) wr:=zAb (show World.rangeAt wr ga (oa+k*32) (u8s x).toList from zAc (hca k x hx) hga hbel) hxi
    have hen:=fun W (hW:Below wr.heap.size wr W)=>Lib.hid (zEz (hSr W (bthen hbel hbs hW)) x hxi)
    have hmo:=endsM_more (S:=S) hx
    have hx32:(u8s x).size=32:=by rw [zAj,hxi]
    have hx1:=u8s_one x
    have hlm : ∀ W g (y:Txt),y.length=32→Blk W g 46 (u8s y)→(ldvI ⟨g,0,none⟩).run Tryz.prog W = .ok (.agg (u8s y)) W:=fun W g y hy h=>zAb (zAi h) hy
    have hlx2:=fun W g=>hlm W g x hxi
    have hzI:=zeroIdV
    have hZ32:(u8s noId).size=32:=by rw [zAj,zAg]
    have hel:(endsM S (ini.take k)).length≤k:=Nat.le_trans endsM_len (by rw [List.length_take];omega)
    obtain ⟨E,hE⟩ : ∃ E,endsM S (ini.take k)=E:=⟨_,rfl⟩
    rw [hE] at hown hmo hel
    clear hat hca h0 hfin hE
    obtain ⟨XC,hXC⟩ : ∃ XC,u8s x=XC:=⟨_,rfl⟩
    rw [hXC] at hlx hx32 hx1
    simp only [hXC] at hen hlx2
    cases he:endS S (S.length+1) x with
    | none=>
      rw [he] at hmo
      simp only [he,endV] at hen
      have hown2 : ∀ W,Below wr.heap.size wr W→OwnIds W w.heap.size vi (endsM S (ini.take (k+1))):=fun W hW=>by rw [hmo,List.append_nil];exact zAf hown hW
      clear hmo he hlm hown hXC
      go_wp2_with (first
       | ((with_reducible refine lit_new 46 (.tmp 10) (.tmp 23) XC 32 sz32 hx32 hx1 _ ?_ ?_ ?_ ?_)
          ·first | exact hZ32 | rfl
          ·rfl
          ·rfl
          intro w2 hb2 hbl2
          have l2:=hlx2 w2 _ hb2
          have p2:=hen w2 hbl2)
       | ((with_reducible refine p2.out.mono ?_);rintro e w3 ⟨rfl,hb3⟩
          have b3:=bthen hbl2 hbl2.size hb3)
       | ((with_reducible refine lit_new 46 (.tmp 11) (.tmp 28) (u8s noId) 32 sz32 hZ32 (u8s_one noId) _ ?_ ?_ ?_ ?_)
          ·first | exact hZ32 | rfl
          ·rfl
          ·rfl
          intro w4 hb4 hbl4
          have b4:=bthen b3 b3.size hbl4))
      have o4:=hown2 w4 b4
      have bb4:=bthen hbel hbs b4
      clear hown2 hen hlx2 hb2 hb4
      go_roundg f
      case rel=>exact ⟨_,k+1,rfl,by go_num,by omega,o4,bb4⟩
      case measure=>omega
    | some m=>
      have hmi:=endS_ok _ _ _ hxi he
      have hm32:(u8s m).size=32:=by rw [zAj,hmi]
      have hm1:=u8s_one m
      have hm132:(u8s m).size=1*32:=hm32
      have hm1' : ∀ u∈(u8s m).toList,u.oneCell'=true:=idC_one m
      have hAk:E.length+1≤9223372036854775807:=by omega
      have hAb:(E.length+1)*32≤140737488355328:=by omega
      have hlm2:=fun W g=>hlm W g m hmi
      rw [he] at hmo
      simp only [he,endV] at hen
      clear he hlm hXC
      replace hmo:=Lib.hid hmo
      go_wp2_with (first
       | ((with_reducible refine lit_new 46 (.tmp 10) (.tmp 23) XC 32 sz32 hx32 hx1 _ ?_ ?_ ?_ ?_)
          ·first | exact hZ32 | rfl
          ·rfl
          ·rfl
          intro w2 hb2 hbl2
          have l2:=hlx2 w2 _ hb2
          have p2:=hen w2 hbl2)
       | ((with_reducible refine p2.out.mono ?_);rintro e w3 ⟨rfl,hb3⟩
          have b3:=bthen hbl2 hbl2.size hb3)
       | ((with_reducible refine lit_new 46 (.tmp 11) (.tmp 28) (u8s m) 32 sz32 hm32 hm1 _ ?_ ?_ ?_ ?_)
          ·first | exact hZ32 | rfl
          ·rfl
          ·rfl
          intro w4 hb4 hbl4
          have b4:=bthen b3 b3.size hbl4
          have l4:=hlm2 w4 _ hb4
          have hown4:=zAf hown b4
          have hz4:=Nat.le_trans hbs b4.size)
       | ((with_reducible refine zAC (.tmp 32) Tryz.idsTy (u8s m) hm32 (by omega) ?_ ?_);rfl)
       | ((with_reducible refine zAp (.tmp 31) (.tmp 33) 1 _ Tryz.idsTy hown4 (u8s m) hm132 hm1' hAk hAb hz4 ?_ ?_ ?_);rfl;rfl
          intro v5 w5 ho5 hb5 _ _))
      have o5:OwnIds w5 w.heap.size v5 (endsM S (ini.take (k+1))):=by rw [hmo.out];exact zDy ho5
      have bb5:=(bthen hbel hbs b4).trans hb5
      clear hmo hown hown4 ho5 hen hlx2 hlm2 hb2 hb4 l4 l2 hm32 hm1 hm132 hm1' hAk hAb
      go_roundg f
      case rel=>exact ⟨_,k+1,rfl,by go_num,by omega,o5,bb5⟩
      case measure=>omega
end
section
attribute [local go_sem ↓] ldvI_eq ldvDpt_eq
def zDptA : Array Value:=(dptC ⟨List.replicate 32 0,0⟩).toArray
theorem zeroDpt (W:World):(zeroValue 48).run Tryz.prog W = .ok (.agg zDptA) W:=by
 have h:(Tryz.prog.info? 48).map (·.zero)=some (some (.agg zDptA)):=by kernel_rfl
 obtain ⟨i,h1,h2⟩:=Option.map_eq_some_iff.1 h
 simp [zeroValue,typeInfo,h1,h2]
def deepP (n:Nat) (p:DpL):Bool:=decide (p.n<n)
def shalP (S:List StL) (n:Nat) (p:DpL):Bool := !decide (p.n<n)&&decide (parS S p.id≠[])
def deepL (L:List DpL) (n:Nat):List Txt:=(L.filter (deepP n)).map DpL.id
def shalL (S:List StL) (L:List DpL) (n:Nat):List Txt:=(L.filter (shalP S n)).map DpL.id
section
variable {S:List StL} {L:List DpL} {n k:Nat} {x:DpL}
theorem deepL_more (h:L[k]?=some x):deepL (L.take (k+1)) n=deepL (L.take k) n++(if deepP n x=true then [x.id] else []):=by
 unfold deepL
 rw [List.take_add_one,h,List.filter_append,List.map_append]
 congr 1
 show ([x].filter _).map _=_
 rw [List.filter_cons,List.filter_nil]
 split<;>rfl
theorem shalL_more (h:L[k]?=some x):shalL S (L.take (k+1)) n=shalL S (L.take k) n++(if shalP S n x=true then [x.id] else []):=by
 unfold shalL
 rw [List.take_add_one,h,List.filter_append,List.map_append]
 congr 1
 show ([x].filter _).map _=_
 rw [List.filter_cons,List.filter_nil]
 split<;>rfl
theorem deepL_len : (deepL (L.take k) n).length≤k:=by
 unfold deepL
 rw [List.length_map]
 exact Nat.le_trans (List.length_filter_le _ _) (by rw [List.length_take];omega)
theorem shalL_len : (shalL S (L.take k) n).length≤k:=by
 unfold shalL
 rw [List.length_map]
 exact Nat.le_trans (List.length_filter_le _ _) (by rw [List.length_take];omega)
end
def BoundR (S:List StL) (R:List DpL) (n:Nat) (B:Nat) (va vb:Value) (w':World):Prop := ∃ L,DptS L R∧(∀ x∈L,x.id.length=32)∧OwnIds w' B va (shalL S L n)∧OwnIds w' B vb (deepL L n)
set_option maxRecDepth 100000 in
set_option maxHeartbeats 4000000 in
theorem depBound_calls {S:List StL} {w:World} {sb p:Nat} {vs vf:Value} {ini:List Txt} (hS:StoAt w sb p vs S) (hvf:Ids w vf ini) (hini : ∀ x∈ini,x.length=32) (hil:ini.length≤800000) (n:Nat) (h1:1≤n) (h2:n≤1048576) :
 Calls Tryz.prog 11 #[.pointer (some ⟨p,0,none⟩),vf, .int .i64 n] w fun e w' => ∃ va vb,e = .returned (.tuple #[va,vb, .int .i64 0])∧BoundR S (depS S n (endsM S ini)) n w.heap.size va vb w'∧Below w.heap.size w w':=by
 have hof:=Lib.hid (zDk hS hvf hini hil n h1 h2)
 have hI:=depS_I S n (endsM S ini)
 obtain ⟨R,hR⟩ : ∃ R,depS S n (endsM S ini)=R:=⟨_,rfl⟩
 rw [hR] at hof hI ⊢
 clear hR
 have hSl:S.length≤500000:=hS.ok.few
 have hSr:=fun wr (hW:Below w.heap.size w wr)=>hS.below hW
 clear hS hvf
 go_enter Tryz.func11,Tryz.ntmps11
 go_upto_region 4 with (first
  | ((with_reducible refine hof.out.mono ?_);rintro e w1 ⟨v1,rfl,⟨L,hLs,hLok,hLo⟩,hb1⟩
     obtain ⟨Al,cl,rfl⟩:=zAm hLo))
 have hLl:L.length≤500000:=by rw [hLs.len];exact Nat.le_trans hI.len hSl
 have hLi:=SliceAt.of_own (dptK hLok) hLo
 obtain ⟨A',c',he,_,_,hat⟩:=hLi
 injection he with e1 _ e3
 subst e1
 subst e3
 have z1:=hb1.size
 have h0a:OwnIds w1 w1.heap.size (.slice none 0 0) (shalL S (L.take 0) n):=World.ownsRow_nil _ _ _ _
 have h0b:OwnIds w1 w1.heap.size (.slice none 0 0) (deepL (L.take 0) n):=World.ownsRow_nil _ _ _ _
 have hfin:L.take L.length=L:=List.take_length
 clear hof hI hLo
 go_wp2_with (fail)
 go_loopg [6,7,26] L.length (fun f v6 v7 v26 wr => ∃ (va vb:Value) (k:Nat) (SH DP:List Txt),va=v6∧vb=v7∧v26 = .int .i64 k∧k+f=L.length∧SH=shalL S (L.take k) n∧DP=deepL (L.take k) n∧OwnIds wr w1.heap.size va SH∧OwnIds wr w1.heap.size vb DP∧(∀ q,va.ownBlock=some q→vb.ownBlock≠some q)∧Below w1.heap.size w1 wr)
 case atStart=>exact ⟨_,_,0,_,_,rfl,rfl,rfl,by omega,rfl,rfl,h0a,h0b,fun q hq=>(by cases hq),Below.refl _ _⟩
 case round=>
  obtain ⟨va,vb,k,SH,DP,rfl,rfl,rfl,hkf,hSH,hDP,hoa,hob,hap,hbel⟩:=hrel
  have hbs:=hbel.size
  cases gk with
  | zero=>
    have hki : ¬ (k:Int)<(L.length:Int):=by omega
    obtain rfl:k=L.length:=by omega
    rw [hfin] at hSH hDP
    subst hSH
    subst hDP
    have hres:BoundR S R n w.heap.size va vb wr:=⟨L,hLs,fun x hx=>(hLok x hx).1,zAw hoa z1,zAw hob z1⟩
    have hb:=bthen hb1 z1 hbel
    clear hat hSr h0a h0b hLs hLok hoa hob
    go_wp2_with (fail)
    go_ret3
    exact ⟨_,_,rfl,hres,hb⟩
  | succ f=>
    have hki:(k:Int)<(L.length:Int):=by omega
    obtain ⟨ga,oa,rfl,hga,hca⟩:=hat (by omega)
    obtain ⟨x,hx⟩ : ∃ x,L[k]?=some x:=⟨_,List.getElem?_eq_getElem (by omega)⟩
    have hxok:=hLok x (List.mem_of_getElem? hx)
    have hxi:=hxok.1
    have hlx:=zEq (zAc (hca k x hx) hga hbel) hxok
    have hx33:(dptC x).toArray.size=33:=by rw [List.size_toArray,zBh hxok]
    have hx1:(dptC x).toArray.all (·.oneCell')=true:=all_oneCell_toArray (zDc x)
    have hxa:=dptC_all x
    have hli : ∀ W g,Blk W g 48 (dptC x).toArray→(ldvI ⟨g,0,none⟩).run Tryz.prog W = .ok (.agg (u8s x.id)) W:=fun W g h=>by
     have:=zAi h
     rw [List.toList_toArray] at this
     exact zAb (dptC_id this) hxi
    have hln : ∀ W g,Blk W g 48 (dptC x).toArray→W.cell? ⟨g,32,none⟩=some (.int .i64 x.n):=fun W g h=>by
     have:=zAi h
     rw [List.toList_toArray] at this
     have:=dptC_n hxi this
     rwa [Nat.zero_add] at this
    have hob':=fun W (hW:Below wr.heap.size wr W)=>Lib.hid (zDT (hSr W (bthen hb1 z1 (bthen hbel hbs hW))) x.id hxi)
    have hms:=shalL_more (S:=S) (n:=n) hx
    have hmd:=deepL_more (n:=n) hx
    rw [←hSH] at hms
    rw [←hDP] at hmd
    have hSHl:SH.length≤k:=by rw [hSH];exact shalL_len
    have hDPl:DP.length≤k:=by rw [hDP];exact deepL_len
    have hi32:(u8s x.id).size=32:=by rw [zAj,hxi]
    have hi132:(u8s x.id).size=1*32:=hi32
    have hi1' : ∀ u∈(u8s x.id).toList,u.oneCell'=true:=idC_one x.id
    have hAk:SH.length+1≤9223372036854775807:=by omega
    have hAb:(SH.length+1)*32≤140737488355328:=by omega
    have hBk:DP.length+1≤9223372036854775807:=by omega
    have hBb:(DP.length+1)*32≤140737488355328:=by omega
    obtain ⟨hps1,hps2⟩:=zCO S x.id
    have hz72:=zAB
    have hzo:=zeroObj
    have hzD:=zeroDpt
    have hZ33:zDptA.size=33:=by rfl
    have hdp:deepP n x=decide (x.n<n):=rfl
    have hsp:shalP S n x=(!decide (x.n<n)&&decide (parS S x.id≠[])):=rfl
    obtain ⟨XC,hXC⟩ : ∃ XC,u8s x.id=XC:=⟨_,rfl⟩
    obtain ⟨DC,hDC⟩ : ∃ DC,(dptC x).toArray=DC:=⟨_,rfl⟩
    obtain ⟨XN,hXN⟩ : ∃ XN,x.n=XN:=⟨_,rfl⟩
    rw [hDC] at hlx hx33 hx1
    simp only [hDC,hXC] at hli hob'
    simp only [hDC,hXN] at hln
    rw [hXN] at hdp hsp
    rw [hXC] at hi32 hi132 hi1'
    replace hXC:=Lib.hid hXC
    have hne : ∀ q,vb.ownBlock=some q→va.ownBlock≠some q:=fun q hq h=>hap q h hq
    clear hat hca hSH hDP hfin h0a h0b hx hxa hDC hXN hLs hLok hSr
    go_upto_region 8 with (first
     | ((with_reducible refine lit_new 48 (.tmp 11) (.tmp 29) DC 33 szDpt hx33 hx1 _ ?_ ?_ ?_ ?_)
        ·first | exact hZ33 | rfl
        ·rfl
        ·rfl
        intro w2 hb2 hbl2
        have l2:=hli w2 _ hb2
        have p2:=hob' w2 hbl2)
     | ((with_reducible refine p2.out.mono ?_);rintro e w3 ⟨⟨OC,K,th,vo,rfl,hc72,hcone,hc0,hc35,hvo,hk3⟩,hb3⟩
        have b3:=bthen hbl2 hbl2.size hb3)
     | ((with_reducible refine lit_new 59 (.tmp 12) (.tmp 35) OC 72 szObj hc72 hcone _ ?_ ?_ ?_ ?_)
        ·first | exact hz72 | rfl
        ·rfl
        ·rfl
        intro w4 hb4 hbl4))
    have b4:=bthen b3 b3.size hbl4
    have d4:=(hb2.below hb3 hb2.lt).below hbl4 (hb2.below hb3 hb2.lt).lt
    have i4:=hli w4 _ d4
    have n4:=hln w4 _ d4
    have c35:w4.cell? ⟨w3.heap.size,35,none⟩=some vo:=by rw [hb4.cell];exact hc35
    have hvo4:=zAf hvo hbl4
    obtain ⟨Ao,co,rfl⟩:=zAm hvo4
    have hoa4:=zAf hoa b4
    have hob4:=zAf hob b4
    have hz4:=Nat.le_trans hbs b4.size
    have b14:=bthen hbel hbs b4
    clear p2 l2 hli hln hob' hlx hb2 hcone hc72 hc0 hbl4 hbl2 hb3 hk3 hvo hvo4 hb4 hc35 d4 hoa hob
    by_cases hd:XN<n
    ·have hdi:(XN:Int)<(n:Int):=by omega
     rw [decide_eq_true hd] at hdp hsp
     rw [hdp,if_pos rfl] at hmd
     rw [hsp,if_neg (by simp),List.append_nil] at hms
     clear hdp hsp hd hps2
     replace hmd:=Lib.hid hmd
     replace hms:=Lib.hid hms
     go_wp2_with (first
      | ((with_reducible refine zAC (.tmp 44) Tryz.idsTy XC hi32 (by omega) ?_ ?_);rfl)
      | ((with_reducible refine zAp (.tmp 42) (.tmp 45) 1 _ Tryz.idsTy hob4 XC hi132 hi1' hBk hBb hz4 ?_ ?_ ?_);rfl;rfl
         intro v5 w5 ho5 hb5 hg5 hn5))
     have hoa5:OwnIds w5 w1.heap.size va SH:=(Far.of_grown hg5).own hoa4 fun q hq hm=>hap q hq (List.mem_singleton.1 hm).symm
     have hob5:OwnIds w5 w1.heap.size v5 (DP++[x.id]):=zDy (by rw [hXC.out];exact ho5)
     have hap5 : ∀ q,va.ownBlock=some q→v5.ownBlock≠some q:=fun q hq h5=>by
      rcases hn5 with h6 | h6
      ·rw [h6] at h5;exact hap q hq h5
      ·have:=h6 q h5
       have:=(World.ownsRow.lt hoa4 q hq).2
       omega
     have b15:=b14.trans hb5
     clear ho5 hob4 hoa4 hg5 hn5 hap hne
     go_roundg f
     case rel=>exact ⟨_,_,k+1,_,_,rfl,rfl,by go_num,by omega,hms.out.symm,hmd.out.symm,hoa5,hob5,hap5,b15⟩
     case measure=>omega
    ·have hdi : ¬ (XN:Int)<(n:Int):=by omega
     rw [decide_eq_false hd] at hdp hsp
     rw [hdp,if_neg (by simp),List.append_nil] at hmd
     by_cases hp:parS S x.id=[]
     ·have hli0 : ¬ (0:Int)<((parS S x.id).length:Int):=by rw [hp];simp
      rw [hsp,hp,if_neg (by simp),List.append_nil] at hms
      clear hdp hsp hd hp hps1 hps2
      replace hmd:=Lib.hid hmd
      replace hms:=Lib.hid hms
      go_wp2_with (fail)
      go_roundg f
      case rel=>exact ⟨_,_,k+1,_,_,rfl,rfl,by go_num,by omega,hms.out.symm,hmd.out.symm,hoa4,hob4,hap,b14⟩
      case measure=>omega
     ·have hli0:(0:Int)<((parS S x.id).length:Int):=by
       have:=List.length_pos_iff.2 hp
       omega
      rw [hsp,if_pos (by simp [hp])] at hms
      clear hdp hsp hd hp hps1 hps2
      replace hmd:=Lib.hid hmd
      replace hms:=Lib.hid hms
      go_wp2_with (first
       | ((with_reducible refine zAC (.tmp 54) Tryz.idsTy XC hi32 (by omega) ?_ ?_);rfl)
       | ((with_reducible refine zAp (.tmp 52) (.tmp 55) 1 _ Tryz.idsTy hoa4 XC hi132 hi1' hAk hAb hz4 ?_ ?_ ?_);rfl;rfl
          intro v5 w5 ho5 hb5 hg5 hn5))
      have hob5:OwnIds w5 w1.heap.size vb DP:=(Far.of_grown hg5).own hob4 fun q hq hm=>hne q hq (List.mem_singleton.1 hm).symm
      have hoa5:OwnIds w5 w1.heap.size v5 (SH++[x.id]):=zDy (by rw [hXC.out];exact ho5)
      have hap5 : ∀ q,v5.ownBlock=some q→vb.ownBlock≠some q:=fun q h5 hq=>by
       rcases hn5 with h6 | h6
       ·rw [h6] at h5;exact hap q h5 hq
       ·have:=h6 q h5
        have:=(World.ownsRow.lt hob4 q hq).2
        omega
      have b15:=b14.trans hb5
      clear ho5 hob4 hoa4 hg5 hn5 hap hne
      go_roundg f
      case rel=>exact ⟨_,_,k+1,_,_,rfl,rfl,by go_num,by omega,hms.out.symm,hmd.out.symm,hoa5,hob5,hap5,b15⟩
      case measure=>omega
end
section
def ObjQ (S:List StL) (n:Txt) (e:Ending) (w:World):Prop := ∃ X vp,e = .returned (.agg X)∧X.size=72∧X.all (·.oneCell')=true∧X[35]?=some vp∧Ids w vp (parS S n)
theorem docObjQ_calls {w w0:World} {vm:Value} {es:List DiL} (h:DocSt w0 vm es) (hb:Below w0.heap.size w0 w) (n:Txt) (hn:n.length=32):Calls Tryz.prog 17 #[.agg #[vm], .agg (u8s n)] w fun e w'=>ObjQ (es.map (·.st)) n e w0∧Below w.heap.size w w':=by
 refine (zEK h hb n hn).mono fun e w' ⟨q1,q2⟩=>⟨?_,q2⟩
 unfold ObjG at q1
 unfold ObjQ
 cases hG:getS (es.map (·.st)) n with
 | none=>
   rw [hG] at q1
   have hp:parS (es.map (·.st)) n=[]:=by unfold parS;rw [objS_none hG]
   rw [hp]
   exact ⟨zObj, .slice none 0 0,q1,zAB,zCd,by kernel_rfl,SliceAt.nil⟩
 | some x=>
   rw [hG] at q1
   obtain ⟨o,A1,A2,k1,k2,hd,rfl,hv⟩:=q1
   have ho:=zDs hG hd
   have hp:parS (es.map (·.st)) n=o.pars:=by unfold parS;rw [ho]
   refine ⟨_, .slice A2 o.pars.length k2,rfl,by rw [List.size_toArray,zAv hv.ok],zAr o A1 A2 _ k1 _ k2,?_,?_⟩
   ·rw [List.getElem?_toArray];exact (objC_at hv.ok.tree _ _).1
   ·rw [hp];exact hv.pars
def parF (w0:World) (S:List StL) (n:Txt) (v:Value) (_:Foot) (_:World):Prop := ∃ X vp,v = .agg X∧X.size=72∧X.all (·.oneCell')=true∧X[35]?=some vp∧Ids w0 vp (parS S n)
theorem parF_stab (w0:World) (S:List StL) (n:Txt) (v:Value):Stab (parF w0 S n v):=fun _ _ _ _ _ _ h=>h
def parsV : Value→Value | .agg xs=>xs.getD 35 undef | _=>undef
theorem parsV_at {X:Array Value} {vp:Value} (h:X[35]?=some vp):parsV (.agg X)=vp:=by
 obtain ⟨h1,h2⟩:=Array.getElem?_eq_some_iff.1 h
 simp [parsV,Array.getD,h1,h2]
section
variable {P:Program} {T:TypeId} {ops:Array Oper} {pres:Pres} {sps:List Sp} {E:Act→Facts→Prop} {i:Nat} {rest:List Oper} {s:Sp} {ss:List Sp} {a:Act} {D:Facts}
theorem lx_fpar (hf : ∀ (X:Array Value) (v:Value),X[35]?=some v → ∀ W,(Instr.field T (.agg X) 4).run P W = .ok v W) {w0:World} {rows:List (Option Nat)} {d:Option Tmp} {rt:TypeId} {pos:String} {af:Array Edge} {x:Operand} (hs:s = .det fun ρ=>parsV (ρ.headD undef)) (h : ∃ v,a.eval x=v∧(∀ w,Far rows w0 w→Have ops pres i D w → ∃ (X:Array Value) (vp:Value),v = .agg X∧X[35]?=some vp)∧LxL P ops w0 rows pres sps E (i+1) rest ss (a.put d (parsV v)) D) :
 LxL P ops w0 rows pres sps E i ({ dst:=d,op := .field T x 4,type:=rt,pos:=pos,after:=af,guard:=none }::rest) (s::ss) a D:=by
 obtain ⟨_,rfl,hc,h⟩:=h
 subst hs
 unfold LxL
 rw [if_pos (by simp [Region.wanted])]
 have hv:parsV ((vals { dst:=d,op := .field T x 4,type:=rt,pos:=pos,after:=af,guard:=none } a).headD undef)=parsV (a.eval x):=rfl
 refine ⟨fun w hw hh=>?_,fun v hv'=>by rw [show v=parsV (a.eval x) from hv'.trans hv];exact h⟩
 obtain ⟨X,vp,hx,hp⟩:=hc w hw hh
 refine zBO (v:=parsV (a.eval x)) ?_ ⟨hv.symm,Below.refl _ _⟩
 unfold execOp
 simp only [hx,hf X vp hp,Sem.run_bind,Sem.run_pure,Result.andThen_ok,parsV_at hp]
end
end
section
def bldD (fs:Array (Nat×Value)):Sem Value:=Instr.build 55 fs
theorem bldD_eq (fs:Array (Nat×Value)):Instr.build 55 fs=bldD fs:=rfl
attribute [local go_sem ↓] ldvI_eq ldvS_eq bldD_eq
abbrev OwnDdts (w:World) (base:Nat) (v:Value) (l:List DpL):Prop:=w.ownsRow base 55 33 v l.length (rowsOf dptC l)
theorem OwnDdts.at_ {w:World} {base:Nat} {v:Value} {l:List DpL} (hok:DptsOk l) (h:OwnDdts w base v l):Dpts w v l:=SliceAt.of_own (dptK hok) h
def atD (D:List DpL) (n:Txt):Nat:=match D.find? fun p=>decide (p.id=n) with
 | some p=>p.n
 | none=>0
theorem atD_drop {D:List DpL} {k:Nat} {x:DpL} (h:D[k]?=some x) (n:Txt):atD (D.drop k) n=if x.id=n then x.n else atD (D.drop (k+1)) n:=by
 obtain ⟨hlt,he⟩:=List.getElem?_eq_some_iff.1 h
 unfold atD
 rw [List.drop_eq_getElem_cons hlt,he,List.find?_cons]
 by_cases hx:x.id=n
 ·simp [hx]
 ·simp [hx]
theorem atD_mem {D:List DpL} (hI:(D.map DpL.id).Nodup) : ∀ {p:DpL},p∈D→atD D p.id=p.n:=by
 induction D with
 | nil=>intro p hp;cases hp
 | cons q D ih=>
   intro p hp
   unfold atD
   rw [List.find?_cons]
   rcases List.mem_cons.1 hp with rfl | hp
   ·simp
   ·have hq:q.id≠p.id:=fun e=>(List.nodup_cons.1 hI).1 (List.mem_map.2 ⟨p,hp,e.symm⟩)
    simp only [hq,decide_false]
    exact ih (List.nodup_cons.1 hI).2 hp
set_option maxRecDepth 100000 in
set_option maxHeartbeats 2000000 in
theorem refAtD_calls (D:List DpL) (hok:DptsOk D) (v:Value) (n:Txt) (hn:n.length=32) (w:World) (hv:Dpts w v D) :
 Calls Tryz.prog 13 #[v, .agg (u8s n)] w fun e w'=>e = .returned (.int .i64 (atD D n))∧Below w.heap.size w w':=by
 obtain ⟨W1,hW1⟩ : ∃ W1,w.alloc (.cells (u8s n) 46)=W1:=⟨_,rfl⟩
 have n1:Blk W1 w.heap.size 46 (u8s n):=by rw [←hW1];exact Blk.new _ _ _
 have b1:Below w.heap.size w W1:=by rw [←hW1];exact (Below.refl _ _).alloc (Nat.le_refl _) _
 have hG0:Hid (atD (D.drop 0) n=atD D n):=rfl
 have lnn:=fun W (hW:Below W1.heap.size W1 W)=>zAb (zAi (n1.below hW n1.lt)) hn
 obtain ⟨A,cap,rfl,hcap1,hcap2,hat⟩:=hv
 generalize atD D n=G at *
 go_enter Tryz.func13,Tryz.ntmps13
 go_wp2
 go_loopg [5] D.length (fun f vi wr => ∃ k:Nat,vi = .int .i64 k∧k+f=D.length∧Hid (atD (D.drop k) n=G)∧Below W1.heap.size W1 wr)
 case atStart=>exact ⟨0,rfl,by omega,hG0,Below.refl _ _⟩
 case round=>
  obtain ⟨k,rfl,hkf,hrel,hbel⟩:=hrel
  clear hW1
  cases gk with
  | succ f=>
    have hki:(k:Int)<(D.length:Int):=by omega
    obtain ⟨ga,oa,rfl,hga,hca⟩:=hat (by omega)
    obtain ⟨x,hx⟩ : ∃ x,D[k]?=some x:=⟨_,List.getElem?_eq_getElem (by omega)⟩
    have hxok:=hok x (List.mem_of_getElem? hx)
    have hxi:=hxok.1
    have hxr:=fun W (hW:Below W1.heap.size W1 W)=>zAc (hca k x hx) hga (bthen b1 b1.size hW)
    have hlx : ∀ W,Below W1.heap.size W1 W→(ldvI ⟨ga,oa+k*33,none⟩).run Tryz.prog W = .ok (.agg (u8s x.id)) W:=fun W hW=>zAb (dptC_id (hxr W hW)) hxi
    have hln : ∀ W,Below W1.heap.size W1 W→W.cell? ⟨ga,oa+k*33+32,none⟩=some (.int .i64 x.n):=fun W hW=>dptC_n hxi (hxr W hW)
    have heq:=fun W=>zBD W x.id n hxi hn
    have hmd:=atD_drop hx n
    obtain ⟨bo,hbo⟩ : ∃ bo,decide (x.id=n)=bo:=⟨_,rfl⟩
    rw [hbo] at heq
    have hmd2:Hid (atD (D.drop k) n=if bo=true then x.n else atD (D.drop (k+1)) n):=Lib.hid (by rw [hmd,←hbo];simp)
    clear hx hca hat hok hbo hmd hxr
    go_upto_region 4 with (fail)
    refine zAA 7 (by kernel_rfl) (by kernel_rfl) (by kernel_rfl) (by kernel_rfl) ?_
    simp only [exSp]
    iterate 7 apply Exists.intro
    repeat
     first
      | ((with_reducible apply lx0_ex)
         ·(go_simp;done)
         apply Exists.intro
         apply And.intro
         ·apply Eq.refl
         apply And.intro
         ·intro W hW hD
          have hW2:=hbel.trans (hW.mono hbel.size)
          have q0:=lnn W hW2
          have q1:=hlx W hW2
          have q2:=heq W
          go_simp
          first
           | rfl
           | (simp only [Sem.run_bind,run_eqGuard_agg _ _ _ _ _ _ _ Tryz.eqGuardType46,q2,Result.andThen_ok];rfl)
         simp only [Act.put,zA,zB,zC])
      | ((with_reducible apply zA2)
         ·(first | rfl | (go_simp;done))
         ·apply Eq.refl
         simp only [Act.put,zA,zB,zC])
    refine lx0_nil ?_ fun w5 hW5 hD5=>?_
    ·exact List.nodup_nil
    clear hD5 heq hlx
    have b5:=hbel.trans (hW5.mono hbel.size)
    have c5:=hln w5 b5
    clear hln
    cases bo with
    | false=>
      have hnext:Hid (atD (D.drop (k+1)) n=G):=Lib.hid (by rw [←hrel.out,hmd2.out,if_neg (by decide)])
      clear hrel hmd2
      go_wp2_with (fail)
      go_roundg f
      case rel=>exact ⟨k+1,by go_num,by omega,hnext,b5⟩
      case measure=>omega
    | true=>
      have hG:Hid (x.n=G):=Lib.hid (by rw [←hrel.out,hmd2.out,if_pos rfl])
      clear hrel hmd2
      go_wp2_with (fail)
      go_ret
      exact ⟨by rw [←hG.out];rfl,bthen b1 b1.size b5⟩
  | zero=>
    have hki : ¬ (k:Int)<(D.length:Int):=by omega
    have hG:Hid (G=0):=Lib.hid (by rw [←hrel.out,List.drop_eq_nil_of_le (by omega)];rfl)
    clear hrel hat
    go_wp2_with (fail)
    go_ret
    exact ⟨by rw [hG.out];rfl,bthen b1 b1.size hbel⟩
theorem preOkR {w:World} {B:Nat} {e:TypeId} {size n i:Nat} {v:Value} {xs:List Value} (h:w.ownsRow B e size v n xs):PreOk w [(i,v.ownBlock,fun w=>World.ownsRow w B e size v n xs)]:=PreOk.cons (PreOk.nil w) (fun q hq=>by simp at hq) (fun k hk=>(World.ownsRow.lt h k hk).2) h fun w' _ hs=>zBG h hs
theorem rowsR {i k:Nat} {row:Option Nat} {p:World→Prop} (h:some k∈rowsOfP [(i,row,p)]):row=some k:=by
 have:some k=row:=by simpa [rowsOfP] using h
 exact this.symm
theorem ownD_snoc {w:World} {B:Nat} {v:Value} {D:List DpL} {x:DpL} (h:w.ownsRow B 55 33 v (D.length+1) (rowsOf dptC D++(dptC x).toArray.toList)):OwnDdts w B v (D++[x]):=by
 unfold OwnDdts
 rw [List.length_append,List.length_singleton,zAo,zAx]
 rwa [List.toList_toArray] at h
structure DOfI (S:List StL) (most:Nat) (R:List DpL) (f i:Nat) (D:List DpL):Prop where
 inv:DptI S D
 ok:DptsOk D
 pos : ∀ p∈D,1≤p.n
 res:docQ S most f i D=R
 fuel:f+i=S.length+1
 le:i≤D.length
theorem DOfI.add {S:List StL} {most n:Nat} {D:List DpL} {x:Txt} (hI:DptI S D) (hok:DptsOk D) (hp : ∀ p∈D,1≤p.n) (hx:x.length=32) (hn:1≤n∧n≤2000000):DptI S (addD S n D x)∧DptsOk (addD S n D x) ∧ ∀ p∈addD S n D x,1≤p.n:=by
 refine ⟨addD_I hI x,?_,?_⟩
 ·intro p hp
  unfold addD at hp
  split at hp
  ·rcases List.mem_append.1 hp with hp | hp
   ·exact hok p hp
   ·rw [List.mem_singleton.1 hp];exact ⟨hx,hn.2⟩
  ·exact hok p hp
 ·intro p hp2
  unfold addD at hp2
  split at hp2
  ·rcases List.mem_append.1 hp2 with hp2 | hp2
   ·exact hp p hp2
   ·rw [List.mem_singleton.1 hp2];exact hn.1
  ·exact hp p hp2
section
variable {w:World} {vm:Value} {es:List DiL}
end
end
section
def idsR (B N:Nat) (v:Value) (F:Foot) (w:World):Prop := ∃ ids:List Txt,(∀ x∈ids,x.length=32)∧ids.length≤N∧ownR B 46 32 ids.length (rowsOf idC ids) v F w
theorem idsR_stab (B N:Nat) (v:Value):Stab (idsR B N v):=fun F F' w w' hf ha ⟨ids,h1,h2,h3⟩=>⟨ids,h1,h2,zCQ _ _ _ _ _ v F F' w w' hf ha h3⟩
theorem idsR_new {B N:Nat} {ids:List Txt} {v:Value} {w w':World} {w0:World} {rows:List (Option Nat)} (hB:B≤w.heap.size) (h:OwnIds w' w.heap.size v ids) (h1 : ∀ x∈ids,x.length=32) (h2:ids.length≤N):NewR w0 rows (idsR B N) none w v w':=fun F f1 f2 f3=>⟨ids,h1,h2,ownR_new hB h F f1 f2 f3⟩
section
variable {S:List StL} {L R:List DpL} {n:Nat}
theorem rise_all (h:SortedK DpL.id L):RiseL (L.map DpL.id):=by
 unfold RiseL
 rw [List.pairwise_map]
 exact h
end
end
section
section
variable {S:List StL} {cut cut' ini ini':List Txt}
theorem kind3_obj {x:Txt} (h:kindS S x=3) : ∃ o,objS S x=some o∧o.kind=3:=by
 unfold kindS at h
 unfold objS
 cases hg:getS S x with
 | none=>rw [hg] at h;simp at h
 | some s=>
   rw [hg] at h
   simp only at h ⊢
   cases hd:decO s.text with
   | none=>rw [hd] at h;simp at h
   | some o=>rw [hd] at h;exact ⟨o,rfl,h⟩
theorem link_next {o:ObjL} {x y:Txt} {l:LinkL} (ho:objS S x=some o) (hl:l∈linksL (cutO cut x o)) (he:l.id=y):y∈nextS S cut x:=by
 unfold nextS
 rw [ho]
 exact List.mem_map.2 ⟨l,hl,he⟩
theorem end_rch : ∀ (f:Nat) {x e:Txt},Rch S cut ini x→endS S f x=some e→Rch S cut ini e
 | 0,x,e,_,h=>by cases h
 | f+1,x,e,hx,h=>by
   unfold endS at h
   cases ho:objS S x with
   | none=>rw [ho] at h;cases h
   | some o=>
     rw [ho] at h
     simp only at h
     by_cases hk:o.kind=4
     ·rw [if_pos hk] at h
      refine end_rch f (hx.step (link_next ho (l:=⟨o.target,o.of_⟩) ?_ rfl)) h
      unfold cutO
      rw [if_neg (fun q=>by rw [hk] at q;exact absurd q.1 (by decide))]
      unfold linksL
      rw [if_neg (by rw [hk];decide),if_neg (by rw [hk];decide),if_pos hk]
      exact List.mem_singleton.2 rfl
     ·rw [if_neg hk] at h
      cases h
      exact hx
theorem par_next {x y:Txt} (hk:kindS S x=3) (hc:inL cut x=false) (hy:y∈parS S x):y∈nextS S cut x:=by
 obtain ⟨o,ho,h3⟩:=kind3_obj hk
 unfold parS at hy
 rw [ho] at hy
 refine link_next ho (l:=⟨y,3⟩) ?_ rfl
 unfold cutO
 rw [if_neg (fun q=>by rw [hc] at q;exact absurd q.2 (by decide))]
 unfold linksL
 rw [if_neg (by rw [h3];decide),if_pos h3]
 exact List.mem_cons_of_mem _ (List.mem_map.2 ⟨y,hy,rfl⟩)
theorem offerS_mem {seen:List Txt} {p x:Txt} (h:x∈offerS S seen p):x∈seen∨x=p:=by
 unfold offerS at h
 split at h
 ·rcases List.mem_append.1 h with h | h
  ·exact .inl h
  ·exact .inr (List.mem_singleton.1 h)
 ·exact .inl h
theorem ends_rch : ∀ (l:List Txt) {seen:List Txt},(∀ x∈l,Rch S cut ini x)→(∀ x∈seen,Rch S cut ini x) → ∀ x∈l.foldl (offerE S) seen,Rch S cut ini x
 | [],seen,_,hs=>hs
 | p::l,seen,hl,hs=>by
   refine ends_rch l (fun x hx=>hl x (List.mem_cons_of_mem _ hx)) fun x hx=>?_
   unfold offerE at hx
   cases he:endS S (S.length+1) p with
   | none=>rw [he] at hx;exact hs x hx
   | some e=>
     rw [he] at hx
     rcases offerS_mem hx with h | h
     ·exact hs x h
     ·rw [h]
      exact end_rch _ (hl p List.mem_cons_self) he
structure WalkJ (S:List StL) (cut ini E seen out:List Txt):Prop where
 i:WalkI S seen out
 r : ∀ x∈seen,Rch S cut ini x
 s : ∀ x∈seen,x∈E ∨ ∃ y∈out,x∈parS S y
 o : ∀ (i:Nat) (x:Txt),out[i]?=some x→x∈E ∨ ∃ (k:Nat) (y:Txt),k<i∧out[k]?=some y∧x∈parS S y
theorem WalkJ.start : WalkJ S cut ini (endsL S ini) (endsL S ini) []:=⟨WalkI.start ini,ends_rch ini (fun x hx => .base hx) (fun x hx=>by simp at hx),fun x hx => .inl hx,fun i x hx=>by simp at hx⟩
theorem WalkJ.step {E seen out:List Txt} (h:WalkJ S cut ini E seen out) {n:Txt} (hn:n∈leftW seen out):WalkJ S cut ini E (if inL cut n=true then seen else offerL S seen (parS S n)) (out++[n]):=by
 have hns:=(zES.1 hn).1
 have hnew : ∀ x∈(if inL cut n=true then seen else offerL S seen (parS S n)),x∈seen∨(inL cut n=false∧x∈parS S n):=by
  intro x hx
  split at hx
  ·exact .inl hx
  ·rename_i hc
   rcases (zCq (S:=S) (parS S n) h.i.nd h.i.k3).2.2.2 x hx with h1 | h1
   ·exact .inl h1
   ·exact .inr ⟨by simpa using hc,h1⟩
 refine ⟨h.i.step hn,fun x hx=>?_,fun x hx=>?_,fun i x hx=>?_⟩
 ·rcases hnew x hx with h1 | ⟨hc,h1⟩
  ·exact h.r x h1
  ·exact (h.r n hns).step (par_next (h.i.k3 n hns) hc h1)
 ·rcases hnew x hx with h1 | ⟨_,h1⟩
  ·rcases h.s x h1 with h2 | ⟨y,hy,h2⟩
   ·exact .inl h2
   ·exact .inr ⟨y,List.mem_append_left _ hy,h2⟩
  ·exact .inr ⟨n,List.mem_append_right _ (List.mem_singleton.2 rfl),h1⟩
 ·by_cases hi:i<out.length
  ·rw [List.getElem?_append_left hi] at hx
   rcases h.o i x hx with h1 | ⟨k,y,hk,hy,h1⟩
   ·exact .inl h1
   ·exact .inr ⟨k,y,hk,by rw [List.getElem?_append_left (by omega)];exact hy,h1⟩
  ·have hil:i<(out++[n]).length:=(List.getElem?_eq_some_iff.1 hx).1
   have hie:i=out.length:=by rw [List.length_append,List.length_singleton] at hil;omega
   subst hie
   have hxn:x=n:=by simpa using hx.symm
   subst hxn
   rcases h.s x hns with h1 | ⟨y,hy,h1⟩
   ·exact .inl h1
   ·obtain ⟨k,hk,he⟩:=List.mem_iff_getElem.1 hy
    exact .inr ⟨k,y,hk,by rw [List.getElem?_append_left hk,List.getElem?_eq_getElem hk,he],h1⟩
theorem walkJ_end {E:List Txt} : ∀ (f:Nat) {seen out:List Txt},WalkJ S cut ini E seen out → ∃ seen',WalkJ S cut ini E seen' (walkW S cut f seen out)
 | 0,seen,out,h=>⟨seen,h⟩
 | f+1,seen,out,h=>by
   cases hb:bestT S seen out with
   | none=>rw [walk_stop hb];exact ⟨seen,h⟩
   | some n=>rw [walkW_go hb];exact walkJ_end f (h.step (best_some hb).1)
structure WalkT (S:List StL) (cut ini l:List Txt):Prop where
 k3 : ∀ x∈l,kindS S x=3
 r : ∀ x∈l,Rch S cut ini x
 nd:l.Nodup
 o : ∀ (i:Nat) (x:Txt),l[i]?=some x→x∈endsL S ini ∨ ∃ (k:Nat) (y:Txt),k<i∧l[k]?=some y∧x∈parS S y
theorem walkS_law (S:List StL) (cut ini:List Txt):WalkT S cut ini (walkS S cut ini):=by
 obtain ⟨seen,h⟩:=walkJ_end (S.length+1) (WalkJ.start (S:=S) (cut:=cut) (ini:=ini))
 exact ⟨fun x hx=>h.i.k3 x (h.i.sub x hx),fun x hx=>h.r x (h.i.sub x hx),h.i.ndo,h.o⟩
theorem walkS_ok (hS:StoOk S) {x:Txt} (hx:x∈walkS S cut ini):x.length=32:=by
 obtain ⟨s,hs,he⟩:=List.mem_map.1 (zCR ((walkS_law S cut ini).k3 x hx))
 rw [←he,(hS.each s hs).1]
 exact zBb _
theorem walkS_len : (walkS S cut ini).length≤S.length:=by
 have h:=walkS_law S cut ini
 have:=zBK h.nd (m:=S.map StL.id) fun x hx=>zCR (h.k3 x hx)
 rwa [List.length_map] at this
end
end
section
section
variable {S:List StL} {L D:List DpL} {n most:Nat}
theorem addL_new : ∀ (l:List Txt) (D:List DpL), ∃ new,addL S n D l=D++new∧(∀ p∈new,p.n=n∧p.id∈l) ∧ ∀ q∈l,kindS S q=3→q∈(addL S n D l).map DpL.id
 | [],D=>⟨[],(List.append_nil _).symm,(fun p hp=>by cases hp),fun q hq=>by cases hq⟩
 | x::l,D=>by
   obtain ⟨new,h1,h2,h3⟩:=addL_new l (addD S n D x)
   have hin:kindS S x=3→x∈(addD S n D x).map DpL.id:=fun hk=>by
    cases hi:inL (D.map DpL.id) x with
    | true=>rw [addD_no (.inl hi)];exact inL_iff.1 hi
    | false=>rw [addD_yes hi hk,List.map_append];exact List.mem_append_right _ (List.mem_singleton.2 rfl)
   have hsub : ∀ y∈(addD S n D x).map DpL.id,y∈(addL S n D (x::l)).map DpL.id:=fun y hy=>by
    show y∈(addL S n (addD S n D x) l).map DpL.id
    rw [h1,List.map_append]
    exact List.mem_append_left _ hy
   have hq : ∀ q∈x::l,kindS S q=3→q∈(addL S n D (x::l)).map DpL.id:=fun q hq hk=>by
    rcases List.mem_cons.1 hq with rfl | hq
    ·exact hsub _ (hin hk)
    ·exact h3 q hq hk
   unfold addD at h1
   split at h1
   ·refine ⟨⟨x,n⟩::new,?_,fun p hp=>?_,hq⟩
    ·show addL S n (addD S n D x) l=_
     unfold addD
     rename_i hc
     rw [if_pos hc,h1,List.append_assoc]
     rfl
    ·rcases List.mem_cons.1 hp with rfl | hp
     ·exact ⟨rfl,List.mem_cons_self⟩
     ·exact ⟨(h2 p hp).1,List.mem_cons_of_mem _ (h2 p hp).2⟩
   ·refine ⟨new,?_,fun p hp=>⟨(h2 p hp).1,List.mem_cons_of_mem _ (h2 p hp).2⟩,hq⟩
    show addL S n (addD S n D x) l=_
    unfold addD
    rename_i hc
    rw [if_neg hc,h1]
structure DepJ (S:List StL) (most:Nat) (E:List Txt) (i:Nat) (D:List DpL):Prop where
 inv:DptI S D
 pos : ∀ p∈D,1≤p.n∧p.n≤most
 mono : ∀ (j k:Nat) (p q:DpL),j≤k→D[j]?=some p→D[k]?=some q→p.n≤q.n
 near : ∀ p,D[i]?=some p → ∀ q∈D,q.n≤p.n+1
 few : ∀ (j:Nat) (p:DpL),D[j]?=some p→p.n≤j+1
 ends : ∀ e∈E,(⟨e,1⟩:DpL)∈D
 one : ∀ p∈D,p.n=1→p.id∈E
 src : ∀ d∈D,1<d.n → ∃ p∈D,p.n+1=d.n∧d.id∈parS S p.id
 clo : ∀ (j:Nat) (p:DpL),j<i→D[j]?=some p→p.n<most → ∀ q∈parS S p.id,kindS S q=3 → ∃ d∈D,d.id=q∧d.n≤p.n+1
theorem DepJ.step {E:List Txt} {i:Nat} {p:DpL} (h:DepJ S most E i D) (hp:D[i]?=some p):DepJ S most E (i+1) (if p.n<most then addL S (p.n+1) D (parS S p.id) else D):=by
 have hpm:=List.mem_of_getElem? hp
 have hi:i<D.length:=(List.getElem?_eq_some_iff.1 hp).1
 have hmon : ∀ q,D[i+1]?=some q→p.n≤q.n:=fun q hq=>h.mono i (i+1) p q (by omega) hp hq
 by_cases hm:p.n<most
 ·rw [if_pos hm]
  obtain ⟨new,h1,h2,h3⟩:=addL_new (S:=S) (n:=p.n+1) (parS S p.id) D
  have hI:DptI S (addL S (p.n+1) D (parS S p.id)):=addL_I _ h.inv
  rw [h1] at h3 hI ⊢
  have hat : ∀ (j:Nat) (q:DpL),(D++new)[j]?=some q→(D[j]?=some q∧q∈D)∨(D.length≤j∧q.n=p.n+1):=fun j q hq=>by
   rcases Nat.lt_or_ge j D.length with hj | hj
   ·rw [List.getElem?_append_left hj] at hq
    exact .inl ⟨hq,List.mem_of_getElem? hq⟩
   ·rw [List.getElem?_append_right hj] at hq
    exact .inr ⟨hj,(h2 q (List.mem_of_getElem? hq)).1⟩
  refine ⟨hI,fun q hq=>?_,fun j k a b hjk ha hb=>?_,fun a ha q hq=>?_,fun j q hq=>?_,fun e he=>List.mem_append_left _ (h.ends e he),fun q hq hq1=>?_,fun d hd hd1=>?_,fun j a hj ha ham q hq hk=>?_⟩
  ·rcases List.mem_append.1 hq with hq | hq
   ·exact h.pos q hq
   ·rw [(h2 q hq).1];omega
  ·rcases hat j a ha with ⟨ha1,ha2⟩ | ⟨ha1,ha2⟩
   ·rcases hat k b hb with ⟨hb1,_⟩ | ⟨_,hb2⟩
    ·exact h.mono j k a b hjk ha1 hb1
    ·rw [hb2];exact h.near p hp a ha2
   ·rcases hat k b hb with ⟨hb1,_⟩ | ⟨_,hb2⟩
    ·have:=(List.getElem?_eq_some_iff.1 hb1).1;omega
    ·omega
  ·have hpa:p.n≤a.n:=by
    rcases hat (i+1) a ha with ⟨ha1,_⟩ | ⟨_,ha2⟩
    ·exact hmon a ha1
    ·omega
   rcases List.mem_append.1 hq with hq | hq
   ·have:=h.near p hp q hq;omega
   ·rw [(h2 q hq).1];omega
  ·rcases hat j q hq with ⟨hq1,_⟩ | ⟨hq1,hq2⟩
   ·exact h.few j q hq1
   ·have:=h.few i p hp;omega
  ·rcases List.mem_append.1 hq with hq | hq
   ·exact h.one q hq hq1
   ·have:=(h2 q hq).1
    have:=(h.pos p hpm).1
    omega
  ·rcases List.mem_append.1 hd with hd | hd
   ·obtain ⟨q,hq,h4⟩:=h.src d hd hd1
    exact ⟨q,List.mem_append_left _ hq,h4⟩
   ·exact ⟨p,List.mem_append_left _ hpm,(h2 d hd).1.symm,(h2 d hd).2⟩
  ·rcases hat j a ha with ⟨ha1,_⟩ | ⟨ha1,_⟩
   ·rcases Nat.lt_or_ge j i with hji | hji
    ·obtain ⟨d,hd,h4⟩:=h.clo j a hji ha1 ham q hq hk
     exact ⟨d,List.mem_append_left _ hd,h4⟩
    ·obtain rfl:j=i:=by omega
     rw [hp] at ha1
     obtain rfl:p=a:=Option.some.inj ha1
     obtain ⟨d,hd,he⟩:=List.mem_map.1 (h3 q hq hk)
     refine ⟨d,hd,he,?_⟩
     rcases List.mem_append.1 hd with hd | hd
     ·exact h.near p hp d hd
     ·rw [(h2 d hd).1];omega
   ·omega
 ·rw [if_neg hm]
  refine ⟨h.inv,h.pos,h.mono,fun a ha q hq=>?_,h.few,h.ends,h.one,h.src,fun j a hj ha ham q hq hk=>?_⟩
  ·have:=hmon a ha
   have:=(h.pos q hq).2
   omega
  ·rcases Nat.lt_or_ge j i with hji | hji
   ·exact h.clo j a hji ha ham q hq hk
   ·obtain rfl:j=i:=by omega
    rw [hp] at ha
    obtain rfl:p=a:=Option.some.inj ha
    omega
theorem DepJ.start (hm:1≤most) (l:List Txt):DepJ S most (endsL S l) 0 (addL S 1 [] (endsM S l)):=by
 have hI:DptI S (addL S 1 [] (endsM S l)):=addL_I _ DptI.nil
 rw [ends_ones] at hI ⊢
 have h1 : ∀ p∈(endsL S l).map (fun x=>(⟨x,1⟩:DpL)),p.n=1∧p.id∈endsL S l:=fun p hp=>by
  obtain ⟨x,hx,rfl⟩:=List.mem_map.1 hp
  exact ⟨rfl,hx⟩
 have h2 : ∀ (j:Nat) (p:DpL),((endsL S l).map (fun x=>(⟨x,1⟩:DpL)))[j]?=some p→p.n=1:=fun j p hp=>(h1 p (List.mem_of_getElem? hp)).1
 refine ⟨hI,fun p hp=>?_,fun j k p q _ hp hq=>?_,fun p hp q hq=>?_,fun j p hp=>?_,fun e he=>List.mem_map.2 ⟨e,he,rfl⟩,fun p hp _=>(h1 p hp).2,fun d hd hd1=>?_,fun j p hj=>by omega⟩
 ·rw [(h1 p hp).1];omega
 ·rw [h2 j p hp,h2 k q hq];omega
 ·rw [h2 0 p hp,(h1 q hq).1];omega
 ·rw [h2 j p hp];omega
 ·rw [(h1 d hd).1] at hd1;omega
theorem depJ_end {E:List Txt} : ∀ (f i:Nat) {D:List DpL},DepJ S most E i D→f+i=S.length+1 → ∃ k,(docQ S most f i D).length≤k∧DepJ S most E k (docQ S most f i D)
 | 0,i,D,h,hf=>⟨i,by have:=h.inv.len;show D.length≤i;omega,h⟩
 | f+1,i,D,h,hf=>by
   cases hp:D[i]? with
   | none=>
     have hl:=List.getElem?_eq_none_iff.1 hp
     rw [doc_end hl]
     exact ⟨i,hl,h⟩
   | some p=>rw [doc_go hp];exact depJ_end f (i+1) (h.step hp) (by omega)
structure DepT (S:List StL) (most:Nat) (E:List Txt) (D:List DpL):Prop where
 inv:DptI S D
 pos : ∀ p∈D,1≤p.n∧p.n≤most
 few : ∀ p∈D,p.n≤S.length
 ends : ∀ e∈E,(⟨e,1⟩:DpL)∈D
 one : ∀ p∈D,p.n=1→p.id∈E
 src : ∀ d∈D,1<d.n → ∃ p∈D,p.n+1=d.n∧d.id∈parS S p.id
 clo : ∀ p∈D,p.n<most → ∀ q∈parS S p.id,kindS S q=3 → ∃ d∈D,d.id=q∧d.n≤p.n+1
theorem depS_law (hm:1≤most) (l:List Txt):DepT S most (endsL S l) (depS S most (endsM S l)):=by
 obtain ⟨k,hk,h⟩:=depJ_end (S.length+1) 0 (DepJ.start (S:=S) hm l) rfl
 refine ⟨h.inv,h.pos,fun p hp=>?_,h.ends,h.one,h.src,fun p hp=>?_⟩
 ·obtain ⟨j,hj,he⟩:=List.mem_iff_getElem.1 hp
  have h1:=h.few j p (by rw [←he];exact List.getElem?_eq_getElem hj)
  have:=h.inv.len
  have hj':j<(docQ S most (S.length+1) 0 (addL S 1 [] (endsM S l))).length:=hj
  omega
 ·obtain ⟨j,hj,he⟩:=List.mem_iff_getElem.1 hp
  have hj':j<(docQ S most (S.length+1) 0 (addL S 1 [] (endsM S l))).length:=hj
  exact h.clo j p (by omega) (by rw [←he];exact List.getElem?_eq_getElem hj)
theorem offerS_has {seen:List Txt} {q:Txt} (hk:kindS S q=3):q∈offerS S seen q:=by
 unfold offerS
 split
 ·exact List.mem_append_right _ (List.mem_singleton.2 rfl)
 ·rename_i h
  rw [Bool.and_eq_true] at h
  cases hi:inL seen q with
  | true=>exact inL_iff.1 hi
  | false=>exact absurd ⟨by rw [hi];rfl,by rw [hk];rfl⟩ h
theorem offerL_has : ∀ (l:List Txt) {seen:List Txt},seen.Nodup→(∀ x∈seen,kindS S x=3) → ∀ q∈l,kindS S q=3→q∈offerL S seen l
 | [],seen,_,_,q,hq,_=>by cases hq
 | p::l,seen,hn,h3,q,hq,hk=>by
   obtain ⟨a1,a2,a3,_⟩:=zD9 hn h3 p
   obtain ⟨_,_,b3,_⟩:=zCq l a1 a2
   rcases List.mem_cons.1 hq with rfl | hq
   ·exact b3 _ (offerS_has hk)
   ·exact offerL_has l a1 a2 q hq hk
structure WalkK (S:List StL) (cut E seen out:List Txt):Prop where
 i:WalkI S seen out
 e : ∀ x∈E,x∈seen
 c : ∀ x∈out,inL cut x=false → ∀ q∈parS S x,kindS S q=3→q∈seen
 m : ∀ P:Txt→Prop,(∀ x∈E,P x)→(∀ x,P x→inL cut x=false → ∀ q∈parS S x,kindS S q=3→P q) → ∀ x∈seen,P x
theorem WalkK.step {cut E seen out:List Txt} (h:WalkK S cut E seen out) {n:Txt} (hn:n∈leftW seen out):WalkK S cut E (if inL cut n=true then seen else offerL S seen (parS S n)) (out++[n]):=by
 have hns:=(zES.1 hn).1
 have hi:=h.i.step (cut:=cut) hn
 by_cases hc:inL cut n=true
 ·rw [if_pos hc] at hi ⊢
  refine ⟨hi,h.e,fun x hx hx2=>?_,h.m⟩
  rcases List.mem_append.1 hx with hx | hx
  ·exact h.c x hx hx2
  ·rw [List.mem_singleton.1 hx,hc] at hx2;cases hx2
 ·rw [if_neg hc] at hi ⊢
  obtain ⟨a1,a2,a3,a4⟩:=zCq (S:=S) (parS S n) h.i.nd h.i.k3
  refine ⟨hi,fun x hx=>a3 x (h.e x hx),fun x hx hx2 q hq hk=>?_,fun P p1 p2 x hx=>?_⟩
  ·rcases List.mem_append.1 hx with hx | hx
   ·exact a3 q (h.c x hx hx2 q hq hk)
   ·rw [List.mem_singleton.1 hx] at hq
    exact offerL_has _ h.i.nd h.i.k3 q hq hk
  ·rcases a4 x hx with h1 | h1
   ·exact h.m P p1 p2 x h1
   ·exact p2 n (h.m P p1 p2 n hns) (by simpa using hc) x h1 (a2 x hx)
theorem walkK_end {cut E:List Txt} : ∀ (f:Nat) {seen out:List Txt},WalkK S cut E seen out→S.length+1≤f+out.length→WalkK S cut E (walkW S cut f seen out) (walkW S cut f seen out)
 | 0,seen,out,h,hf=>by have:=h.i.len.2;omega
 | f+1,seen,out,h,hf=>by
   cases hb:bestT S seen out with
   | none=>
     rw [walk_stop hb]
     have hl:=best_none hb
     have hso : ∀ x∈seen,x∈out:=fun x hx=>by
      by_cases ho:x∈out
      ·exact ho
      ·have:x∈leftW seen out:=zES.2 ⟨hx,ho⟩
       rw [hl] at this
       cases this
     exact ⟨⟨h.i.ndo,fun x hx=>h.i.k3 x (h.i.sub x hx),fun x hx=>hx,h.i.ndo⟩,fun x hx=>hso x (h.e x hx),fun x hx h2 q hq hk=>hso q (h.c x hx h2 q hq hk),fun P p1 p2 x hx=>h.m P p1 p2 x (h.i.sub x hx)⟩
   | some n=>
     rw [walkW_go hb]
     exact walkK_end f (h.step (best_some hb).1) (by rw [List.length_append,List.length_singleton];omega)
theorem walkS_K (S:List StL) (cut ini:List Txt):WalkK S cut (endsL S ini) (walkS S cut ini) (walkS S cut ini):=
 walkK_end (S.length+1) ⟨WalkI.start ini,fun x hx=>hx,(fun x hx=>by cases hx),fun P p1 _ x hx=>p1 x hx⟩ (by simp)
theorem dep_id {p q:DpL} (h:DptI S D) (hp:p∈D) (hq:q∈D) (he:p.id=q.id):p=q:=by
 obtain ⟨i,hi,h1⟩:=List.mem_iff_getElem.1 hp
 obtain ⟨j,hj,h2⟩:=List.mem_iff_getElem.1 hq
 have hnd:=List.pairwise_iff_getElem.1 h.nd
 have hi':i<(D.map DpL.id).length:=by rw [List.length_map];exact hi
 have hj':j<(D.map DpL.id).length:=by rw [List.length_map];exact hj
 have e1:(D.map DpL.id)[i]=p.id:=by rw [List.getElem_map,h1]
 have e2:(D.map DpL.id)[j]=q.id:=by rw [List.getElem_map,h2]
 have hij:i=j:=by
  rcases Nat.lt_trichotomy i j with h3 | h3 | h3
  ·exact absurd (by rw [e1,e2];exact he) (hnd i j hi' hj' h3)
  ·exact h3
  ·exact absurd (by rw [e1,e2];exact he.symm) (hnd j i hj' hi' h3)
 subst hij
 rw [←h1,←h2]
theorem cut_walk {E sh:List Txt} {W:List Txt} (h:DepT S most E D) (hW:WalkK S sh E W W) (hsh : ∀ x,x∈sh ↔ ∃ p∈D,p.id=x ∧ ¬ p.n<most∧parS S x≠[]) (x:Txt):x∈W↔x∈D.map DpL.id:=by
 constructor
 ·refine hW.m (fun x=>x∈D.map DpL.id) (fun e he=>List.mem_map.2 ⟨_,h.ends e he,rfl⟩) (fun y hy hc q hq hk=>?_) x
  obtain ⟨p,hp,rfl⟩:=List.mem_map.1 hy
  by_cases hn:p.n<most
  ·obtain ⟨d,hd,he,_⟩:=h.clo p hp hn q hq hk
   exact List.mem_map.2 ⟨d,hd,he⟩
  ·have:p.id∈sh:=(hsh _).2 ⟨p,hp,rfl,hn,fun e=>by rw [e] at hq;cases hq⟩
   rw [inL_iff.2 this] at hc
   cases hc
 ·intro hx
  obtain ⟨p,hp,rfl⟩:=List.mem_map.1 hx
  have : ∀ (k:Nat) (p:DpL),p∈D→p.n=k+1→p.id∈W:=by
   intro k
   induction k with
   | zero=>exact fun p hp hk=>hW.e _ (h.one p hp hk)
   | succ k ih=>
     intro p hp hk
     obtain ⟨q,hq,h1,h2⟩:=h.src p hp (by omega)
     refine hW.c q.id (ih q hq (by omega)) ?_ p.id h2 (h.inv.k3 p hp)
     cases hc:inL sh q.id with
     | false=>rfl
     | true=>
       obtain ⟨r,hr,he,hn,_⟩:=(hsh _).1 (inL_iff.1 hc)
       obtain rfl:=dep_id h.inv hr hq he
       have:=(h.pos p hp).2
       omega
  exact this (p.n-1) p hp (by have:=(h.pos p hp).1;omega)
end
end
section
section
variable {S:List StL} {L L2 L3:List DpL} {n:Nat} {ini:List Txt}
theorem rise_sort {l m:List Txt} (hm:RiseL m) (h : ∀ x,x∈l↔x∈m):sortU l=m:=zCY (zBz l).1 hm fun x=>by rw [(zBz l).2,h]
theorem cuts_cut (h1:1≤n) (hL:DptS L2 (depS S n (endsM S ini))) (hL3:DptS L3 (depS S n (endsM S ini))):sortU (walkS S (shalL S L3 n) ini)=L2.map DpL.id:=by
 refine rise_sort (rise_all hL.sorted) fun x=>?_
 rw [(hL.perm.map DpL.id).mem_iff]
 refine cut_walk (depS_law h1 ini) (walkS_K S _ ini) (fun y=>?_) x
 unfold shalL shalP
 rw [List.mem_map]
 constructor
 ·rintro ⟨p,hp,rfl⟩
  obtain ⟨h2,h3⟩:=List.mem_filter.1 hp
  rw [Bool.and_eq_true] at h3
  exact ⟨p,hL3.perm.mem_iff.1 h2,rfl,by simpa using h3.1,by simpa using h3.2⟩
 ·rintro ⟨p,hp,rfl,h2,h3⟩
  exact ⟨p,List.mem_filter.2 ⟨hL3.perm.mem_iff.2 hp,by simp [h2,h3]⟩,rfl⟩
theorem cuts_whole (hS:S.length<n) (h1:1≤n) (hL:DptS L (depS S n (endsM S ini))):sortU (walkS S [] ini)=L.map DpL.id:=by
 refine rise_sort (rise_all hL.sorted) fun x=>?_
 rw [(hL.perm.map DpL.id).mem_iff]
 have hT:=depS_law (S:=S) h1 ini
 refine cut_walk hT (walkS_K S _ ini) (fun y=>⟨fun h=>(by cases h),fun ⟨p,hp,_,h2,_⟩=>?_⟩) x
 have:=hT.few p hp
 omega
theorem cuts_par (hS:S.length<n) (h1:1≤n) (hL:DptS L (depS S n (endsM S ini))) {p:DpL} (hp:p∈L) {q:Txt} (hq:q∈parS S p.id) (hk:kindS S q=3):1≤atD L q∧atD L q≤p.n+1:=by
 have hT:=depS_law (S:=S) h1 ini
 have hpm:=hL.perm.mem_iff.1 hp
 obtain ⟨d,hd,rfl,hn⟩:=hT.clo p hpm (by have:=hT.few p hpm;omega) q hq hk
 have hnd:(L.map DpL.id).Nodup:=(hL.perm.map DpL.id).nodup_iff.2 hT.inv.nd
 rw [atD_mem hnd (hL.perm.mem_iff.2 hd)]
 exact ⟨(hT.pos d hd).1,hn⟩
end
end
section
attribute [local go_sem ↓] ldvI_eq ldvS_eq
end
theorem StIs.putI {x:StL} (h:StIs x):putI x.text=x.id:=by
 obtain ⟨h1,o,ho⟩:=h
 unfold Go.Proofs.YtbhdfaadedlcfaaGreatDoor.putI
 rw [ho];exact h1.symm
theorem StIs.putC {x:StL} (h:StIs x):putC x.text=0:=by
 obtain ⟨h1,o,ho⟩:=h
 unfold Go.Proofs.YtbhdfaadedlcfaaGreatDoor.putC
 rw [ho]
theorem StIs.putS {x:StL} (h:StIs x) (s:List StL):putS s x.text=if hasK StL.id s x.id then s else insK StL.id s x:=by
 obtain ⟨h1,o,ho⟩:=h
 unfold Go.Proofs.YtbhdfaadedlcfaaGreatDoor.putS
 rw [ho]
 simp only [←h1]
theorem sorted_split {s:List StL} {x:StL} {k:Nat} (h:SortedK StL.id s) (hx:s[k]?=some x):(∀ y∈s.take k,Op.bytesLess y.id x.id=true) ∧ ∀ y∈s.drop (k+1),Op.bytesLess x.id y.id=true:=by
 have hlt:=(List.getElem?_eq_some_iff.1 hx).1
 have e:s=s.take k++x::s.drop (k+1):=by
  rw [←(List.getElem?_eq_some_iff.1 hx).2,←List.drop_eq_getElem_cons hlt,List.take_append_drop]
 unfold SortedK at h
 rw [e,List.pairwise_append] at h
 exact ⟨fun y hy=>h.2.2 y hy x (by simp),fun y hy=>(List.pairwise_cons.1 h.2.1).1 y hy⟩
theorem zDh {α:Type} {p:α→Bool} : ∀ {l:List α},(∀ y∈l,p y=true)→l.takeWhile p=l
 | [],_=>rfl
 | y::l,h=>by rw [List.takeWhile_cons,if_pos (h y (by simp)),zDh fun z hz=>h z (by simp [hz])]
theorem putS_rise {s:List StL} (h:StoOk s) {k:Nat} {x:StL} (hx:s[k]?=some x):putS (s.take k) x.text=s.take (k+1):=by
 have hl:=(sorted_split h.sorted hx).1
 rw [(h.each x (List.mem_of_getElem? hx)).putS,if_neg,insK,show posK StL.id (s.take k) (StL.id x)=(s.take k).length by unfold posK;rw [zDh hl],List.take_length,List.drop_length,List.append_nil,List.take_add_one,hx]
 ·rfl
 ·unfold hasK
  rw [Bool.not_eq_true,List.any_eq_false]
  intro y hy
  rw [less_ne (hl y hy)]
  simp
theorem StoOk.take {s:List StL} (h:StoOk s) (k:Nat):StoOk (s.take k):=⟨fun x hx=>h.each x (List.mem_of_mem_take hx),h.sorted.sublist (List.take_sublist _ _),by rw [List.length_take];have:=h.few;omega⟩
theorem TabK.alloc_ {w:World} (h:TabK w) (o:Obj):TabK (w.alloc o):=h.below ((Below.refl _ _).alloc (Nat.le_refl _) o)
set_option maxRecDepth 100000 in
set_option maxHeartbeats 2000000 in
theorem objId_calls (s:Txt) (hs:s.length≤1000000000) (w:World) (hK:TabK w):Calls Tryz.prog 48 #[.string (B s)] w fun e w'=>e = .returned (.agg (u8s (shaOf s)))∧Below w.heap.size w w':=by
 have hzv:=zeroIdV
 have hzl:(u8s noId).size=32:=by rw [zAj,zAg]
 generalize u8s noId=Z at *
 obtain ⟨W1,hW1⟩ : ∃ W1,w.alloc (.cells Z 46)=W1:=⟨_,rfl⟩
 have hx1:Blk W1 w.heap.size 46 Z:=by rw [←hW1];exact Blk.new _ _ _
 have b1:Below w.heap.size w W1:=by rw [←hW1];exact (Below.refl _ _).alloc (Nat.le_refl _) _
 obtain ⟨W2,hW2⟩ : ∃ W2,W1.alloc (.cells #[.string (B s)] 9)=W2:=⟨_,rfl⟩
 have hb2:Below W1.heap.size W1 W2:=by rw [←hW2];exact (Below.refl _ _).alloc (Nat.le_refl _) _
 have hy2:Blk W2 W1.heap.size 9 #[.string (B s)]:=by rw [←hW2];exact Blk.new _ _ _
 have hx2:=hx1.below hb2 hx1.lt
 have b2:=bthen b1 b1.size hb2
 have hK2:TabK W2:=by rw [←hW2,←hW1];exact (hK.alloc_ _).alloc_ _
 have hst:Strs W2 (.slice (some ⟨W1.heap.size,0,none⟩) 1 1) [s] := .inr ⟨W1.heap.size,0,1,rfl,fun j l hj=>by
  match j,hj with
  | 0,hj=>
    injection hj with hj
    subst hj
    rw [hy2.cell];rfl
  | j+1,hj=>simp at hj,hy2.lt,by simp,by simp⟩
 have hsum:=sum_calls [s] _ W2 hK2 hst (by simp;omega)
 have hfl:[s].flatten=s:=by simp
 rw [hfl] at hsum
 have hsum:=Lib.hid hsum
 have hl:=zBb s
 have hsz:(Tryz.prog.info? 46).map (·.size)=some (u8s (shaOf s)).size:=by rw [zAj,hl];exact sz32
 have h32:(u8s (shaOf s)).size=32:=by rw [zAj,hl]
 have hone:=u8s_one (shaOf s)
 obtain ⟨D,hD⟩ : ∃ D,Hid (u8s (shaOf s)=D):=⟨_,Lib.hid rfl⟩
 rw [hD.out] at hsum hsz h32 hone
 clear hy2 hK2 hst hfl hl hx1 b1 hb2
 go_enter Tryz.func48,Tryz.ntmps48
 go_wp2_with (first
  | ((with_reducible refine hsum.out.mono ?_);rintro e w3 ⟨rfl,hb3⟩
     have hx3:=hx2.below hb3 hx2.lt
     have b3:=bthen b2 b2.size hb3
     clear hsum hW1 hW2)
  | (refine wpList_store_row rfl 46 (.tmp 2) (.tmp 5) rfl w.heap.size D rfl rfl _ _ hx3 hsz (by rw [hzl,h32]) hone ?_))
 exact bodyPost_ret (results_cell_row rfl _ _ w.heap.size _ _ _ _ rfl (setRow_heap _ _ _ _ _ _ hx3) Tryz.underlying46 rfl hsz) rfl ⟨by rw [hD.out],zAa b3 (Nat.le_refl _) _⟩
section
attribute [local go_sem ↓] ldvI_eq ldvO_eq
def PutAt (w:World) (base p:Nat) (vl:Value) (s':List StL) (w':World):Prop := ∃ vl',StoAt w' base p vl' s'∧Far [some p,vl.ownBlock] w w'∧Newer w vl vl'
set_option maxRecDepth 100000 in
set_option maxHeartbeats 8000000 in
theorem stoPut_calls {w:World} {base p:Nat} {vl:Value} {s:List StL} (hB:base≤w.heap.size) (h:StoAt w base p vl s) (t:Txt) (ht:t.length≤1000000) (hK:TabK w) (hf:s.length<500000) :
 Calls Tryz.prog 26 #[.pointer (some ⟨p,0,none⟩), .string (B t)] w fun e w'=>e = .returned (.tuple #[.agg (u8s (putI t)), .int .i64 (putC t)])∧PutAt w base p vl (putS s t) w':=by
 have hzI:=zeroIdV
 have hrb:=fun W=>run_build (P:=Tryz.prog) W _ _ _ zBS
 have hZ32:(u8s noId).size=32:=by rw [zAj,zAg]
 have hZone:=u8s_one noId
 obtain ⟨W0,hW0⟩ : ∃ W0,w.alloc (.cells (u8s noId) 46)=W0:=⟨_,rfl⟩
 have z0:Blk W0 w.heap.size 46 (u8s noId):=by rw [←hW0];exact Blk.new _ _ _
 have b0:Below w.heap.size w W0:=by rw [←hW0];exact (Below.refl _ _).alloc (Nat.le_refl _) _
 have hsz : ∀ cs:Array Value,cs.size=32→(Tryz.prog.info? 46).map (·.size)=some cs.size:=fun cs h=>by rw [h];exact sz32
 have hde:=Lib.hid (zEw t (by omega) W0)
 have hzo:=zeroObj
 have hz72:=zAB
 have hplw:=h.lt
 have hD:=Lib.hid h
 have hn0:(List.replicate 32 (0:UInt8))=noId:=rfl
 cases hd:decO t with
 | none=>
   have hpi:putI t=noId:=by unfold putI;rw [hd];exact hn0
   have hpc:putC t=2:=by unfold putC;rw [hd]
   have hps:putS s t=s:=by unfold putS;rw [hd]
   rw [hpi,hpc,hps]
   rw [hd] at hde
   have hde:Hid (Calls Tryz.prog 47 #[.string (B t)] W0 fun e w'=>e = .returned (.tuple #[.agg zObj, .int .i64 2])∧Below W0.heap.size W0 w'):=hde
   have hzone:zObj.all (·.oneCell')=true:=zAr zeroO none none 0 0 0 0
   generalize u8s noId=Z at *
   generalize zObj=ZO at *
   clear hd hpi hpc hps hn0
   go_enter Tryz.func26,Tryz.ntmps26
   go_wp2_with (first
    | ((with_reducible refine hde.out.mono ?_);rintro e w1 ⟨rfl,bb1⟩
       have b1:=bthen b0 b0.size bb1
       have z1:=z0.below bb1 z0.lt)
    | ((with_reducible refine lit_new 59 (.tmp 6) (.tmp 17) ZO 72 szObj hz72 hzone _ ?_ ?_ ?_ ?_)
       ·first | exact hz72 | rfl
       ·rfl
       ·rfl
       intro W2 hb2 hbl2
       have b2:=bthen b1 b1.size hbl2
       have z2:=z1.below hbl2 z1.lt)
    | (refine wpList_store_row rfl 46 (.tmp 4) (.tmp 21) rfl w.heap.size Z rfl rfl _ _ z2 (hsz Z hZ32) rfl hZone ?_))
   refine bodyPost_ret (zAe rfl _ _ w.heap.size _ _ _ _ rfl (setRow_heap _ _ _ _ _ _ z2) Tryz.underlying46 rfl (hsz Z hZ32)) rfl ⟨rfl,?_⟩
   have hb:=zAa b2 (Nat.le_refl _) Z
   exact ⟨vl,hD.out.below hb,Far.of_below hb,Newer.refl _ _⟩
 | some o=>
   have hpi:putI t=shaOf t:=by unfold putI;rw [hd]
   have hpc:putC t=0:=by unfold putC;rw [hd]
   have hps:putS s t=if hasK StL.id s (shaOf t) then s else insK StL.id s ⟨shaOf t,t⟩:=by unfold putS;rw [hd]
   have hokP:=h.ok.put t hf
   rw [hpi,hpc]
   rw [hps] at hokP ⊢
   rw [hd] at hde
   have hde:Hid (Calls Tryz.prog 47 #[.string (B t)] W0 fun e w'=>(∃ A1 A2 k1 k2,e = .returned (.tuple #[.agg (objC o (.slice A1 o.ents.length k1) (.slice A2 o.pars.length k2)).toArray, .int .i64 0])∧ObjV w' (.slice A1 o.ents.length k1) (.slice A2 o.pars.length k2) o)∧Below W0.heap.size W0 w'):=Lib.hid (hde.out.mono fun e w' ⟨⟨A1,A2,k1,k2,h1,h2,_⟩,hb⟩=>⟨⟨A1,A2,k1,k2,h1,h2⟩,hb⟩)
   have hid:=fun W (hb:Below w.heap.size w W)=>objId_calls t (by omega) W (hK.below hb)
   have hn32:=zBb t
   have hxok:StitOk ⟨shaOf t,t⟩:=⟨hn32,by show t.length≤_;omega⟩
   obtain ⟨n,hn⟩ : ∃ n,shaOf t=n:=⟨_,rfl⟩
   rw [hn] at hid hn32 hxok hokP ⊢
   have hN32:(u8s n).size=32:=by rw [zAj,hn32]
   have hNone:=u8s_one n
   have hsI:(Tryz.prog.info? 46).map (·.size)=some (u8s n).toList.length:=by rw [zAI,hn32];exact sz32
   have hldn : ∀ W g,Blk W g 46 (u8s n)→(ldvI ⟨g,0,none⟩).run Tryz.prog W = .ok (.agg (u8s n)) W:=fun W g hb=>by
    have:=run_loadVar_mid (P:=Tryz.prog) W g 0 46 (u8s n).toList _ (zAi hb) Tryz.underlying46 rfl hsI
    rwa [Array.toArray_toList] at this
   have hpl:=fun W (hb:Below w.heap.size w W)=>zDf (hD.out.below hb) n hn32
   have hPle:posK StL.id s n≤s.length:=posK_le
   have hZ32':(u8s noId).size=(u8s n).size:=by rw [hZ32,hN32]
   clear hd hpi hpc hps hn0 hn
   cases hh:hasK StL.id s n with
   | true=>
     rw [hh] at hpl hokP
     simp only [if_true] at hokP ⊢
     generalize posK StL.id s n=P at *
     go_enter Tryz.func26,Tryz.ntmps26
     go_wp2_with (first
      | ((with_reducible refine hde.out.mono ?_);rintro e w1 ⟨⟨A1,A2,k1,k2,rfl,hv1⟩,bb1⟩
         have b1:=bthen b0 b0.size bb1
         have z1:=z0.below bb1 z0.lt
         have hc72:(objC o (.slice A1 o.ents.length k1) (.slice A2 o.pars.length k2)).toArray.size=72:=by rw [List.size_toArray,zAv hv1.ok]
         have hcone:=zAr o A1 A2 o.ents.length k1 o.pars.length k2)
      | ((with_reducible refine lit_new 59 (.tmp 6) (.tmp 17) (objC o (.slice A1 o.ents.length k1) (.slice A2 o.pars.length k2)).toArray 72 szObj hc72 hcone _ ?_ ?_ ?_ ?_)
         ·first | exact hz72 | rfl
         ·rfl
         ·rfl
         intro W2 hb2 hbl2
         have b2:=bthen b1 b1.size hbl2
         have z2:=z1.below hbl2 z1.lt)
      | ((with_reducible refine (hid _ b2).mono ?_);rintro e w3 ⟨rfl,bb3⟩
         have b3:=bthen b2 b2.size bb3
         have z3:=z2.below bb3 z2.lt)
      | ((with_reducible refine lit_new 46 (.tmp 8) (.tmp 23) (u8s n) 32 sz32 hN32 hNone _ ?_ ?_ ?_ ?_)
         ·first | exact hZ32 | rfl
         ·rfl
         ·rfl
         intro W4 hb4 hbl4
         have b4:=bthen b3 b3.size hbl4
         have z4:=z3.below hbl4 z3.lt
         have ld4:=hldn _ _ hb4)
      | ((with_reducible refine (hpl _ b4).mono ?_);rintro e w5 ⟨rfl,bb5⟩
         have b5:=bthen b4 b4.size bb5
         have z5:=z4.below bb5 z4.lt
         have ld5:=hldn _ _ (hb4.below bb5 hb4.lt))
      | (refine wpList_store_row rfl 46 (.tmp 4) (.tmp 45) rfl w.heap.size (u8s n) rfl rfl _ _ z5 (hsz _ hN32) hZ32' hNone ?_))
     refine bodyPost_ret (zAe rfl _ _ w.heap.size _ _ _ _ rfl (setRow_heap _ _ _ _ _ _ z5) Tryz.underlying46 rfl (hsz _ hN32)) rfl ⟨rfl,?_⟩
     have hb:=zAa b5 (Nat.le_refl _) (u8s n)
     exact ⟨vl,hD.out.below hb,Far.of_below hb,Newer.refl _ _⟩
   | false=>
     rw [hh] at hpl hokP
     simp only [Bool.false_eq_true,if_false] at hokP ⊢
     unfold insK at hokP ⊢
     simp only at hokP ⊢
     generalize posK StL.id s n=P at *
     obtain ⟨s',hs'⟩ : ∃ s',s.take P++[(⟨n,t⟩:StL)]++s.drop P=s':=⟨_,rfl⟩
     rw [hs'] at hokP ⊢
     have HS:=Lib.hid hs'
     clear hs'
     go_enter Tryz.func26,Tryz.ntmps26
     go_upto_region 9 with (first
      | ((with_reducible refine hde.out.mono ?_);rintro e w1 ⟨⟨A1,A2,k1,k2,rfl,hv1⟩,bb1⟩
         have b1:=bthen b0 b0.size bb1
         have z1:=z0.below bb1 z0.lt
         have hc72:(objC o (.slice A1 o.ents.length k1) (.slice A2 o.pars.length k2)).toArray.size=72:=by rw [List.size_toArray,zAv hv1.ok]
         have hcone:=zAr o A1 A2 o.ents.length k1 o.pars.length k2)
      | ((with_reducible refine lit_new 59 (.tmp 6) (.tmp 17) (objC o (.slice A1 o.ents.length k1) (.slice A2 o.pars.length k2)).toArray 72 szObj hc72 hcone _ ?_ ?_ ?_ ?_)
         ·first | exact hz72 | rfl
         ·rfl
         ·rfl
         intro W2 hb2 hbl2
         have b2:=bthen b1 b1.size hbl2
         have z2:=z1.below hbl2 z1.lt)
      | ((with_reducible refine (hid _ b2).mono ?_);rintro e w3 ⟨rfl,bb3⟩
         have b3:=bthen b2 b2.size bb3
         have z3:=z2.below bb3 z2.lt)
      | ((with_reducible refine lit_new 46 (.tmp 8) (.tmp 23) (u8s n) 32 sz32 hN32 hNone _ ?_ ?_ ?_ ?_)
         ·first | exact hZ32 | rfl
         ·rfl
         ·rfl
         intro W4 hb4 hbl4
         have b4:=bthen b3 b3.size hbl4
         have z4:=z3.below hbl4 z3.lt
         have hgI:w.heap.size≤w3.heap.size:=b3.size
         have ld4:=hldn _ _ hb4)
      | ((with_reducible refine (hpl _ b4).mono ?_);rintro e w0 ⟨rfl,bb5⟩
         have b5:=bthen b4 b4.size bb5
         have z5:=z4.below bb5 z4.lt
         have hI5:=hb4.below bb5 hb4.lt))
     have hgI0:=z3.lt
     obtain ⟨gI,hgIe⟩ : ∃ gI,w3.heap.size=gI:=⟨_,rfl⟩
     rw [hgIe] at hI5 hgI0 ⊢
     have hD0:=hD.out.below b5
     have hplw2:p<w.heap.size:=hplw
     have hlv0 : ∀ q,vl.ownBlock=some q→q<w.heap.size:=fun q hq=>(World.ownsRow.lt hD.out.own q hq).2
     have hok:=hD.out.ok
     have hB:base≤w0.heap.size:=Nat.le_trans hB b5.size
     replace hD:=Lib.hid hD0
     have hlv : ∀ q,vl.ownBlock=some q→q<w0.heap.size:=fun q hq=>(World.ownsRow.lt hD.out.own q hq).2
     have hPl:=hPle
     have ldn:=fun W (hW:Below w0.heap.size w0 W)=>hldn W gI (hI5.below hW hI5.lt)
     clear hde hid hpl b0 b1 b2 b3 b4 z0 z1 z2 z3 z4 ld4 bb1 bb3 bb5 hv1 hc72 hcone hb2 hbl2 hb4 hbl4 hW0 hD0 hgIe hplw hPle hh hK
     obtain ⟨V,hV⟩ : ∃ V:Nat→Value,V=fun i=>[(.pointer (some ⟨p,0,none⟩)),(.pointer (some ⟨p,0,none⟩)),(.pointer (some ⟨p,0,none⟩)),(.pointer (some ⟨p,0,none⟩)),vl,(.int .i64 P),(.agg (u8s n)),(.string (B t)),(.agg (stitC ⟨n,t⟩).toArray),undef,undef,(.pointer (some ⟨p,0,none⟩)),(.pointer (some ⟨p,0,none⟩)),undef].getD i undef:=⟨_,rfl⟩
     have v0:V 0=(.pointer (some ⟨p,0,none⟩)):=by rw [hV];rfl
     have v1:V 1=(.pointer (some ⟨p,0,none⟩)):=by rw [hV];rfl
     have v2:V 2=(.pointer (some ⟨p,0,none⟩)):=by rw [hV];rfl
     have v3:V 3=(.pointer (some ⟨p,0,none⟩)):=by rw [hV];rfl
     have v4:V 4=vl:=by rw [hV];rfl
     have v5:V 5=(.int .i64 P):=by rw [hV];rfl
     have v6:V 6=(.agg (u8s n)):=by rw [hV];rfl
     have v7:V 7=(.string (B t)):=by rw [hV];rfl
     have v8:V 8=(.agg (stitC ⟨n,t⟩).toArray):=by rw [hV];rfl
     have v11:V 11=(.pointer (some ⟨p,0,none⟩)):=by rw [hV];rfl
     have v12:V 12=(.pointer (some ⟨p,0,none⟩)):=by rw [hV];rfl
     have v13:V 13=undef:=by rw [hV];rfl
     clear hV
     refine zA5 (C:=StPutC w0 base p vl s') (R:=StPutR V w0 base vl ⟨n,t⟩ s') (by kernel_rfl) (by kernel_rfl) (by kernel_rfl) ?_ (StPutC.start w0).drew ?_ ?_
     ·exact zA7 (n:=46) (by kernel_rfl)
     ·intro i o listed a w1 ho hi hL
      have hin:=(zAt hi).1
      have hsz:listed.size=14:=hL.size
      match i,ho with
      | 0,ho=>
        obtain rfl:=(Option.some.inj ho).symm
        have e0:a.tmps[0]?.getD undef=(.pointer (some ⟨p,0,none⟩)):=(zAk a 0).trans (hL.get_old hi (by kernel_rfl))
        have hc:=hL.cls
        refine step_wp rfl rfl ?_
        clear ho hL
        refine wp_val (v:=(.pointer (some ⟨p,0,none⟩))) ?_ ⟨_,rfl,StPutR.mk (by decide) v0.symm,hc.same (by rw [hsz];decide) (by decide),fun _ _ _ h=>h⟩
        clear hi hin hsz v0 v1 v2 v3 v4 v5 v6 v7 v8 v11 v12 v13  hc
        unfold execOp
        go_simp
      | 1,ho=>
        obtain rfl:=(Option.some.inj ho).symm
        have e0:a.tmps[0]?.getD undef=(.pointer (some ⟨p,0,none⟩)):=(zAk a 0).trans (hL.get_old hi (by kernel_rfl))
        have hc:=hL.cls
        refine step_wp rfl rfl ?_
        clear ho hL
        refine wp_val (v:=(.pointer (some ⟨p,0,none⟩))) ?_ ⟨_,rfl,StPutR.mk (by decide) v1.symm,hc.same (by rw [hsz];decide) (by decide),fun _ _ _ h=>h⟩
        clear hi hin hsz v0 v1 v2 v3 v4 v5 v6 v7 v8 v11 v12 v13  hc
        unfold execOp
        go_simp
      | 2,ho=>
        obtain rfl:=(Option.some.inj ho).symm
        have e0:a.tmps[33]?.getD undef=(.pointer (some ⟨p,0,none⟩)):=(zAk a 33).trans ((StPutR.at_ (hi:=by decide) (hL.get_new (j:=1) hi (by kernel_rfl))).trans v1)
        have hc:=hL.cls
        refine step_wp rfl rfl ?_
        clear ho hL
        refine wp_val (v:=(.pointer (some ⟨p,0,none⟩))) ?_ ⟨_,rfl,StPutR.mk (by decide) v2.symm,hc.same (by rw [hsz];decide) (by decide),fun _ _ _ h=>h⟩
        clear hi hin hsz v0 v1 v2 v3 v4 v5 v6 v7 v8 v11 v12 v13  hc
        unfold execOp
        go_simp
      | 3,ho=>
        obtain rfl:=(Option.some.inj ho).symm
        have e0:a.tmps[34]?.getD undef=(.pointer (some ⟨p,0,none⟩)):=(zAk a 34).trans ((StPutR.at_ (hi:=by decide) (hL.get_new (j:=2) hi (by kernel_rfl))).trans v2)
        have hc:=hL.cls
        refine step_wp rfl rfl ?_
        clear ho hL
        refine wp_val (v:=(.pointer (some ⟨p,0,none⟩))) ?_ ⟨_,rfl,StPutR.mk (by decide) v3.symm,hc.same (by rw [hsz];decide) (by decide),fun _ _ _ h=>h⟩
        clear hi hin hsz v0 v1 v2 v3 v4 v5 v6 v7 v8 v11 v12 v13  hc
        unfold execOp
        go_simp
      | 4,ho=>
        obtain rfl:=(Option.some.inj ho).symm
        have e0:a.tmps[35]?.getD undef=(.pointer (some ⟨p,0,none⟩)):=(zAk a 35).trans ((StPutR.at_ (hi:=by decide) (hL.get_new (j:=3) hi (by kernel_rfl))).trans v3)
        have hc:=hL.cls
        refine step_wp rfl rfl ?_
        have hL4:=hL.later (j:=10) hi (by kernel_rfl)
        clear ho hL
        refine wp_val (v:=vl) ?_ ⟨_,rfl,StPutR.mk (by decide) v4.symm,hc.same (by rw [hsz];decide) (by decide),fun _ _ _ h=>h⟩
        have hb0:=hc.a_ (hL4)
        have q:=(hD.out.below hb0).c0
        clear hi hin hsz v0 v1 v2 v3 v4 v5 v6 v7 v8 v11 v12 v13  hc
        unfold execOp
        go_simp
      | 5,ho=>
        obtain rfl:=(Option.some.inj ho).symm
        have e0:a.tmps[9]?.getD undef=(.int .i64 P):=(zAk a 9).trans (hL.get_old hi (by kernel_rfl))
        have hc:=hL.cls
        refine step_wp rfl rfl ?_
        clear ho hL
        refine wp_val (v:=(.int .i64 P)) ?_ ⟨_,rfl,StPutR.mk (by decide) v5.symm,hc.same (by rw [hsz];decide) (by decide),fun _ _ _ h=>h⟩
        clear hi hin hsz v0 v1 v2 v3 v4 v5 v6 v7 v8 v11 v12 v13  hc
        unfold execOp
        go_simp
      | 6,ho=>
        obtain rfl:=(Option.some.inj ho).symm
        have e0:a.tmps[8]?.getD undef=(.pointer (some ⟨gI,0,none⟩)):=(zAk a 8).trans (hL.get_old hi (by kernel_rfl))
        have hc:=hL.cls
        refine step_wp rfl rfl ?_
        have hL8:=hL.later (j:=8) hi (by kernel_rfl)
        have hL9:listed.getD 9 false=false:=hL.later2 hL8 (by kernel_rfl)
        have hL6:listed.getD 10 false=false:=hL.later2 hL9 (by kernel_rfl)
        clear ho hL
        refine wp_val (v:=(.agg (u8s n))) ?_ ⟨_,rfl,StPutR.mk (by decide) v6.symm,hc.same (by rw [hsz];decide) (by decide),fun _ _ _ h=>h⟩
        have hb0:=hc.a_ (hL6)
        have q:=ldn w1 hb0
        clear hi hin hsz v0 v1 v2 v3 v4 v5 v6 v7 v8 v11 v12 v13  hc
        unfold execOp
        go_simp
      | 7,ho=>
        obtain rfl:=(Option.some.inj ho).symm
        have e0:a.tmps[1]?.getD undef=(.string (B t)):=(zAk a 1).trans (hL.get_old hi (by kernel_rfl))
        have hc:=hL.cls
        refine step_wp rfl rfl ?_
        clear ho hL
        refine wp_val (v:=(.string (B t))) ?_ ⟨_,rfl,StPutR.mk (by decide) v7.symm,hc.same (by rw [hsz];decide) (by decide),fun _ _ _ h=>h⟩
        clear hi hin hsz v0 v1 v2 v3 v4 v5 v6 v7 v8 v11 v12 v13  hc
        unfold execOp
        go_simp
      | 8,ho=>
        obtain rfl:=(Option.some.inj ho).symm
        have e0:a.tmps[38]?.getD undef=(.agg (u8s n)):=(zAk a 38).trans ((StPutR.at_ (hi:=by decide) (hL.get_new (j:=6) hi (by kernel_rfl))).trans v6)
        have e1:a.tmps[39]?.getD undef=(.string (B t)):=(zAk a 39).trans ((StPutR.at_ (hi:=by decide) (hL.get_new (j:=7) hi (by kernel_rfl))).trans v7)
        have hc:=hL.cls
        refine step_wp rfl rfl ?_
        clear ho hL
        refine build_step rfl (built_stit ⟨n,t⟩ hxok.1) (parts2 (slot_is e0) (slot_is e1)) ⟨_,rfl,StPutR.mk (by decide) v8.symm,hc.same (by rw [hsz];decide) (by decide),fun _ _ _ h=>h⟩
      | 9,ho=>
        obtain rfl:=(Option.some.inj ho).symm
        have e0:a.tmps[40]?.getD undef=(.agg (stitC ⟨n,t⟩).toArray):=(zAk a 40).trans ((StPutR.at_ (hi:=by decide) (hL.get_new (j:=8) hi (by kernel_rfl))).trans v8)
        have hc:=hL.cls
        have hla:=hL.later (j:=10) hi (by kernel_rfl)
        have hb0:=hc.a_ hla
        clear ho hL
        refine step_wp rfl rfl ?_
        refine zCm rfl Tryz.stitTy (by decide) (zBc hxok) (.inl (slot_is e0)) ⟨_,rfl,StPutR.lit (Blk.new _ _ _) hb0.size,?_,fun j u _ h=>StPutR.far (S:=[]) h (Far.of_below ((Below.refl _ _).alloc (Nat.le_refl _) _)) (fun _ _ _=>by simp) (fun _ _ _=>by simp)⟩
        refine StPutC.same ⟨fun _=>hb0.alloc hb0.size _,fun e=>?_,fun e=>?_,?_⟩ (by rw [hsz];decide) (by decide)
        ·rw [hla] at e;cases e
        ·obtain ⟨v',h1,h2,h3,h4⟩:=hc.c_ e
         exact ⟨v',h1.alloc _,World.ownsRow.alloc h2 _,h3,h4.alloc _⟩
        ·exact Nat.le_trans hc.sz (by simp)
      | 10,ho=>
        obtain rfl:=(Option.some.inj ho).symm
        have e0:a.tmps[36]?.getD undef=vl:=(zAk a 36).trans ((StPutR.at_ (hi:=by decide) (hL.get_new (j:=4) hi (by kernel_rfl))).trans v4)
        have e1:a.tmps[37]?.getD undef=(.int .i64 P):=(zAk a 37).trans ((StPutR.at_ (hi:=by decide) (hL.get_new (j:=5) hi (by kernel_rfl))).trans v5)
        have e2:=hL.get_new (j:=9) (t:=41) hi (by kernel_rfl)
        have hc:=hL.cls
        have hla:listed.getD 10 false=false:=by rw [zAu (by rw [hsz];exact hin)];exact (zAt hi).2.1
        have hlb:=hL.later (j:=13) hi (by kernel_rfl)
        have hb0:=hc.a_ hla
        obtain ⟨b,h5,hb5,hge5⟩:=StPutR.litAt e2
        clear ho hL
        refine step_wp rfl rfl ?_
        have hins:=zEd s hok.ok (by have:=hok.few;omega) vl w1 base P b ⟨n,t⟩ hxok (Nat.le_trans hB hc.sz) (zAf hD.out.own hb0) hPl hb5 (fun e=>by have:=hlv _ e;omega)
        refine zDO rfl (vals := #[vl, .int .i64 P, .slice (some ⟨b,0,none⟩) 1 1]) (map3 (slot_is e0) (slot_is e1) h5) (by go_simp) hins ?_
        rintro e w2 ⟨v',rfl,hown2,hg2,hnw2⟩
        rw [HS.out] at hown2
        have hf2:Far [vl.ownBlock] w1 w2:=Far.of_grown hg2
        refine ⟨_,rfl,_,rfl,StPutR.ins hown2 ((Newer.refl w0 vl).then_ hnw2 hc.sz),?_,fun j u hj h=>StPutR.far h hf2 (fun q hq _ hm=>?_) (fun hj10 k hk hm=>?_)⟩
        ·refine ⟨fun e=>?_,fun _ _=>(Far.of_below hb0).then_ hf2 (fun k hk => .inl hk),fun e=>?_,Nat.le_trans hc.sz hf2.size⟩
         ·rw [zA0 (by rw [hsz];decide),if_pos rfl] at e;cases e
         ·rw [zA0 (by rw [hsz];decide),if_neg (by decide),hlb] at e;cases e
        ·simp only [List.mem_singleton] at hm
         have:=hlv q hm.symm
         omega
        ·subst hj10
         rw [hla] at hj;cases hj
      | 11,ho=>
        obtain rfl:=(Option.some.inj ho).symm
        have e0:a.tmps[32]?.getD undef=(.pointer (some ⟨p,0,none⟩)):=(zAk a 32).trans ((StPutR.at_ (hi:=by decide) (hL.get_new (j:=0) hi (by kernel_rfl))).trans v0)
        have hc:=hL.cls
        refine step_wp rfl rfl ?_
        clear ho hL
        refine wp_val (v:=(.pointer (some ⟨p,0,none⟩))) ?_ ⟨_,rfl,StPutR.mk (by decide) v11.symm,hc.same (by rw [hsz];decide) (by decide),fun _ _ _ h=>h⟩
        clear hi hin hsz v0 v1 v2 v3 v4 v5 v6 v7 v8 v11 v12 v13  hc
        unfold execOp
        go_simp
      | 12,ho=>
        obtain rfl:=(Option.some.inj ho).symm
        have e0:a.tmps[43]?.getD undef=(.pointer (some ⟨p,0,none⟩)):=(zAk a 43).trans ((StPutR.at_ (hi:=by decide) (hL.get_new (j:=11) hi (by kernel_rfl))).trans v11)
        have hc:=hL.cls
        refine step_wp rfl rfl ?_
        clear ho hL
        refine wp_val (v:=(.pointer (some ⟨p,0,none⟩))) ?_ ⟨_,rfl,StPutR.mk (by decide) v12.symm,hc.same (by rw [hsz];decide) (by decide),fun _ _ _ h=>h⟩
        clear hi hin hsz v0 v1 v2 v3 v4 v5 v6 v7 v8 v11 v12 v13  hc
        unfold execOp
        go_simp
      | 13,ho=>
        obtain rfl:=(Option.some.inj ho).symm
        have e0:a.tmps[44]?.getD undef=(.pointer (some ⟨p,0,none⟩)):=(zAk a 44).trans ((StPutR.at_ (hi:=by decide) (hL.get_new (j:=12) hi (by kernel_rfl))).trans v12)
        have e1:=hL.get_new (j:=10) (t:=42) hi (by kernel_rfl)
        have hc:=hL.cls
        have hla:listed.getD 10 false=true:=hL.before hi (by kernel_rfl)
        have hls:listed.getD 13 false=false:=(zAu (by rw [hsz];exact hin)).trans (zAt hi).2.1
        have hf0:=hc.b_ hla hls
        obtain ⟨hown2,hnw2⟩:=StPutR.insAt e1
        have hp1:Blk w1 p 108 #[vl]:=hf0.blk hD.out.blk (fun hm=>by simp only [List.mem_singleton] at hm;exact hD.out.ne hm.symm)
        have hvp : ∀ k,(a.eval (.tmp 42)).ownBlock=some k→some k ∉ [some p]:=fun k hk hm=>by
         simp only [List.mem_singleton] at hm
         injection hm with hm
         subst hm
         exact hnw2.ne hD.out.lt hD.out.ne hk
        obtain ⟨A2,c2,hform⟩:=zAm hown2
        have e2:a.tmps[42]?.getD undef = .slice A2 s'.length c2:=(zAk a 42).trans hform
        have c0:w1.cell? ⟨p,0,none⟩=some vl:=by rw [hp1.cell];rfl
        have f0:=hp1.frozen 0
        rw [hform] at hown2 hnw2 hvp
        have hf1:Far [some p] w1 (w1.setCell ⟨p,0,none⟩ (.slice A2 s'.length c2)):=(Far.refl _ _).set_ (p:=⟨p,0,none⟩) (.inl (by simp)) _
        have hown3:=hf1.own hown2 hvp
        have hH : ∀ u:Value,StPutC w0 base p vl s' (listed.setIfInBounds 13 true) (w1.setCell ⟨p,0,none⟩ (.slice A2 s'.length c2)):=fun _=>by
         refine ⟨fun e=>?_,fun _ e=>?_,fun _=>⟨_,hp1.set_ 0 _,hown3,hnw2,(hf0.mono (T:=[some p,vl.ownBlock]) fun k hk=>List.mem_cons_of_mem _ hk).then_ (T:=[some p]) hf1 (fun k hk => .inl (by simp only [List.mem_singleton] at hk;rw [hk];simp))⟩,Nat.le_trans hc.sz hf1.size⟩
         ·rw [zA0 (by rw [hsz];decide),if_neg (by decide),hla] at e;cases e
         ·rw [zA0 (by rw [hsz];decide),if_pos rfl] at e;cases e
        have hK : ∀ j u,listed.getD j false=true→StPutR V w0 base vl ⟨n,t⟩ s' j u w1→StPutR V w0 base vl ⟨n,t⟩ s' j u (w1.setCell ⟨p,0,none⟩ (.slice A2 s'.length c2)):=fun j u _ hju=>StPutR.far hju hf1 (fun q hq _ hm=>by
         simp only [List.mem_singleton] at hm
         injection hm with hm
         have:=hD.out.lt
         omega) (fun hj k hk hm=>by
         rw [hj] at hju
         simp only [List.mem_singleton] at hm
         injection hm with hm
         rw [hm] at hk
         exact (StPutR.insAt hju).2.ne hD.out.lt hD.out.ne hk)
        refine step_wp rfl rfl ?_
        clear hi ho hL hin hc hown2 hnw2 hown3 hvp e1 hform
        refine wp_skip (w':=w1.setCell ⟨p,0,none⟩ (.slice A2 s'.length c2)) ?_ ⟨_,rfl,StPutR.mk (by decide) v13.symm,hH undef,hK⟩
        clear hH hK v0 v1 v2 v3 v4 v5 v6 v7 v8 v11 v12 v13
        unfold execOp
        go_simp
      | (n+14),ho=>exact absurd hin (by simp)
     ·intro a w1 listed hL hall
      have hc:=hL.cls
      obtain ⟨vs,rfl,hR⟩:=hL.frame (by kernel_rfl) (zA7 (n:=46) (by kernel_rfl)) hall
      simp only [putAll,Act.put,List.setIfInBounds_toArray,List.set_cons_zero,List.set_cons_succ]
      simp only [Nat.zero_add,Nat.reduceAdd]
      obtain ⟨v',hp9,hown9,hnw9,hfar9⟩:=hc.c_ (hall 13 (by decide))
      clear hR hc hL
      have hgIn:some gI ∉ [some p,vl.ownBlock]:=fun hm=>by
       rcases List.mem_cons.1 hm with h1 | h1
       ·injection h1 with h1
        omega
       ·have h2:=hlv0 gI (List.mem_singleton.1 h1).symm
        omega
      have hgZn:some w.heap.size ∉ [some p,vl.ownBlock]:=fun hm=>by
       rcases List.mem_cons.1 hm with h1 | h1
       ·injection h1 with h1
        omega
       ·have h2:=hlv0 w.heap.size (List.mem_singleton.1 h1).symm
        omega
      have ld9:=hldn w1 gI (hfar9.blk hI5 hgIn)
      have z9:=hfar9.blk z5 hgZn
      go_wp2_with (first
       | (refine wpList_store_row rfl 46 (.tmp 4) (.tmp 45) rfl w.heap.size (u8s n) rfl rfl _ _ z9 (hsz _ hN32) hZ32' hNone ?_))
      refine bodyPost_ret (zAe rfl _ _ w.heap.size _ _ _ _ rfl (setRow_heap _ _ _ _ _ _ z9) Tryz.underlying46 rfl (hsz _ hN32)) rfl ⟨rfl,?_⟩
      have hf10:Far [some w.heap.size] w1 (w1.setRow w.heap.size (u8s n)):=⟨rfl,rfl,rfl,by simp,fun k _ hk=>setRow_other _ _ _ _ (fun e=>hk (by rw [e];simp))⟩
      have hne1:some p ∉ [some w.heap.size]:=fun hm=>by
       have:=List.mem_singleton.1 hm
       injection this with this
       omega
      have hne2 : ∀ k,v'.ownBlock=some k→some k ∉ [some w.heap.size]:=fun k hk hm=>by
       have h1:=List.mem_singleton.1 hm
       injection h1 with h1
       subst h1
       rcases hnw9 with h2 | h2
       ·have:=hlv0 _ (h2.symm.trans hk)
        omega
       ·have:=h2 _ hk
        have:=z5.lt
        omega
      refine ⟨v',⟨hf10.blk hp9 hne1,hf10.own hown9 hne2,hokP⟩,?_,?_⟩
      ·exact ((Far.of_below b5).then_ hfar9 (fun k hk => .inl hk)).then_ hf10 (fun k hk => .inr (by
        have:=List.mem_singleton.1 hk
        injection this with this
        omega))
      ·rcases hnw9 with h2 | h2
       ·exact .inl h2
       ·exact .inr fun k hk=>Nat.le_trans b5.size (h2 k hk)
end
section
attribute [local go_sem ↓] ldvI_eq ldvS_eq
end
section
attribute [local go_sem ↓] ldvI_eq ldvS_eq
def OfR (w:World) (L:List StL) (e:Ending) (w':World):Prop := ∃ p vl,e = .returned (.pointer (some ⟨p,0,none⟩))∧w.heap.size≤p∧StoAt w' w.heap.size p vl L
set_option maxRecDepth 100000 in
set_option maxHeartbeats 8000000 in
theorem of_calls11 {w:World} {vm:Value} {es:List DiL} (hm:DocSt w vm es) (hf:es.length<490000) (hK:TabK w) :
 Calls Tryz.prog 7 #[.agg #[vm]] w fun e w'=>OfR w (es.map (·.st)) e w'∧Below w.heap.size w w':=by
 obtain ⟨W1,hW1⟩ : ∃ W1,w.alloc (.cells #[vm] 28)=W1:=⟨_,rfl⟩
 have s1:Blk W1 w.heap.size 28 #[vm]:=by rw [←hW1];exact Blk.new _ _ _
 have b1:Below w.heap.size w W1:=by rw [←hW1];exact (Below.refl _ _).alloc (Nat.le_refl _) _
 have hlt0:=s1.lt
 have hnw:=Lib.hid (stoNew_calls W1)
 have hzI:=zeroIdV
 have hZ32:(u8s noId).size=32:=by rw [zAj,zAg]
 have hok:=hm.ok
 have heach:=hm.each
 have hmat:=hm.at_
 obtain ⟨L,hL⟩ : ∃ L,es.map (·.st)=L:=⟨_,rfl⟩
 have hLl:L.length=es.length:=by rw [←hL,List.length_map]
 rw [hL] at hok
 have hLk : ∀ (k:Nat) (x:DiL),es[k]?=some x→L[k]?=some x.st:=fun k x hx=>by rw [←hL,List.getElem?_map,hx];rfl
 rw [hL]
 have hLl:=Lib.hid hLl
 have hLk:=Lib.hid hLk
 obtain ⟨A,cap,rfl,hcap1,hcap2,hat⟩:=hmat
 clear hL
 go_enter Tryz.func7,Tryz.ntmps7
 go_wp2_with (first
  | ((with_reducible refine hnw.out.mono ?_);rintro e w2 ⟨rfl,s2,b12⟩))
 have hpl:W1.heap.size<w2.heap.size:=s2.lt
 go_loopw [4] (fun vi wr => ∃ (k:Nat) (vl:Value),vi = .int .i64 k∧k≤es.length∧StoAt wr W1.heap.size W1.heap.size vl (L.take k)∧Below W1.heap.size W1 wr) (fun vi _=>es.length-(intOf vi).toNat)
 case atStart=>exact ⟨0,_,rfl,by omega,by rw [List.take_zero];exact s2,b12⟩
 case round=>
  obtain ⟨k,vl,rfl,hk,hS,hbel⟩:=hrel
  have hbr:=bthen b1 b1.size hbel
  have cr:wr.cell? ⟨w.heap.size,0,none⟩=some (.slice A es.length cap):=(s1.below hbel hlt0).cell 0
  by_cases hlt:k<es.length
  ·have hki:(k:Int)<(es.length:Int):=by omega
   obtain ⟨ga,oa,rfl,hga,hca⟩:=hat (by omega)
   obtain ⟨x,hx⟩ : ∃ x,es[k]?=some x:=⟨_,List.getElem?_eq_getElem hlt⟩
   have hxm:=List.mem_of_getElem? hx
   have hxo:=heach x hxm
   have hxi:=hxo.id
   have hLx:=hLk.out k x hx
   have hIs:=hok.each x.st (List.mem_of_getElem? hLx)
   have htx:=dit_text (zAc (hca k x hx) hga hbr) hxi
   have hKr:=hK.below hbr
   have htl:=(decO_len hxo.dec).2
   have htk:(L.take k).length<500000:=by have:=hLl.out;rw [List.length_take];omega
   have hpt:=stoPut_calls hbel.size hS x.st.text (by omega) hKr htk
   rw [hIs.putI,hIs.putC,putS_rise hok hLx] at hpt
   have hpt:=Lib.hid hpt
   have hid32:(u8s x.st.id).size=32:=by rw [zAj,hxi]
   have hid1:=u8s_one x.st.id
   have heq:=fun W=>zC3 W x.st.id x.st.id hxi hxi
   simp only [decide_true,Bool.not_true] at heq
   have hxr:=dit_id (hca k x hx)
   clear hx hat hca heach hLx hIs htk hLk hxo hxm
   go_upto_region 8 with (first
    | ((with_reducible refine hpt.out.mono ?_);rintro e w3 ⟨rfl,vl3,s3,f3,n3⟩
       have hS3 : ∀ k,some k∈[some W1.heap.size,vl.ownBlock]→W1.heap.size≤k:=fun k hk=>by
        simp only [List.mem_cons,List.not_mem_nil,or_false] at hk
        rcases hk with hk | hk
        ·injection hk with hk;omega
        ·exact (World.ownsRow.lt hS.own k hk.symm).1
       have b3:Below W1.heap.size W1 w3:=hbel.trans (f3.below hbel.size hS3))
    | ((with_reducible refine lit_new 46 (.tmp 5) (.tmp 26) (u8s x.st.id) 32 sz32 hid32 hid1 _ ?_ ?_ ?_ ?_)
       ·first | exact hZ32 | rfl
       ·rfl
       ·rfl
       intro W4 i4 hbl4
       have b4:=bthen b3 b3.size hbl4
       have s4:=s3.below hbl4))
   have fI:=fun W (hW:Below W4.heap.size W4 W)=>zAb (zAi (i4.below hW i4.lt)) hxi
   have fX:=fun W (hW:Below W4.heap.size W4 W)=>zAb (zAc hxr hga (bthen b1 b1.size (bthen b4 b4.size hW))) hxi
   have fC : ∀ W,Below W4.heap.size W4 W→W.cell? ⟨w.heap.size,0,none⟩=some (.slice (some ⟨ga,oa,none⟩) es.length cap):=fun W hW=>(s1.below (bthen b4 b4.size hW) hlt0).cell 0
   go_wp2
   refine zAA 12 (by kernel_rfl) (by kernel_rfl) (by kernel_rfl) (by kernel_rfl) ?_
   simp only [exSp]
   iterate 12 apply Exists.intro
   repeat
    first
     | ((with_reducible apply lx0_ex)
        ·(go_simp;done)
        apply Exists.intro
        apply And.intro
        ·apply Eq.refl
        apply And.intro
        ·intro W hW hD
         have q0:=fI W hW
         have q1:=fX W hW
         have q2:=fC W hW
         have q4:=heq W
         go_simp
         rfl
        simp only [Act.put,zA,zB,zC])
     | ((with_reducible apply zA2)
        ·(first | rfl | (go_simp;done))
        ·apply Eq.refl
        simp only [Act.put,zA,zB,zC])
   refine lx0_nil ?_ fun w5 hW5 hD5=>?_
   ·exact List.nodup_nil
   have b5:=bthen b4 b4.size hW5
   have s5:=s4.below hW5
   go_wp2
   go_roundw
   case rel=>exact ⟨k+1,_,by go_num,by omega,s5,b5⟩
   case measure=>simp [intOf];omega
  ·have hki : ¬ (k:Int)<(es.length:Int):=by omega
   obtain rfl:k=es.length:=by omega
   rw [←hLl.out,List.take_length] at hS
   clear hat heach hLk
   go_wp2
   go_ret
   exact ⟨⟨_,vl,rfl,Nat.le_of_lt hlt0,hS.blk,zE4 hS.own (Nat.le_of_lt hlt0),hS.ok⟩,hbr⟩
end
end Go.Proofs.YtbhdfaadedlcfaaGreatDoor
