/- Texts of this claim, laid together: DptV, DptO, DptB, ObjQ, DptX, DptK, DptY, Ris, StoQ, ObjId. -/
import Derived.Test.YtbhdfaadedlcfaaGreatDoorMl
namespace Go.Proofs.YtbhdfaadedlcfaaGreatDoor
open Go.RowKit
section
attribute [local go_sem ↓] ldvI_eq
set_option maxRecDepth 100000 in
theorem built_dpt (id:Txt) (k:Nat) (hid:id.length=32):Tryz.prog.built 48 [(0, .agg (u8s id)),(1, .int .i64 (k:Nat))]=some (dptC ⟨id,k⟩).toArray:=by
 obtain ⟨it,hi,hz,hs,hb⟩:=Tryz.dptTy.hi
 have hpl:(match Tryz.prog.underlying 48 with | some (.struct fields)=>fields.toList.mapM (fun f=>(Tryz.prog.info? f.type).map fun i=>(f.offset,i.size)) | _=>none)=some [(0,32),(32,1)]:=by kernel_rfl
 have hu:=Tryz.underlying48
 rw [hu] at hpl
 unfold Program.built
 rw [hi,hu]
 simp only [hz]
 simp only at hpl
 rw [hpl]
 have hf:=fold_link zDpt.cells (.int .i64 (k:Nat)) (id.map u8v) 32 (by simpa using hid) zDpt_cells
 have h33:=zDpt_cells
 have e1:(Value.int .i64 (k:Nat)).cells = #[.int .i64 (k:Nat)]:=rfl
 have e2:(Value.agg (u8s id)).cells=u8s id:=rfl
 have f1 : ∀ c:Array Value,Array.foldl (fun cs (x:Value×Nat)=>cs.setIfInBounds (32+x.snd) x.fst) c (#[.int .i64 (k:Nat)]:Array Value).zipIdx=c.setIfInBounds 32 (.int .i64 (k:Nat)):=fun c=>rfl
 have f2 : ∀ c:Array Value,Array.foldl (fun cs (x:Value×Nat)=>cs.setIfInBounds (0+x.snd) x.fst) c (u8s id).zipIdx=(id.map u8v).zipIdx.foldl (fun cs (x:Value×Nat)=>cs.setIfInBounds (0+x.snd) x.fst) c:=fun c=>by
  rw [←Array.foldl_toList,Array.toList_zipIdx]
  rfl
 have g0:(#[(0,32),(32,1)]:Array (Nat×Nat))[0]?=some (0,32):=rfl
 have g1:(#[(0,32),(32,1)]:Array (Nat×Nat))[1]?=some (32,1):=rfl
 have hsz:((id.map u8v).zipIdx.foldl (fun cs (x:Value×Nat)=>cs.setIfInBounds (0+x.snd) x.fst) zDpt.cells).size=33:=by
  rw [(Great.foldl_set 0 (id.map u8v) 0 zDpt.cells).1,h33]
 simp only [Instr.fill,g0,g1,e1,e2]
 rw [f2,if_neg (by simp [u8s_size,hid,h33]),f1,hf,if_neg (by rw [hsz];simp)]
 show some (dptC ⟨id,k⟩).toArray=_
 unfold dptC
 rw [show (u8s id).toList=id.map u8v from by simp [u8s]]
set_option maxRecDepth 100000 in
theorem built_ddt (id:Txt) (k:Nat) (hid:id.length=32):Tryz.prog.built 55 [(0, .agg (u8s id)),(1, .int .i64 (k:Nat))]=some (dptC ⟨id,k⟩).toArray:=by
 obtain ⟨it,hi,hz,hs,hb⟩:=Tryz.ddtTy.hi
 have hpl:(match Tryz.prog.underlying 55 with | some (.struct fields)=>fields.toList.mapM (fun f=>(Tryz.prog.info? f.type).map fun i=>(f.offset,i.size)) | _=>none)=some [(0,32),(32,1)]:=by kernel_rfl
 have hu:=Tryz.underlying55
 rw [hu] at hpl
 unfold Program.built
 rw [hi,hu]
 simp only [hz]
 simp only at hpl
 rw [hpl]
 have hf:=fold_link zDpt.cells (.int .i64 (k:Nat)) (id.map u8v) 32 (by simpa using hid) zDpt_cells
 have h33:=zDpt_cells
 have e1:(Value.int .i64 (k:Nat)).cells = #[.int .i64 (k:Nat)]:=rfl
 have e2:(Value.agg (u8s id)).cells=u8s id:=rfl
 have f1 : ∀ c:Array Value,Array.foldl (fun cs (x:Value×Nat)=>cs.setIfInBounds (32+x.snd) x.fst) c (#[.int .i64 (k:Nat)]:Array Value).zipIdx=c.setIfInBounds 32 (.int .i64 (k:Nat)):=fun c=>rfl
 have f2 : ∀ c:Array Value,Array.foldl (fun cs (x:Value×Nat)=>cs.setIfInBounds (0+x.snd) x.fst) c (u8s id).zipIdx=(id.map u8v).zipIdx.foldl (fun cs (x:Value×Nat)=>cs.setIfInBounds (0+x.snd) x.fst) c:=fun c=>by
  rw [←Array.foldl_toList,Array.toList_zipIdx]
  rfl
 have g0:(#[(0,32),(32,1)]:Array (Nat×Nat))[0]?=some (0,32):=rfl
 have g1:(#[(0,32),(32,1)]:Array (Nat×Nat))[1]?=some (32,1):=rfl
 have hsz:((id.map u8v).zipIdx.foldl (fun cs (x:Value×Nat)=>cs.setIfInBounds (0+x.snd) x.fst) zDpt.cells).size=33:=by
  rw [(Great.foldl_set 0 (id.map u8v) 0 zDpt.cells).1,h33]
 simp only [Instr.fill,g0,g1,e1,e2]
 rw [f2,if_neg (by simp [u8s_size,hid,h33]),f1,hf,if_neg (by rw [hsz];simp)]
 show some (dptC ⟨id,k⟩).toArray=_
 unfold dptC
 rw [show (u8s id).toList=id.map u8v from by simp [u8s]]
def ObjK (S:List StL) (n:Txt) (B0:Nat) (w':World) (e:Ending):Prop := ∃ OC K th vp,e = .returned (.tuple #[.agg OC, .bool th])∧OC.size=72∧OC.all (·.oneCell')=true∧OC[0]?=some (.int .i64 K)∧OC[35]?=some vp∧OwnIds w' B0 vp (parS S n)∧(th=true∧K=3↔kindS S n=3)
theorem objC_kind (o:ObjL) (ve vp:Value):(objC o ve vp)[0]?=some (.int .i64 o.kind):=rfl
theorem par_small (S:List StL) (n:Txt):(parS S n).length≤20 ∧ ∀ x∈parS S n,x.length=32:=by
 unfold parS
 cases ho:objS S n with
 | none=>exact ⟨Nat.zero_le _,fun x hx=>by cases hx⟩
 | some o=>
   refine ⟨?_,(objS_sound ho).1.pars⟩
   unfold objS at ho
   cases hg:getS S n with
   | none=>rw [hg] at ho;cases ho
   | some s=>rw [hg] at ho;exact (dec_small ho).pars
theorem nextP_small (S:List StL) (D:List DpL) (a:Nat):(nextP S D a).length≤D.length*20 ∧ ∀ x∈nextP S D a,x.length=32:=by
 unfold nextP
 constructor
 ·have h : ∀ l:List DpL,(l.flatMap fun p=>parS S p.id).length≤l.length*20:=fun l=>by
   induction l with
   | nil=>simp
   | cons p l ih=>
     rw [List.flatMap_cons,List.length_append,List.length_cons]
     have:=(par_small S p.id).1
     omega
  refine Nat.le_trans (h _) ?_
  rw [List.length_drop]
  omega
 ·intro x hx
  obtain ⟨p,_,hp⟩:=List.mem_flatMap.1 hx
  exact (par_small S p.id).2 x hp
section
variable {w w':World} {sb p:Nat} {vs:Value} {S:List StL}
theorem stoObjK_calls (h:StoAt w sb p vs S) (n:Txt) (hn:n.length=32) :
 Calls Tryz.prog 30 #[.pointer (some ⟨p,0,none⟩), .agg (u8s n)] w fun e w'=>ObjK S n w.heap.size w' e∧Below w.heap.size w w':=by
 refine (stoObject_calls h n hn).mono fun e w' ⟨q1,q2⟩=>⟨?_,q2⟩
 unfold ObjT at q1
 unfold ObjK
 cases hG:getS S n with
 | none=>
   rw [hG] at q1
   have hp:parS S n=[]:=by unfold parS;rw [objS_none hG]
   have hk:kindS S n=0:=by unfold kindS;rw [hG]
   rw [hp,hk]
   exact ⟨zObj,0,false, .slice none 0 0,q1,zObj_size,zObj_one,by kernel_rfl,by kernel_rfl,World.ownsRow_nil _ _ _ _,by simp⟩
 | some x=>
   rw [hG] at q1
   obtain ⟨o,A1,A2,k1,k2,hd,rfl,hv,_,hop⟩:=q1
   have ho:=objS_some hG hd
   have hp:parS S n=o.pars:=by unfold parS;rw [ho]
   have hk:kindS S n=o.kind:=by unfold kindS;rw [hG];simp only;rw [hd]
   rw [hp,hk]
   exact ⟨_,o.kind,true,_,rfl,by rw [List.size_toArray,objC_len hv.ok],objC_all o A1 A2 _ k1 _ k2,by rw [List.getElem?_toArray];exact objC_kind _ _ _,by rw [List.getElem?_toArray];exact (objC_at hv.ok.tree _ _).1,hop,by simp⟩
end
theorem lit_append_srcN {P:Program} {ops:Array Oper} {rest:List Oper} {a:Act} {W:World} {Q:Exit→Act→World→Prop} {d:Option Tmp} {rt:TypeId} {pos:String} {af:Array Edge}
 (s x:Operand) (t:TypeId) {e:TypeId} {z:Value} {size bytes:Nat} (hT:SliceTy P t e z size bytes) {base n:Nat} {v:Value} {xs:List Value} (hown:W.ownsRow base e size v n xs)
 {m:Nat} {v2:Value} {ys:List Value} (hsrc:SrcAt size W v2 m ys) (h1 : ∀ u∈ys,u.oneCell'=true) (h63:n+m≤9223372036854775807) (hbytes:(n+m)*bytes≤140737488355328) (hbase:base≤W.heap.size)
 (hs:a.eval s=v) (hx:a.eval x=v2)
 (h : ∀ v' w',w'.ownsRow base e size v' (n+m) (xs++ys)→W.grownBy w' v.ownBlock→Newer W v v'→wpList P ops Q rest (a.put d v') w') :
 wpList P ops Q ({ dst:=d,op := .call { callee := .builtin .append,args := #[s,x],argTypes := #[t,t] },type:=rt,pos:=pos,after:=af,guard:=none }::rest) a W:=
 wpList_plain rfl fun _ hK=>by
  obtain ⟨v',w',hrun,ho,hg,hat⟩:=run_append_src (rt:=rt) hT hown hsrc h1 h63 hbytes hbase
  unfold Oper.wp execOp
  simp only [resolve,invoke,builtin,Sem.run_bind,Sem.run_pure,Result.andThen_ok,List.map_toArray,List.map_cons,List.map_nil,hs,hx,hrun]
  refine hK _ _ (h v' w' ho hg ?_)
  rcases hat with h2 | h2
  ·exact .inl h2
  ·exact .inr fun k hk=>by rw [h2] at hk;injection hk with hk;omega
structure LevI (S:List StL) (w0:World) (B:Nat) (v:Value) (D:List DpL) (ids:List Txt) (n k:Nat) (wr:World) (vl vp:Value) (L:List DpL) (NP:List Txt):Prop where
 s:DptS L (addL S n D (ids.take k))
 ok:DptsOk L
 inv:DptI S (addL S n D (ids.take k))
 np:NP=nextP S (addL S n D (ids.take k)) D.length
 own:OwnDpts wr B vl L
 ownp:OwnIds wr w0.heap.size vp NP
 far:Far [v.ownBlock] w0 wr
 newer:Newer w0 v vl
section
variable {S:List StL} {w0 w1 w2 w3 w4:World} {B n k:Nat} {v vl vp vl' vp' vo:Value} {D L:List DpL} {ids NP:List Txt} {x:Txt}
theorem LevI.same (h:LevI S w0 B v D ids n k w1 vl vp L NP) (hB:B≤w0.heap.size) (hx:ids[k]?=some x) (hb:Below w1.heap.size w1 w2) (hno:inL ((addL S n D (ids.take k)).map DpL.id) x=true∨kindS S x≠3):LevI S w0 B v D ids n (k+1) w2 vl vp L NP:=by
 have e:addL S n D (ids.take (k+1))=addL S n D (ids.take k):=by rw [addL_more hx,addD_no hno]
 exact ⟨by rw [e];exact h.s,h.ok,by rw [e];exact h.inv,by rw [e];exact h.np,own_below h.own hb,own_below h.ownp hb,h.far.more hb,h.newer⟩
theorem LevI.more (h:LevI S w0 B v D ids n k w1 vl vp L NP) (hB:B≤w0.heap.size) (hx:ids[k]?=some x) (hx32:x.length=32) (hn:n≤2000000) (hb:Below w1.heap.size w1 w2) (hi:inL ((addL S n D (ids.take k)).map DpL.id) x=false) (hk3:kindS S x=3)
 (ho3:OwnDpts w3 B vl' (L.take (posK DpL.id L x)++[⟨x,n⟩]++L.drop (posK DpL.id L x))) (hg3:w2.grownBy w3 vl.ownBlock) (hn3:Newer w2 vl vl')
 (ho4:w4.ownsRow w0.heap.size 46 32 vp' (NP.length+(parS S x).length) (rowsOf idC NP++rowsOf idC (parS S x))) (hg4:w3.grownBy w4 vp.ownBlock) :
 LevI S w0 B v D ids n (k+1) w4 vl' vp' (L.take (posK DpL.id L x)++[⟨x,n⟩]++L.drop (posK DpL.id L x)) (NP++parS S x):=by
 have e:addL S n D (ids.take (k+1))=addL S n D (ids.take k)++[⟨x,n⟩]:=by rw [addL_more hx,addD_yes hi hk3]
 have hI:=addD_I (n:=n) h.inv x
 rw [addD_yes hi hk3] at hI
 have hp2:OwnIds w2 w0.heap.size vp NP:=own_below h.ownp hb
 have hf3:Far [vl.ownBlock] w2 w3:=Far.of_grown hg3
 have hf4:Far [vp.ownBlock] w3 w4:=Far.of_grown hg4
 have hp3:OwnIds w3 w0.heap.size vp NP:=hf3.own hp2 fun q hq hm=>own_ne hp2 (own_below h.own hb) (by decide) q hq (List.mem_singleton.1 hm).symm
 refine ⟨by rw [e];exact h.s.add (x:=⟨x,n⟩) hi,dptsOk_ins h.ok _ ⟨hx32,hn⟩,by rw [e];exact hI,?_,?_,?_,?_,?_⟩
 ·rw [e,nextP_yes (by exact addL_len _),←h.np]
 ·exact hf4.own ho3 fun q hq hm=>own_ne ho3 hp3 (by decide) q hq (List.mem_singleton.1 hm).symm
 ·unfold OwnIds
  rw [List.length_append,rowsOf_append]
  exact ho4
 ·have h2:Far [v.ownBlock] w0 w2:=h.far.more hb
  have h3:Far [v.ownBlock] w0 w3:=h2.then_ hf3 fun q hq=>by
   rcases h.newer with h5 | h5
   ·rw [←h5];exact .inl hq
   ·exact .inr (h5 q (List.mem_singleton.1 hq).symm)
  exact h3.then_ hf4 fun q hq => .inr (World.ownsRow.lt h.ownp q (List.mem_singleton.1 hq).symm).1
 ·exact h.newer.then_ hn3 (Nat.le_trans h.far.size hb.size)
end
set_option maxRecDepth 100000 in
set_option maxHeartbeats 4000000 in
theorem depLevel_calls {S:List StL} {w:World} {sb p B:Nat} {vs v vi:Value} {L D:List DpL} {ids:List Txt} (hS:StoAt w sb p vs S) (hB:B≤w.heap.size) (hv:OwnDpts w B v L) (hL:DptS L D) (hok:DptsOk L) (hI:DptI S D)
 (hvi:OwnIds w B vi ids) (hids : ∀ x∈ids,x.length=32) (n:Nat) (hn:n≤2000000) :
 Calls Tryz.prog 29 #[.pointer (some ⟨p,0,none⟩),v,vi, .int .i64 n] w fun e w' => ∃ v' vp,e = .returned (.tuple #[v',vp]) ∧ ∃ L',DptS L' (addL S n D ids)∧DptsOk L'∧OwnDpts w' B v' L'∧OwnIds w' w.heap.size vp (nextP S (addL S n D ids) D.length)∧Far [v.ownBlock] w w':=by
 have hSl:S.length≤500000:=hS.ok.few
 obtain ⟨Ai,ci,rfl⟩:=own_form' hvi
 have hSr : ∀ wr,Far [v.ownBlock] w wr→StoAt wr sb p vs S:=fun wr hf=>hS.far hf (fun hm=>own_blk_ne hv hS.blk (by decide) (List.mem_singleton.1 hm)) fun q hq hm=>own_ne hS.own hv (by decide) q hq (List.mem_singleton.1 hm).symm
 have hIr : ∀ wr,Far [v.ownBlock] w wr→OwnIds wr B (.slice Ai ids.length ci) ids:=fun wr hf=>hf.own hvi fun q hq hm=>own_ne hvi hv (by decide) q hq (List.mem_singleton.1 hm).symm
 have hst:LevI S w B v D ids n 0 w v (.slice none 0 0) L []:=⟨hL,hok,hI,(nextP_self D).symm,hv,World.ownsRow_nil _ _ _ _,Far.refl _ _,Newer.refl _ _⟩
 have hfin:Hid (ids.take ids.length=ids):=Lib.hid List.take_length
 clear hL hok hI hv hvi hS
 go_enter Tryz.func29,Tryz.ntmps29
 go_wp2_with (fail)
 go_loopg [1,10,19] ids.length (fun f v1 v10 vk wr => ∃ (vl vp:Value) (k:Nat) (L:List DpL) (NP:List Txt),vl=v1∧vp=v10∧vk = .int .i64 k∧k+f=ids.length∧LevI S w B v D ids n k wr vl vp L NP)
 case atStart=>exact ⟨_,_,0,L,[],rfl,rfl,rfl,by omega,hst⟩
 case round=>
  obtain ⟨vl,vp,k,L1,NP,rfl,rfl,rfl,hkf,hr⟩:=hrel
  cases gk with
  | zero=>
    have hki : ¬ (k:Int)<(ids.length:Int):=by omega
    obtain rfl:k=ids.length:=by omega
    clear hSr hIr hst
    go_wp2_with (fail)
    go_ret2
    obtain ⟨r1,r2,r3,r4,r5,r6,r7,r8⟩:=hr
    rw [hfin.out] at r1 r4
    rw [r4] at r6
    exact ⟨_,_,rfl,L1,r1,r2,r5,r6,r7⟩
  | succ f=>
    have hki:(k:Int)<(ids.length:Int):=by omega
    obtain ⟨x,hx⟩ : ∃ x,ids[k]?=some x:=⟨_,List.getElem?_eq_getElem (by omega)⟩
    have hxi:=hids x (List.mem_of_getElem? hx)
    have hSw:=hSr _ hr.far
    obtain ⟨A',c',he,_,_,hat⟩:=SliceAt.of_own (idsK hids) (hIr _ hr.far)
    injection he with e1 _ e3
    subst e1
    subst e3
    obtain ⟨ga,oa,rfl,hga,hca⟩:=hat (by omega)
    have hlx:(ldvI ⟨ga,oa+k*32,none⟩).run Tryz.prog wr = .ok (.agg (u8s x)) wr:=run_ldvI_at (show World.rangeAt wr ga (oa+k*32) (u8s x).toList from hca k x hx) hxi
    have hLl:L1.length≤500000:=by rw [hr.s.len];exact Nat.le_trans hr.inv.len hSl
    have hpl:=fun W (hW:Below wr.heap.size wr W)=>Lib.hid (depPlace_calls (SliceAt.of_own (dptK hr.ok) (own_below hr.own hW)) hr.ok hr.s.sorted (by omega) x hxi)
    have hob:=fun W (hW:Below wr.heap.size wr W)=>Lib.hid (stoObjK_calls (hSw.below hW) x hxi)
    have hin:hasK DpL.id L1 x=inL ((addL S n D (ids.take k)).map DpL.id) x:=hr.s.has x
    have hx32:(u8s x).size=32:=by rw [u8s_size,hxi]
    have hx1:=u8s_one x
    have hlm : ∀ W g,Blk W g 46 (u8s x)→(ldvI ⟨g,0,none⟩).run Tryz.prog W = .ok (.agg (u8s x)) W:=fun W g h=>run_ldvI_at (range_blk h) hxi
    have hbd:=built_dpt x n hxi
    have hPle:posK DpL.id L1 x≤L1.length:=posK_le
    have hins:=fun W (hW:Below wr.heap.size wr W) vb (hvb:Blk W vb 48 (dptC ⟨x,n⟩).toArray) (hne:vl.ownBlock≠some vb)=>Lib.hid (insertDpts_calls L1 hr.ok (by omega) vl W B (posK DpL.id L1 x) vb ⟨x,n⟩ ⟨hxi,hn⟩ (Nat.le_trans hB (Nat.le_trans hr.far.size hW.size)) (own_below hr.own hW) hPle hvb hne)
    have hvlt : ∀ q,vl.ownBlock=some q→q<wr.heap.size:=fun q hq=>(World.ownsRow.lt hr.own q hq).2
    have hpart : ∀ W,Below wr.heap.size wr W→OwnIds W w.heap.size vp NP:=fun W hW=>own_below hr.ownp hW
    have hnps:NP.length≤10000000:=by
     have h1:=(nextP_small S (addL S n D (ids.take k)) D.length).1
     rw [←hr.np,←hr.s.len] at h1
     omega
    obtain ⟨hps1,hps2⟩:=par_small S x
    have hz72:=zObj_size
    have hzo:=zeroObj
    have hzI:=zeroIdV
    have hZ32:(u8s noId).size=32:=by rw [u8s_size,noId_len]
    obtain ⟨XC,hXC⟩ : ∃ XC,u8s x=XC:=⟨_,rfl⟩
    obtain ⟨DC,hDC⟩ : ∃ DC,(dptC ⟨x,n⟩).toArray=DC:=⟨_,rfl⟩
    have hD33:DC.size=33:=by rw [←hDC,List.size_toArray];exact dptC_len ⟨hxi,hn⟩
    rw [hDC] at hbd
    simp only [hDC] at hins
    rw [hXC] at hlx hx32 hx1 hbd
    simp only [hXC] at hpl hob hlm
    obtain ⟨P,hP⟩ : ∃ P,posK DpL.id L1 x=P:=⟨_,rfl⟩
    obtain ⟨HB,hHB⟩ : ∃ HB,hasK DpL.id L1 x=HB:=⟨_,rfl⟩
    simp only [hP,hHB] at hpl hins
    rw [hHB] at hin
    replace hP:=Lib.hid hP
    replace hXC:=Lib.hid hXC
    replace hDC:=Lib.hid hDC
    replace hin:=Lib.hid hin
    have hwr:=hr.far.size
    clear hHB hat hca hst hfin hSw hPle
    go_upto_region 7 with (first
     | ((with_reducible refine lit_new 46 (.tmp 12) (.tmp 22) XC 32 sz32 hx32 hx1 _ ?_ ?_ ?_ ?_)
        ·first | exact hZ32 | rfl
        ·rfl
        ·rfl
        intro w2 hb2 hbl2
        have l2:=hlm w2 _ hb2
        have p2:=hpl w2 hbl2)
     | ((with_reducible refine p2.out.mono ?_);rintro e w3 ⟨rfl,hb3⟩
        have b3:=bthen hbl2 hbl2.size hb3
        have l3:=hlm w3 _ (hb2.below hb3 hb2.lt)
        have o3:=hob w3 b3)
     | ((with_reducible refine o3.out.mono ?_);rintro e w4 ⟨⟨OC,K,th,vo,rfl,hc72,hcone,hc0,hc35,hvo,hk3⟩,hb4⟩
        have b4:=bthen b3 b3.size hb4)
     | ((with_reducible refine lit_new 59 (.tmp 15) (.tmp 33) OC 72 szObj hc72 hcone _ ?_ ?_ ?_ ?_)
        ·first | exact hz72 | rfl
        ·rfl
        ·rfl
        intro w5 hb5 hbl5))
    have b5:=bthen b4 b4.size hbl5
    have l5:=hlm w5 _ ((hb2.below hb3 hb2.lt).below (bthen hb4 hb4.size hbl5) (hb2.below hb3 hb2.lt).lt)
    have k5:w5.cell? ⟨w4.heap.size,0,none⟩=some (.int .i64 K):=by rw [hb5.cell];exact hc0
    have hvo5:=own_below hvo hbl5
    clear p2 o3 l2 l3 hpl hob hlm hlx hb2 hcone hc72 hc0 hbl5 hbl2 hb3
    by_cases hyes:HB=false∧th=true∧K=3
    ·obtain ⟨rfl,rfl,rfl⟩:=hyes
     have hkd:=hk3.1 ⟨rfl,rfl⟩
     have hin6:=hins
     clear hk3
     go_upto_region 9 with (first
      | ((with_reducible refine lit_build2 hbd ?_ ?_ ?_);rfl;rfl)
      | ((with_reducible refine lit_slice1 (.tmp 49) Tryz.dptTy DC hD33 (by omega) ?_ ?_);rfl
         obtain ⟨w6,hw6⟩ : ∃ w6,w5.alloc (.cells DC 48)=w6:=⟨_,rfl⟩
         have n6:Blk w6 w5.heap.size 48 DC:=by rw [←hw6];exact Blk.new _ _ _
         have bb6:Below w5.heap.size w5 w6:=by rw [←hw6];exact (Below.refl _ _).alloc (Nat.le_refl _) _
         have b6:=bthen b5 b5.size bb6
         rw [hw6]
         clear hw6
         have i6:=hins w6 b6 w5.heap.size n6 (fun h=>by have:=hvlt _ h;have:=b5.size;omega))
      | ((with_reducible refine i6.out.mono ?_);rintro e w7 ⟨vl',rfl,ho7,hg7,hn7⟩))
     have hf7:Far [vl.ownBlock] w6 w7:=Far.of_grown hg7
     have c35:w7.cell? ⟨w4.heap.size,35,none⟩=some vo:=by
      have h6:=hb5.below bb6 hb5.lt
      rw [(hf7.blk h6 (fun hm=>by have:=hvlt _ (List.mem_singleton.1 hm).symm;have:=b4.size;omega)).cell]
      exact hc35
     have hap : ∀ q,vl.ownBlock=some q→q<w6.heap.size:=fun q hq=>Nat.lt_of_lt_of_le (hvlt q hq) b6.size
     have hvo7:OwnIds w7 w3.heap.size vo (parS S x):=hf7.own (own_below hvo5 bb6) fun q hq hm=>own_ne (own_below hvo5 bb6) (own_below hr.own b6) (by decide) q hq (List.mem_singleton.1 hm).symm
     have hvp7:OwnIds w7 w.heap.size vp NP:=hf7.own (hpart w6 b6) fun q hq hm=>own_ne (hpart w6 b6) (own_below hr.own b6) (by decide) q hq (List.mem_singleton.1 hm).symm
     have hsrc:=SrcAt.of (idsK hps2) (SliceAt.of_own (idsK hps2) hvo7)
     have hone : ∀ u∈rowsOf idC (parS S x),u.oneCell'=true:=rowsOf_one' fun x _=>idC_one x
     have k63:NP.length+(parS S x).length≤9223372036854775807:=by omega
     have kby:(NP.length+(parS S x).length)*32≤140737488355328:=by omega
     have hz7:w.heap.size≤w7.heap.size:=Nat.le_trans hwr (Nat.le_trans b6.size hf7.size)
     clear hins i6 hvlt hpart hnps hps1 hbd hD33 n6 hap hvo7 l5 k5 hb5 hc35 hvo hvo5 hf7
     go_wp2_with (first
      | ((with_reducible refine lit_append_srcN (.tmp 52) (.tmp 54) 34 Tryz.idsTy hvp7 hsrc hone k63 kby hz7 ?_ ?_ ?_);rfl;rfl
         intro vp' w8 ho8 hg8 hn8))
     rw [←hP.out] at ho7
     have hr2:=hr.more hB hx hxi hn b6 hin.out.symm hkd ho7 hg7 hn7 ho8 hg8
     clear hr hin
     go_roundg f
     case rel=>exact ⟨_,_,k+1,_,_,rfl,rfl,by go_num,by omega,hr2⟩
     case measure=>omega
    ·have hno:inL ((addL S n D (ids.take k)).map DpL.id) x=true∨kindS S x≠3:=by
      rw [←hin.out]
      cases HB with
      | true=>exact .inl rfl
      | false=>exact .inr fun h=>hyes ⟨rfl,hk3.2 h⟩
     have hr2:=hr.same hB hx b5 hno
     clear hr hin hno hk3 hins hbd hvlt hpart hnps hps1 hps2 hD33 hvo5 hvo hb5 l5 hx hxi
     cases HB with
     | true=>
       go_wp2_with (fail)
       go_roundg f
       case rel=>exact ⟨_,_,k+1,L1,NP,rfl,rfl,by go_num,by omega,hr2⟩
       case measure=>omega
     | false=>
       cases th with
       | false=>
         go_wp2_with (fail)
         go_roundg f
         case rel=>exact ⟨_,_,k+1,L1,NP,rfl,rfl,by go_num,by omega,hr2⟩
         case measure=>omega
       | true=>
         have hK : ¬ K=3:=fun h=>hyes ⟨rfl,rfl,h⟩
         go_wp2_with (fail)
         go_roundg f
         case rel=>exact ⟨_,_,k+1,L1,NP,rfl,rfl,by go_num,by omega,hr2⟩
         case measure=>omega
end
section
attribute [local go_sem ↓] ldvI_eq
theorem own_snoc {w:World} {B:Nat} {v:Value} {acc:List Txt} {x:Txt} (h:w.ownsRow B 46 32 v (acc.length+1) (rowsOf idC acc++(u8s x).toList)):OwnIds w B v (acc++[x]):=by
 unfold OwnIds
 rw [List.length_append,List.length_singleton,rowsOf_append,rowsOf_one]
 exact h
theorem endsM_len {S:List StL} {l:List Txt}:(endsM S l).length≤l.length:=by unfold endsM;exact List.length_filterMap_le _ _
theorem endsM_ok {S:List StL} {l:List Txt} (h : ∀ x∈l,x.length=32) : ∀ x∈endsM S l,x.length=32:=fun x hx=>by
 unfold endsM at hx
 obtain ⟨y,hy,he⟩:=List.mem_filterMap.1 hx
 exact endS_ok _ _ _ (h y hy) he
set_option maxRecDepth 100000 in
theorem depOfNo_calls (vp vf:Value) (n:Int) (hn : ¬ (1≤n∧n≤1048576)) (w:World) :
 Calls Tryz.prog 10 #[vp,vf, .int .i64 n] w fun e w'=>e = .returned (.tuple #[.slice none 0 0, .int .i64 1])∧w'=w:=by
 have hf:=Lib.hid (fineB_calls n w)
 rw [decide_eq_false hn] at hf
 go_enter Tryz.func10,Tryz.ntmps10
 go_wp2_with (first
  | ((with_reducible refine hf.out.mono ?_);rintro e w1 ⟨rfl,rfl⟩))
 go_ret2
 exact ⟨rfl,rfl⟩
structure DpoI (S:List StL) (w0:World) (most:Nat) (R:List DpL) (f n:Nat) (wr:World) (vi vo:Value) (ids:List Txt) (L D:List DpL):Prop where
 s:DptS L D
 ok:DptsOk L
 inv:DptI S D
 own:OwnDpts wr w0.heap.size vo L
 owni:OwnIds wr w0.heap.size vi ids
 iok : ∀ x∈ids,x.length=32
 fuel:FuelD S f D ids
 num:n≤most+1
 res:levQ S most f D ids n=R
 bel:Below w0.heap.size w0 wr
def DpoR (S:List StL) (R:List DpL) (B:Nat) (v:Value) (w':World):Prop := ∃ L,DptS L R∧DptsOk L∧OwnDpts w' B v L
set_option maxRecDepth 100000 in
set_option maxHeartbeats 4000000 in
theorem depOf_calls {S:List StL} {w:World} {sb p:Nat} {vs vf:Value} {ini:List Txt} (hS:StoAt w sb p vs S) (hvf:Ids w vf ini) (hini : ∀ x∈ini,x.length=32) (hil:ini.length≤800000) (most:Nat) (h1:1≤most) (h2:most≤1048576) :
 Calls Tryz.prog 10 #[.pointer (some ⟨p,0,none⟩),vf, .int .i64 most] w fun e w' => ∃ v,e = .returned (.tuple #[v, .int .i64 0])∧DpoR S (depS S most (endsM S ini)) w.heap.size v w'∧Below w.heap.size w w':=by
 have hf:=Lib.hid (fineB_calls most w)
 rw [decide_eq_true (show 1≤(most:Int)∧(most:Int)≤1048576 by omega)] at hf
 have hR:=dep_lev (S:=S) h1 (endsM S ini)
 obtain ⟨R,hRe⟩ : ∃ R,depS S most (endsM S ini)=R:=⟨_,rfl⟩
 rw [hRe] at hR ⊢
 clear hRe
 have hSl:S.length≤500000:=hS.ok.few
 have hSr:=fun wr (hW:Below w.heap.size w wr)=>hS.below hW
 have hfin:ini.take ini.length=ini:=List.take_length
 have hEok:=endsM_ok (S:=S) hini
 obtain ⟨Ai,ci,rfl,hi1,hi2,hat⟩:=hvf
 replace hR:=Lib.hid hR
 have h0:OwnIds w w.heap.size (.slice none 0 0) (endsM S (ini.take 0)):=World.ownsRow_nil _ _ _ _
 clear hS
 go_enter Tryz.func10,Tryz.ntmps10
 go_wp2_with (first
  | ((with_reducible refine hf.out.mono ?_);rintro e w1 ⟨rfl,hw1⟩;obtain rfl:=hw1.symm))
 clear hf
 go_loopg [8,20] ini.length (fun f v8 v20 wr => ∃ (vi:Value) (k:Nat),vi=v8∧v20 = .int .i64 k∧k+f=ini.length∧OwnIds wr w.heap.size vi (endsM S (ini.take k))∧Below w.heap.size w wr)
 case atStart=>exact ⟨_,0,rfl,rfl,by omega,h0,Below.refl _ _⟩
 case round=>
  obtain ⟨vi,k,rfl,rfl,hkf,hown,hbel⟩:=hrel
  cases gk with
  | zero=>
    have hki : ¬ (k:Int)<(ini.length:Int):=by omega
    obtain rfl:k=ini.length:=by omega
    rw [hfin] at hown
    have hst:DpoI S w most R (S.length+2) 1 wr vi (.slice none 0 0) (endsM S ini) [] []:=⟨DptS.nil,(fun x hx=>by cases hx),DptI.nil,World.ownsRow_nil _ _ _ _,hown,hEok, .inr (by simp),by omega,hR.out,hbel⟩
    clear hat hown h0 hfin hEok hR hini hil hi1 hi2 hkf hki hbel
    go_wp2_with (fail)
    go_loopg [8,13,14] (S.length+2) (fun f v8 v13 v14 wr => ∃ (vi vo:Value) (ids:List Txt) (L D:List DpL) (n:Nat),vi=v8∧vo=v13∧v14 = .int .i64 n∧DpoI S w most R f n wr vi vo ids L D)
    case atStart=>exact ⟨_,_,_,_,_,1,rfl,rfl,rfl,hst⟩
    case round=>
     obtain ⟨vi,vo,ids,L,D,n,rfl,rfl,rfl,hr⟩:=hrel
     have hbs:=hr.bel.size
     obtain ⟨Ad,cd,rfl⟩:=own_form' hr.owni
     by_cases hn:n≤most
     ·have hni:(n:Int)≤(most:Int):=by omega
      by_cases hids:ids=[]
      ·have hli : ¬ (0:Int)<(ids.length:Int):=by rw [hids];simp
       have hre:=hr.res
       rw [lev_end (fun h=>h.2 hids)] at hre
       have hres:DpoR S R w.heap.size vo wr:=⟨L,hre▸hr.s,hr.ok,hr.own⟩
       have hb:=hr.bel
       clear hr hre hids hSr hst
       go_wp2_with (fail)
       go_ret2
       exact ⟨_,rfl,hres,hb⟩
      ·have hfp:=hr.fuel.pos hr.inv hids
       obtain ⟨f,rfl⟩ : ∃ f,gk=f+1:=⟨gk-1,by omega⟩
       have hli:(0:Int)<(ids.length:Int):=by
        have:=List.length_pos_iff.2 hids
        omega
       have hlev:=Lib.hid (depLevel_calls (hSr wr hr.bel) hbs hr.own hr.s hr.ok hr.inv hr.owni hr.iok n (by omega))
       clear hSr hst
       go_wp2_with (first
        | ((with_reducible refine hlev.out.mono ?_);rintro e w5 ⟨vo',vi',rfl,L',q1,q2,q3,q4,q5⟩))
       have hb5:Below w.heap.size w w5:=hr.bel.trans (q5.below hbs fun q hq=>(World.ownsRow.lt hr.own q (List.mem_singleton.1 hq).symm).1)
       have hnext:DpoI S w most R f (n+1) w5 vi' vo' (nextP S (addL S n D ids) D.length) L' (addL S n D ids):=⟨q1,q2,addL_I _ hr.inv,q3,own_low' q4 hbs,(nextP_small S _ _).2,hr.fuel.go hids,by omega,by rw [←lev_go hn hids];exact hr.res,hb5⟩
       clear hlev q1 q2 q3 q4 q5 hr hb5 hids hli
       go_roundg f
       case rel=>exact ⟨_,_,_,_,_,n+1,rfl,rfl,by go_num,hnext⟩
       case measure=>omega
     ·have hni : ¬ (n:Int)≤(most:Int):=by omega
      have hre:=hr.res
      rw [lev_end (fun h=>hn h.1)] at hre
      have hres:DpoR S R w.heap.size vo wr:=⟨L,hre▸hr.s,hr.ok,hr.own⟩
      have hb:=hr.bel
      clear hr hre hSr hst
      go_wp2_with (fail)
      go_ret2
      exact ⟨_,rfl,hres,hb⟩
  | succ f=>
    have hki:(k:Int)<(ini.length:Int):=by omega
    obtain ⟨ga,oa,rfl,hga,hca⟩:=hat (by omega)
    obtain ⟨x,hx⟩ : ∃ x,ini[k]?=some x:=⟨_,List.getElem?_eq_getElem (by omega)⟩
    have hxi:=hini x (List.mem_of_getElem? hx)
    have hbs:=hbel.size
    have hlx:(ldvI ⟨ga,oa+k*32,none⟩).run Tryz.prog wr = .ok (.agg (u8s x)) wr:=run_ldvI_at (show World.rangeAt wr ga (oa+k*32) (u8s x).toList from rangeAt_below (hca k x hx) hga hbel) hxi
    have hen:=fun W (hW:Below wr.heap.size wr W)=>Lib.hid (graEnd_calls (hSr W (bthen hbel hbs hW)) x hxi)
    have hmo:=endsM_more (S:=S) hx
    have hx32:(u8s x).size=32:=by rw [u8s_size,hxi]
    have hx1:=u8s_one x
    have hlm : ∀ W g (y:Txt),y.length=32→Blk W g 46 (u8s y)→(ldvI ⟨g,0,none⟩).run Tryz.prog W = .ok (.agg (u8s y)) W:=fun W g y hy h=>run_ldvI_at (range_blk h) hy
    have hlx2:=fun W g=>hlm W g x hxi
    have hzI:=zeroIdV
    have hZ32:(u8s noId).size=32:=by rw [u8s_size,noId_len]
    have hel:(endsM S (ini.take k)).length≤k:=Nat.le_trans endsM_len (by rw [List.length_take];omega)
    obtain ⟨E,hE⟩ : ∃ E,endsM S (ini.take k)=E:=⟨_,rfl⟩
    rw [hE] at hown hmo hel
    clear hat hca h0 hfin hE
    obtain ⟨XC,hXC⟩ : ∃ XC,u8s x=XC:=⟨_,rfl⟩
    rw [hXC] at hlx hx32 hx1
    simp only [hXC] at hen hlx2
    cases he:endS S (S.length+1) x with
    | none=>
      rw [he] at hmo
      simp only [he,endV] at hen
      have hown2 : ∀ W,Below wr.heap.size wr W→OwnIds W w.heap.size vi (endsM S (ini.take (k+1))):=fun W hW=>by rw [hmo,List.append_nil];exact own_below hown hW
      clear hmo he hlm hown hXC
      go_wp2_with (first
       | ((with_reducible refine lit_new 46 (.tmp 10) (.tmp 23) XC 32 sz32 hx32 hx1 _ ?_ ?_ ?_ ?_)
          ·first | exact hZ32 | rfl
          ·rfl
          ·rfl
          intro w2 hb2 hbl2
          have l2:=hlx2 w2 _ hb2
          have p2:=hen w2 hbl2)
       | ((with_reducible refine p2.out.mono ?_);rintro e w3 ⟨rfl,hb3⟩
          have b3:=bthen hbl2 hbl2.size hb3)
       | ((with_reducible refine lit_new 46 (.tmp 11) (.tmp 28) (u8s noId) 32 sz32 hZ32 (u8s_one noId) _ ?_ ?_ ?_ ?_)
          ·first | exact hZ32 | rfl
          ·rfl
          ·rfl
          intro w4 hb4 hbl4
          have b4:=bthen b3 b3.size hbl4))
      have o4:=hown2 w4 b4
      have bb4:=bthen hbel hbs b4
      clear hown2 hen hlx2 hb2 hb4
      go_roundg f
      case rel=>exact ⟨_,k+1,rfl,by go_num,by omega,o4,bb4⟩
      case measure=>omega
    | some m=>
      have hmi:=endS_ok _ _ _ hxi he
      have hm32:(u8s m).size=32:=by rw [u8s_size,hmi]
      have hm1:=u8s_one m
      have hm132:(u8s m).size=1*32:=hm32
      have hm1' : ∀ u∈(u8s m).toList,u.oneCell'=true:=idC_one m
      have hAk:E.length+1≤9223372036854775807:=by omega
      have hAb:(E.length+1)*32≤140737488355328:=by omega
      have hlm2:=fun W g=>hlm W g m hmi
      rw [he] at hmo
      simp only [he,endV] at hen
      clear he hlm hXC
      replace hmo:=Lib.hid hmo
      go_wp2_with (first
       | ((with_reducible refine lit_new 46 (.tmp 10) (.tmp 23) XC 32 sz32 hx32 hx1 _ ?_ ?_ ?_ ?_)
          ·first | exact hZ32 | rfl
          ·rfl
          ·rfl
          intro w2 hb2 hbl2
          have l2:=hlx2 w2 _ hb2
          have p2:=hen w2 hbl2)
       | ((with_reducible refine p2.out.mono ?_);rintro e w3 ⟨rfl,hb3⟩
          have b3:=bthen hbl2 hbl2.size hb3)
       | ((with_reducible refine lit_new 46 (.tmp 11) (.tmp 28) (u8s m) 32 sz32 hm32 hm1 _ ?_ ?_ ?_ ?_)
          ·first | exact hZ32 | rfl
          ·rfl
          ·rfl
          intro w4 hb4 hbl4
          have b4:=bthen b3 b3.size hbl4
          have l4:=hlm2 w4 _ hb4
          have hown4:=own_below hown b4
          have hz4:=Nat.le_trans hbs b4.size)
       | ((with_reducible refine lit_slice1 (.tmp 32) Tryz.idsTy (u8s m) hm32 (by omega) ?_ ?_);rfl)
       | ((with_reducible refine lit_append_new (.tmp 31) (.tmp 33) 1 _ Tryz.idsTy hown4 (u8s m) hm132 hm1' hAk hAb hz4 ?_ ?_ ?_);rfl;rfl
          intro v5 w5 ho5 hb5 _ _))
      have o5:OwnIds w5 w.heap.size v5 (endsM S (ini.take (k+1))):=by rw [hmo.out];exact own_snoc ho5
      have bb5:=(bthen hbel hbs b4).trans hb5
      clear hmo hown hown4 ho5 hen hlx2 hlm2 hb2 hb4 l4 l2 hm32 hm1 hm132 hm1' hAk hAb
      go_roundg f
      case rel=>exact ⟨_,k+1,rfl,by go_num,by omega,o5,bb5⟩
      case measure=>omega
end
section
attribute [local go_sem ↓] ldvI_eq ldvDpt_eq
def zDptA : Array Value:=(dptC ⟨List.replicate 32 0,0⟩).toArray
theorem zeroDpt (W:World):(zeroValue 48).run Tryz.prog W = .ok (.agg zDptA) W:=by
 have h:(Tryz.prog.info? 48).map (·.zero)=some (some (.agg zDptA)):=by kernel_rfl
 obtain ⟨i,h1,h2⟩:=Option.map_eq_some_iff.1 h
 simp [zeroValue,typeInfo,h1,h2]
def deepP (n:Nat) (p:DpL):Bool:=decide (p.n<n)
def shalP (S:List StL) (n:Nat) (p:DpL):Bool := !decide (p.n<n)&&decide (parS S p.id≠[])
def deepL (L:List DpL) (n:Nat):List Txt:=(L.filter (deepP n)).map DpL.id
def shalL (S:List StL) (L:List DpL) (n:Nat):List Txt:=(L.filter (shalP S n)).map DpL.id
section
variable {S:List StL} {L:List DpL} {n k:Nat} {x:DpL}
theorem deepL_more (h:L[k]?=some x):deepL (L.take (k+1)) n=deepL (L.take k) n++(if deepP n x=true then [x.id] else []):=by
 unfold deepL
 rw [List.take_add_one,h,List.filter_append,List.map_append]
 congr 1
 show ([x].filter _).map _=_
 rw [List.filter_cons,List.filter_nil]
 split<;>rfl
theorem shalL_more (h:L[k]?=some x):shalL S (L.take (k+1)) n=shalL S (L.take k) n++(if shalP S n x=true then [x.id] else []):=by
 unfold shalL
 rw [List.take_add_one,h,List.filter_append,List.map_append]
 congr 1
 show ([x].filter _).map _=_
 rw [List.filter_cons,List.filter_nil]
 split<;>rfl
theorem deepL_len : (deepL (L.take k) n).length≤k:=by
 unfold deepL
 rw [List.length_map]
 exact Nat.le_trans (List.length_filter_le _ _) (by rw [List.length_take];omega)
theorem shalL_len : (shalL S (L.take k) n).length≤k:=by
 unfold shalL
 rw [List.length_map]
 exact Nat.le_trans (List.length_filter_le _ _) (by rw [List.length_take];omega)
end
set_option maxRecDepth 100000 in
theorem depBoundNo_calls (vp vf:Value) (n:Int) (hn : ¬ (1≤n∧n≤1048576)) (w:World) :
 Calls Tryz.prog 11 #[vp,vf, .int .i64 n] w fun e w'=>e = .returned (.tuple #[.slice none 0 0, .slice none 0 0, .int .i64 1])∧w'=w:=by
 have hf:=Lib.hid (depOfNo_calls vp vf n hn w)
 go_enter Tryz.func11,Tryz.ntmps11
 go_wp2_with (first
  | ((with_reducible refine hf.out.mono ?_);rintro e w1 ⟨rfl,rfl⟩))
 go_ret3
 exact ⟨rfl,rfl⟩
def BoundR (S:List StL) (R:List DpL) (n:Nat) (B:Nat) (va vb:Value) (w':World):Prop := ∃ L,DptS L R∧(∀ x∈L,x.id.length=32)∧OwnIds w' B va (shalL S L n)∧OwnIds w' B vb (deepL L n)
set_option maxRecDepth 100000 in
set_option maxHeartbeats 4000000 in
theorem depBound_calls {S:List StL} {w:World} {sb p:Nat} {vs vf:Value} {ini:List Txt} (hS:StoAt w sb p vs S) (hvf:Ids w vf ini) (hini : ∀ x∈ini,x.length=32) (hil:ini.length≤800000) (n:Nat) (h1:1≤n) (h2:n≤1048576) :
 Calls Tryz.prog 11 #[.pointer (some ⟨p,0,none⟩),vf, .int .i64 n] w fun e w' => ∃ va vb,e = .returned (.tuple #[va,vb, .int .i64 0])∧BoundR S (depS S n (endsM S ini)) n w.heap.size va vb w'∧Below w.heap.size w w':=by
 have hof:=Lib.hid (depOf_calls hS hvf hini hil n h1 h2)
 have hI:=depS_I S n (endsM S ini)
 obtain ⟨R,hR⟩ : ∃ R,depS S n (endsM S ini)=R:=⟨_,rfl⟩
 rw [hR] at hof hI ⊢
 clear hR
 have hSl:S.length≤500000:=hS.ok.few
 have hSr:=fun wr (hW:Below w.heap.size w wr)=>hS.below hW
 clear hS hvf
 go_enter Tryz.func11,Tryz.ntmps11
 go_upto_region 4 with (first
  | ((with_reducible refine hof.out.mono ?_);rintro e w1 ⟨v1,rfl,⟨L,hLs,hLok,hLo⟩,hb1⟩
     obtain ⟨Al,cl,rfl⟩:=own_form' hLo))
 have hLl:L.length≤500000:=by rw [hLs.len];exact Nat.le_trans hI.len hSl
 have hLi:=SliceAt.of_own (dptK hLok) hLo
 obtain ⟨A',c',he,_,_,hat⟩:=hLi
 injection he with e1 _ e3
 subst e1
 subst e3
 have z1:=hb1.size
 have h0a:OwnIds w1 w1.heap.size (.slice none 0 0) (shalL S (L.take 0) n):=World.ownsRow_nil _ _ _ _
 have h0b:OwnIds w1 w1.heap.size (.slice none 0 0) (deepL (L.take 0) n):=World.ownsRow_nil _ _ _ _
 have hfin:L.take L.length=L:=List.take_length
 clear hof hI hLo
 go_wp2_with (fail)
 go_loopg [6,7,26] L.length (fun f v6 v7 v26 wr => ∃ (va vb:Value) (k:Nat) (SH DP:List Txt),va=v6∧vb=v7∧v26 = .int .i64 k∧k+f=L.length∧SH=shalL S (L.take k) n∧DP=deepL (L.take k) n∧OwnIds wr w1.heap.size va SH∧OwnIds wr w1.heap.size vb DP∧(∀ q,va.ownBlock=some q→vb.ownBlock≠some q)∧Below w1.heap.size w1 wr)
 case atStart=>exact ⟨_,_,0,_,_,rfl,rfl,rfl,by omega,rfl,rfl,h0a,h0b,fun q hq=>(by cases hq),Below.refl _ _⟩
 case round=>
  obtain ⟨va,vb,k,SH,DP,rfl,rfl,rfl,hkf,hSH,hDP,hoa,hob,hap,hbel⟩:=hrel
  have hbs:=hbel.size
  cases gk with
  | zero=>
    have hki : ¬ (k:Int)<(L.length:Int):=by omega
    obtain rfl:k=L.length:=by omega
    rw [hfin] at hSH hDP
    subst hSH
    subst hDP
    have hres:BoundR S R n w.heap.size va vb wr:=⟨L,hLs,fun x hx=>(hLok x hx).1,own_low' hoa z1,own_low' hob z1⟩
    have hb:=bthen hb1 z1 hbel
    clear hat hSr h0a h0b hLs hLok hoa hob
    go_wp2_with (fail)
    go_ret3
    exact ⟨_,_,rfl,hres,hb⟩
  | succ f=>
    have hki:(k:Int)<(L.length:Int):=by omega
    obtain ⟨ga,oa,rfl,hga,hca⟩:=hat (by omega)
    obtain ⟨x,hx⟩ : ∃ x,L[k]?=some x:=⟨_,List.getElem?_eq_getElem (by omega)⟩
    have hxok:=hLok x (List.mem_of_getElem? hx)
    have hxi:=hxok.1
    have hlx:=run_ldvDpt (rangeAt_below (hca k x hx) hga hbel) hxok
    have hx33:(dptC x).toArray.size=33:=by rw [List.size_toArray,dptC_len hxok]
    have hx1:(dptC x).toArray.all (·.oneCell')=true:=all_oneCell_toArray (dptC_one x)
    have hxa:=dptC_all x
    have hli : ∀ W g,Blk W g 48 (dptC x).toArray→(ldvI ⟨g,0,none⟩).run Tryz.prog W = .ok (.agg (u8s x.id)) W:=fun W g h=>by
     have:=range_blk h
     rw [List.toList_toArray] at this
     exact run_ldvI_at (dptC_id this) hxi
    have hln : ∀ W g,Blk W g 48 (dptC x).toArray→W.cell? ⟨g,32,none⟩=some (.int .i64 x.n):=fun W g h=>by
     have:=range_blk h
     rw [List.toList_toArray] at this
     have:=dptC_n hxi this
     rwa [Nat.zero_add] at this
    have hob':=fun W (hW:Below wr.heap.size wr W)=>Lib.hid (stoObjK_calls (hSr W (bthen hb1 z1 (bthen hbel hbs hW))) x.id hxi)
    have hms:=shalL_more (S:=S) (n:=n) hx
    have hmd:=deepL_more (n:=n) hx
    rw [←hSH] at hms
    rw [←hDP] at hmd
    have hSHl:SH.length≤k:=by rw [hSH];exact shalL_len
    have hDPl:DP.length≤k:=by rw [hDP];exact deepL_len
    have hi32:(u8s x.id).size=32:=by rw [u8s_size,hxi]
    have hi132:(u8s x.id).size=1*32:=hi32
    have hi1' : ∀ u∈(u8s x.id).toList,u.oneCell'=true:=idC_one x.id
    have hAk:SH.length+1≤9223372036854775807:=by omega
    have hAb:(SH.length+1)*32≤140737488355328:=by omega
    have hBk:DP.length+1≤9223372036854775807:=by omega
    have hBb:(DP.length+1)*32≤140737488355328:=by omega
    obtain ⟨hps1,hps2⟩:=par_small S x.id
    have hz72:=zObj_size
    have hzo:=zeroObj
    have hzD:=zeroDpt
    have hZ33:zDptA.size=33:=by rfl
    have hdp:deepP n x=decide (x.n<n):=rfl
    have hsp:shalP S n x=(!decide (x.n<n)&&decide (parS S x.id≠[])):=rfl
    obtain ⟨XC,hXC⟩ : ∃ XC,u8s x.id=XC:=⟨_,rfl⟩
    obtain ⟨DC,hDC⟩ : ∃ DC,(dptC x).toArray=DC:=⟨_,rfl⟩
    obtain ⟨XN,hXN⟩ : ∃ XN,x.n=XN:=⟨_,rfl⟩
    rw [hDC] at hlx hx33 hx1
    simp only [hDC,hXC] at hli hob'
    simp only [hDC,hXN] at hln
    rw [hXN] at hdp hsp
    rw [hXC] at hi32 hi132 hi1'
    replace hXC:=Lib.hid hXC
    have hne : ∀ q,vb.ownBlock=some q→va.ownBlock≠some q:=fun q hq h=>hap q h hq
    clear hat hca hSH hDP hfin h0a h0b hx hxa hDC hXN hLs hLok hSr
    go_upto_region 8 with (first
     | ((with_reducible refine lit_new 48 (.tmp 11) (.tmp 29) DC 33 szDpt hx33 hx1 _ ?_ ?_ ?_ ?_)
        ·first | exact hZ33 | rfl
        ·rfl
        ·rfl
        intro w2 hb2 hbl2
        have l2:=hli w2 _ hb2
        have p2:=hob' w2 hbl2)
     | ((with_reducible refine p2.out.mono ?_);rintro e w3 ⟨⟨OC,K,th,vo,rfl,hc72,hcone,hc0,hc35,hvo,hk3⟩,hb3⟩
        have b3:=bthen hbl2 hbl2.size hb3)
     | ((with_reducible refine lit_new 59 (.tmp 12) (.tmp 35) OC 72 szObj hc72 hcone _ ?_ ?_ ?_ ?_)
        ·first | exact hz72 | rfl
        ·rfl
        ·rfl
        intro w4 hb4 hbl4))
    have b4:=bthen b3 b3.size hbl4
    have d4:=(hb2.below hb3 hb2.lt).below hbl4 (hb2.below hb3 hb2.lt).lt
    have i4:=hli w4 _ d4
    have n4:=hln w4 _ d4
    have c35:w4.cell? ⟨w3.heap.size,35,none⟩=some vo:=by rw [hb4.cell];exact hc35
    have hvo4:=own_below hvo hbl4
    obtain ⟨Ao,co,rfl⟩:=own_form' hvo4
    have hoa4:=own_below hoa b4
    have hob4:=own_below hob b4
    have hz4:=Nat.le_trans hbs b4.size
    have b14:=bthen hbel hbs b4
    clear p2 l2 hli hln hob' hlx hb2 hcone hc72 hc0 hbl4 hbl2 hb3 hk3 hvo hvo4 hb4 hc35 d4 hoa hob
    by_cases hd:XN<n
    ·have hdi:(XN:Int)<(n:Int):=by omega
     rw [decide_eq_true hd] at hdp hsp
     rw [hdp,if_pos rfl] at hmd
     rw [hsp,if_neg (by simp),List.append_nil] at hms
     clear hdp hsp hd hps2
     replace hmd:=Lib.hid hmd
     replace hms:=Lib.hid hms
     go_wp2_with (first
      | ((with_reducible refine lit_slice1 (.tmp 44) Tryz.idsTy XC hi32 (by omega) ?_ ?_);rfl)
      | ((with_reducible refine lit_append_new (.tmp 42) (.tmp 45) 1 _ Tryz.idsTy hob4 XC hi132 hi1' hBk hBb hz4 ?_ ?_ ?_);rfl;rfl
         intro v5 w5 ho5 hb5 hg5 hn5))
     have hoa5:OwnIds w5 w1.heap.size va SH:=(Far.of_grown hg5).own hoa4 fun q hq hm=>hap q hq (List.mem_singleton.1 hm).symm
     have hob5:OwnIds w5 w1.heap.size v5 (DP++[x.id]):=own_snoc (by rw [hXC.out];exact ho5)
     have hap5 : ∀ q,va.ownBlock=some q→v5.ownBlock≠some q:=fun q hq h5=>by
      rcases hn5 with h6 | h6
      ·rw [h6] at h5;exact hap q hq h5
      ·have:=h6 q h5
       have:=(World.ownsRow.lt hoa4 q hq).2
       omega
     have b15:=b14.trans hb5
     clear ho5 hob4 hoa4 hg5 hn5 hap hne
     go_roundg f
     case rel=>exact ⟨_,_,k+1,_,_,rfl,rfl,by go_num,by omega,hms.out.symm,hmd.out.symm,hoa5,hob5,hap5,b15⟩
     case measure=>omega
    ·have hdi : ¬ (XN:Int)<(n:Int):=by omega
     rw [decide_eq_false hd] at hdp hsp
     rw [hdp,if_neg (by simp),List.append_nil] at hmd
     by_cases hp:parS S x.id=[]
     ·have hli0 : ¬ (0:Int)<((parS S x.id).length:Int):=by rw [hp];simp
      rw [hsp,hp,if_neg (by simp),List.append_nil] at hms
      clear hdp hsp hd hp hps1 hps2
      replace hmd:=Lib.hid hmd
      replace hms:=Lib.hid hms
      go_wp2_with (fail)
      go_roundg f
      case rel=>exact ⟨_,_,k+1,_,_,rfl,rfl,by go_num,by omega,hms.out.symm,hmd.out.symm,hoa4,hob4,hap,b14⟩
      case measure=>omega
     ·have hli0:(0:Int)<((parS S x.id).length:Int):=by
       have:=List.length_pos_iff.2 hp
       omega
      rw [hsp,if_pos (by simp [hp])] at hms
      clear hdp hsp hd hp hps1 hps2
      replace hmd:=Lib.hid hmd
      replace hms:=Lib.hid hms
      go_wp2_with (first
       | ((with_reducible refine lit_slice1 (.tmp 54) Tryz.idsTy XC hi32 (by omega) ?_ ?_);rfl)
       | ((with_reducible refine lit_append_new (.tmp 52) (.tmp 55) 1 _ Tryz.idsTy hoa4 XC hi132 hi1' hAk hAb hz4 ?_ ?_ ?_);rfl;rfl
          intro v5 w5 ho5 hb5 hg5 hn5))
      have hob5:OwnIds w5 w1.heap.size vb DP:=(Far.of_grown hg5).own hob4 fun q hq hm=>hne q hq (List.mem_singleton.1 hm).symm
      have hoa5:OwnIds w5 w1.heap.size v5 (SH++[x.id]):=own_snoc (by rw [hXC.out];exact ho5)
      have hap5 : ∀ q,v5.ownBlock=some q→vb.ownBlock≠some q:=fun q h5 hq=>by
       rcases hn5 with h6 | h6
       ·rw [h6] at h5;exact hap q h5 hq
       ·have:=h6 q h5
        have:=(World.ownsRow.lt hob4 q hq).2
        omega
      have b15:=b14.trans hb5
      clear ho5 hob4 hoa4 hg5 hn5 hap hne
      go_roundg f
      case rel=>exact ⟨_,_,k+1,_,_,rfl,rfl,by go_num,by omega,hms.out.symm,hmd.out.symm,hoa5,hob5,hap5,b15⟩
      case measure=>omega
end
section
def ObjQ (S:List StL) (n:Txt) (e:Ending) (w:World):Prop := ∃ X vp,e = .returned (.agg X)∧X.size=72∧X.all (·.oneCell')=true∧X[35]?=some vp∧Ids w vp (parS S n)
theorem docObjQ_calls {w w0:World} {vm:Value} {es:List DiL} (h:DocSt w0 vm es) (hb:Below w0.heap.size w0 w) (n:Txt) (hn:n.length=32):Calls Tryz.prog 17 #[.agg #[vm], .agg (u8s n)] w fun e w'=>ObjQ (es.map (·.st)) n e w0∧Below w.heap.size w w':=by
 refine (docObjectW_calls h hb n hn).mono fun e w' ⟨q1,q2⟩=>⟨?_,q2⟩
 unfold ObjG at q1
 unfold ObjQ
 cases hG:getS (es.map (·.st)) n with
 | none=>
   rw [hG] at q1
   have hp:parS (es.map (·.st)) n=[]:=by unfold parS;rw [objS_none hG]
   rw [hp]
   exact ⟨zObj, .slice none 0 0,q1,zObj_size,zObj_one,by kernel_rfl,SliceAt.nil⟩
 | some x=>
   rw [hG] at q1
   obtain ⟨o,A1,A2,k1,k2,hd,rfl,hv⟩:=q1
   have ho:=objS_some hG hd
   have hp:parS (es.map (·.st)) n=o.pars:=by unfold parS;rw [ho]
   refine ⟨_, .slice A2 o.pars.length k2,rfl,by rw [List.size_toArray,objC_len hv.ok],objC_all o A1 A2 _ k1 _ k2,?_,?_⟩
   ·rw [List.getElem?_toArray];exact (objC_at hv.ok.tree _ _).1
   ·rw [hp];exact hv.pars
def parF (w0:World) (S:List StL) (n:Txt) (v:Value) (_:Foot) (_:World):Prop := ∃ X vp,v = .agg X∧X.size=72∧X.all (·.oneCell')=true∧X[35]?=some vp∧Ids w0 vp (parS S n)
theorem parF_stab (w0:World) (S:List StL) (n:Txt) (v:Value):Stab (parF w0 S n v):=fun _ _ _ _ _ _ h=>h
def parsV : Value→Value | .agg xs=>xs.getD 35 undef | _=>undef
theorem parsV_at {X:Array Value} {vp:Value} (h:X[35]?=some vp):parsV (.agg X)=vp:=by
 obtain ⟨h1,h2⟩:=Array.getElem?_eq_some_iff.1 h
 simp [parsV,Array.getD,h1,h2]
section
variable {P:Program} {T:TypeId} {ops:Array Oper} {pres:Pres} {sps:List Sp} {E:Act→Facts→Prop} {i:Nat} {rest:List Oper} {s:Sp} {ss:List Sp} {a:Act} {D:Facts}
theorem lx_fpar (hf : ∀ (X:Array Value) (v:Value),X[35]?=some v → ∀ W,(Instr.field T (.agg X) 4).run P W = .ok v W) {w0:World} {rows:List (Option Nat)} {d:Option Tmp} {rt:TypeId} {pos:String} {af:Array Edge} {x:Operand} (hs:s = .det fun ρ=>parsV (ρ.headD undef)) (h : ∃ v,a.eval x=v∧(∀ w,Far rows w0 w→Have ops pres i D w → ∃ (X:Array Value) (vp:Value),v = .agg X∧X[35]?=some vp)∧LxL P ops w0 rows pres sps E (i+1) rest ss (a.put d (parsV v)) D) :
 LxL P ops w0 rows pres sps E i ({ dst:=d,op := .field T x 4,type:=rt,pos:=pos,after:=af,guard:=none }::rest) (s::ss) a D:=by
 obtain ⟨_,rfl,hc,h⟩:=h
 subst hs
 unfold LxL
 rw [if_pos (by simp [Region.wanted])]
 have hv:parsV ((vals { dst:=d,op := .field T x 4,type:=rt,pos:=pos,after:=af,guard:=none } a).headD undef)=parsV (a.eval x):=rfl
 refine ⟨fun w hw hh=>?_,fun v hv'=>by rw [show v=parsV (a.eval x) from hv'.trans hv];exact h⟩
 obtain ⟨X,vp,hx,hp⟩:=hc w hw hh
 refine does_val (v:=parsV (a.eval x)) ?_ ⟨hv.symm,Below.refl _ _⟩
 unfold execOp
 simp only [hx,hf X vp hp,Sem.run_bind,Sem.run_pure,Result.andThen_ok,parsV_at hp]
end
end
section
def bldD (fs:Array (Nat×Value)):Sem Value:=Instr.build 55 fs
theorem bldD_eq (fs:Array (Nat×Value)):Instr.build 55 fs=bldD fs:=rfl
attribute [local go_sem ↓] ldvI_eq ldvS_eq bldD_eq
abbrev OwnDdts (w:World) (base:Nat) (v:Value) (l:List DpL):Prop:=w.ownsRow base 55 33 v l.length (rowsOf dptC l)
theorem OwnDdts.at_ {w:World} {base:Nat} {v:Value} {l:List DpL} (hok:DptsOk l) (h:OwnDdts w base v l):Dpts w v l:=SliceAt.of_own (dptK hok) h
def atD (D:List DpL) (n:Txt):Nat:=match D.find? fun p=>decide (p.id=n) with
 | some p=>p.n
 | none=>0
theorem atD_drop {D:List DpL} {k:Nat} {x:DpL} (h:D[k]?=some x) (n:Txt):atD (D.drop k) n=if x.id=n then x.n else atD (D.drop (k+1)) n:=by
 obtain ⟨hlt,he⟩:=List.getElem?_eq_some_iff.1 h
 unfold atD
 rw [List.drop_eq_getElem_cons hlt,he,List.find?_cons]
 by_cases hx:x.id=n
 ·simp [hx]
 ·simp [hx]
theorem atD_no {D:List DpL} {n:Txt} (h:inL (D.map DpL.id) n=false):atD D n=0:=by
 unfold atD
 rw [List.find?_eq_none.2 fun p hp hd=>?_]
 have:n∈D.map DpL.id:=List.mem_map.2 ⟨p,hp,by simpa using hd⟩
 rw [inL_iff.2 this] at h
 cases h
theorem atD_mem {D:List DpL} (hI:(D.map DpL.id).Nodup) : ∀ {p:DpL},p∈D→atD D p.id=p.n:=by
 induction D with
 | nil=>intro p hp;cases hp
 | cons q D ih=>
   intro p hp
   unfold atD
   rw [List.find?_cons]
   rcases List.mem_cons.1 hp with rfl | hp
   ·simp
   ·have hq:q.id≠p.id:=fun e=>(List.nodup_cons.1 hI).1 (List.mem_map.2 ⟨p,hp,e.symm⟩)
    simp only [hq,decide_false]
    exact ih (List.nodup_cons.1 hI).2 hp
theorem atD_pos {D:List DpL} (hI:(D.map DpL.id).Nodup) (hp : ∀ p∈D,1≤p.n) {n:Txt} (h:inL (D.map DpL.id) n=true):1≤atD D n:=by
 obtain ⟨p,hpm,rfl⟩:=List.mem_map.1 (inL_iff.1 h)
 rw [atD_mem hI hpm]
 exact hp p hpm
set_option maxRecDepth 100000 in
set_option maxHeartbeats 2000000 in
theorem refAtD_calls (D:List DpL) (hok:DptsOk D) (v:Value) (n:Txt) (hn:n.length=32) (w:World) (hv:Dpts w v D) :
 Calls Tryz.prog 13 #[v, .agg (u8s n)] w fun e w'=>e = .returned (.int .i64 (atD D n))∧Below w.heap.size w w':=by
 obtain ⟨W1,hW1⟩ : ∃ W1,w.alloc (.cells (u8s n) 46)=W1:=⟨_,rfl⟩
 have n1:Blk W1 w.heap.size 46 (u8s n):=by rw [←hW1];exact Blk.new _ _ _
 have b1:Below w.heap.size w W1:=by rw [←hW1];exact (Below.refl _ _).alloc (Nat.le_refl _) _
 have hG0:Hid (atD (D.drop 0) n=atD D n):=rfl
 have lnn:=fun W (hW:Below W1.heap.size W1 W)=>run_ldvI_at (range_blk (n1.below hW n1.lt)) hn
 obtain ⟨A,cap,rfl,hcap1,hcap2,hat⟩:=hv
 generalize atD D n=G at *
 go_enter Tryz.func13,Tryz.ntmps13
 go_wp2
 go_loopg [5] D.length (fun f vi wr => ∃ k:Nat,vi = .int .i64 k∧k+f=D.length∧Hid (atD (D.drop k) n=G)∧Below W1.heap.size W1 wr)
 case atStart=>exact ⟨0,rfl,by omega,hG0,Below.refl _ _⟩
 case round=>
  obtain ⟨k,rfl,hkf,hrel,hbel⟩:=hrel
  clear hW1
  cases gk with
  | succ f=>
    have hki:(k:Int)<(D.length:Int):=by omega
    obtain ⟨ga,oa,rfl,hga,hca⟩:=hat (by omega)
    obtain ⟨x,hx⟩ : ∃ x,D[k]?=some x:=⟨_,List.getElem?_eq_getElem (by omega)⟩
    have hxok:=hok x (List.mem_of_getElem? hx)
    have hxi:=hxok.1
    have hxr:=fun W (hW:Below W1.heap.size W1 W)=>rangeAt_below (hca k x hx) hga (bthen b1 b1.size hW)
    have hlx : ∀ W,Below W1.heap.size W1 W→(ldvI ⟨ga,oa+k*33,none⟩).run Tryz.prog W = .ok (.agg (u8s x.id)) W:=fun W hW=>run_ldvI_at (dptC_id (hxr W hW)) hxi
    have hln : ∀ W,Below W1.heap.size W1 W→W.cell? ⟨ga,oa+k*33+32,none⟩=some (.int .i64 x.n):=fun W hW=>dptC_n hxi (hxr W hW)
    have heq:=fun W=>run_eql_id W x.id n hxi hn
    have hmd:=atD_drop hx n
    obtain ⟨bo,hbo⟩ : ∃ bo,decide (x.id=n)=bo:=⟨_,rfl⟩
    rw [hbo] at heq
    have hmd2:Hid (atD (D.drop k) n=if bo=true then x.n else atD (D.drop (k+1)) n):=Lib.hid (by rw [hmd,←hbo];simp)
    clear hx hca hat hok hbo hmd hxr
    go_upto_region 4 with (fail)
    refine wp_region_go0 7 (by kernel_rfl) (by kernel_rfl) (by kernel_rfl) (by kernel_rfl) ?_
    simp only [exSp]
    iterate 7 apply Exists.intro
    repeat
     first
      | ((with_reducible apply lx0_ex)
         ·(go_simp;done)
         apply Exists.intro
         apply And.intro
         ·apply Eq.refl
         apply And.intro
         ·intro W hW hD
          have hW2:=hbel.trans (hW.mono hbel.size)
          have q0:=lnn W hW2
          have q1:=hlx W hW2
          have q2:=heq W
          go_simp
          first
           | rfl
           | (simp only [Sem.run_bind,run_eqGuard_agg _ _ _ _ _ _ _ Tryz.eqGuardType46,q2,Result.andThen_ok];rfl)
         simp only [Act.put,zA,zB,zC])
      | ((with_reducible apply lx0_pass)
         ·(first | rfl | (go_simp;done))
         ·apply Eq.refl
         simp only [Act.put,zA,zB,zC])
    refine lx0_nil ?_ fun w5 hW5 hD5=>?_
    ·exact List.nodup_nil
    clear hD5 heq hlx
    have b5:=hbel.trans (hW5.mono hbel.size)
    have c5:=hln w5 b5
    clear hln
    cases bo with
    | false=>
      have hnext:Hid (atD (D.drop (k+1)) n=G):=Lib.hid (by rw [←hrel.out,hmd2.out,if_neg (by decide)])
      clear hrel hmd2
      go_wp2_with (fail)
      go_roundg f
      case rel=>exact ⟨k+1,by go_num,by omega,hnext,b5⟩
      case measure=>omega
    | true=>
      have hG:Hid (x.n=G):=Lib.hid (by rw [←hrel.out,hmd2.out,if_pos rfl])
      clear hrel hmd2
      go_wp2_with (fail)
      go_ret
      exact ⟨by rw [←hG.out];rfl,bthen b1 b1.size b5⟩
  | zero=>
    have hki : ¬ (k:Int)<(D.length:Int):=by omega
    have hG:Hid (G=0):=Lib.hid (by rw [←hrel.out,List.drop_eq_nil_of_le (by omega)];rfl)
    clear hrel hat
    go_wp2_with (fail)
    go_ret
    exact ⟨by rw [hG.out];rfl,bthen b1 b1.size hbel⟩
theorem preOkR {w:World} {B:Nat} {e:TypeId} {size n i:Nat} {v:Value} {xs:List Value} (h:w.ownsRow B e size v n xs):PreOk w [(i,v.ownBlock,fun w=>World.ownsRow w B e size v n xs)]:=PreOk.cons (PreOk.nil w) (fun q hq=>by simp at hq) (fun k hk=>(World.ownsRow.lt h k hk).2) h fun w' _ hs=>own_same h hs
theorem rowsR {i k:Nat} {row:Option Nat} {p:World→Prop} (h:some k∈rowsOfP [(i,row,p)]):row=some k:=by
 have:some k=row:=by simpa [rowsOfP] using h
 exact this.symm
theorem ownD_snoc {w:World} {B:Nat} {v:Value} {D:List DpL} {x:DpL} (h:w.ownsRow B 55 33 v (D.length+1) (rowsOf dptC D++(dptC x).toArray.toList)):OwnDdts w B v (D++[x]):=by
 unfold OwnDdts
 rw [List.length_append,List.length_singleton,rowsOf_append,rowsOf_one]
 rwa [List.toList_toArray] at h
theorem ddt_cell {w:World} {B ga oa c i:Nat} {D:List DpL} {p:DpL} (hok:DptsOk D) (h:OwnDdts w B (.slice (some ⟨ga,oa,none⟩) D.length c) D) (hp:D[i]?=some p):w.cell? ⟨ga,oa+i*33+32,none⟩=some (.int .i64 p.n):=by
 obtain ⟨A',c',he,_,_,hat⟩:=OwnDdts.at_ hok h
 injection he with e1 _ _
 have hi:=(List.getElem?_eq_some_iff.1 hp).1
 obtain ⟨g,o,e2,_,hc⟩:=hat (by omega)
 rw [e2] at e1
 injection e1 with e1
 injection e1 with e1 e3 _
 subst e1
 subst e3
 exact dptC_n (hok p (List.mem_of_getElem? hp)).1 (hc i p hp)
theorem endsD_snoc {l:List Txt} {k:Nat} {x:Txt} (h:l[k]?=some x):(l.take (k+1)).map (fun x=>(⟨x,1⟩:DpL))=(l.take k).map (fun x=>(⟨x,1⟩:DpL))++[⟨x,1⟩]:=by
 rw [List.take_add_one,h,List.map_append]
 rfl
structure DOfI (S:List StL) (most:Nat) (R:List DpL) (f i:Nat) (D:List DpL):Prop where
 inv:DptI S D
 ok:DptsOk D
 pos : ∀ p∈D,1≤p.n
 res:docQ S most f i D=R
 fuel:f+i=S.length+1
 le:i≤D.length
theorem DOfI.add {S:List StL} {most n:Nat} {D:List DpL} {x:Txt} (hI:DptI S D) (hok:DptsOk D) (hp : ∀ p∈D,1≤p.n) (hx:x.length=32) (hn:1≤n∧n≤2000000):DptI S (addD S n D x)∧DptsOk (addD S n D x) ∧ ∀ p∈addD S n D x,1≤p.n:=by
 refine ⟨addD_I hI x,?_,?_⟩
 ·intro p hp
  unfold addD at hp
  split at hp
  ·rcases List.mem_append.1 hp with hp | hp
   ·exact hok p hp
   ·rw [List.mem_singleton.1 hp];exact ⟨hx,hn.2⟩
  ·exact hok p hp
 ·intro p hp2
  unfold addD at hp2
  split at hp2
  ·rcases List.mem_append.1 hp2 with hp2 | hp2
   ·exact hp p hp2
   ·rw [List.mem_singleton.1 hp2];exact hn.1
  ·exact hp p hp2
def DOfR (R:List DpL) (B:Nat) (v:Value) (w':World):Prop:=OwnDdts w' B v R∧DptsOk R ∧ ∀ p∈R,1≤p.n
theorem run_bldD (p:DpL) (x:Txt) (hx:x.length=32) (hb:p.n+1≤2000000) (W:World):(bldD #[(0, .agg (u8s x)),(1, .int .i64 (IntKind.i64.wrap ((p.n:Int)+1)))]).run Tryz.prog W = .ok (.agg (dptC ⟨x,p.n+1⟩).toArray) W:=by
 have hw:IntKind.i64.wrap ((p.n:Int)+1)=((p.n+1:Nat):Int):=by rw [IntKind.wrap_i64];omega
 rw [hw]
 exact run_build (P:=Tryz.prog) W _ _ _ (built_ddt x (p.n+1) hx)
section
variable {w:World} {vm:Value} {es:List DiL}
set_option maxRecDepth 100000 in
set_option maxHeartbeats 16000000 in
theorem docOf_calls (h:DocSt w vm es) (ini:List Txt) (hiok : ∀ x∈ini,x.length=32) (hil:ini.length≤800000) (vf:Value) (hvf:Ids w vf ini) (most:Nat) (h1:1≤most) (h2:most≤1048576) :
 Calls Tryz.prog 12 #[.agg #[vm],vf, .int .i64 most] w fun e w' => ∃ v,e = .returned v∧DOfR (depS (es.map (·.st)) most (endsM (es.map (·.st)) ini)) w.heap.size v w'∧Below w.heap.size w w':=by
 obtain ⟨W1,hW1⟩ : ∃ W1,w.alloc (.cells #[vm] 28)=W1:=⟨_,rfl⟩
 have s1:Blk W1 w.heap.size 28 #[vm]:=by rw [←hW1];exact Blk.new _ _ _
 have b1:Below w.heap.size w W1:=by rw [←hW1];exact (Below.refl _ _).alloc (Nat.le_refl _) _
 have hsz1:=b1.size
 have l1:=fun W (hW:Below W1.heap.size W1 W)=>run_ldvS (s1.below hW s1.lt)
 have l11:=l1 W1 (Below.refl _ _)
 have hen:=Lib.hid (docEnds_calls (h.below b1) ini hiok hil vf (hvf.below b1))
 have hob:=fun W (hW:Below w.heap.size w W) (n:Txt) (hn:n.length=32)=>docObjQ_calls h hW n hn
 have hki:=fun W (hW:Below w.heap.size w W) (n:Txt) (hn:n.length=32)=>docKind_calls (h.below hW) n hn
 have hSl:es.length≤500000:=h.few
 obtain ⟨S,hS⟩ : ∃ S,es.map (·.st)=S:=⟨_,rfl⟩
 have hel:es.length=S.length:=by rw [←hS,List.length_map]
 rw [hS] at hen
 simp only [hS] at hob hki ⊢
 rw [hel] at hSl
 have hone:=ends_ones (S:=S) ini
 have hstart:DOfI S most (depS S most (endsM S ini)) (S.length+1) 0 (addL S 1 [] (endsM S ini)):=by
  have hE : ∀ l:List Txt,(∀ x∈l,x.length=32) → ∀ D:List DpL,DptI S D→DptsOk D→(∀ p∈D,1≤p.n)→DptI S (addL S 1 D l)∧DptsOk (addL S 1 D l) ∧ ∀ p∈addL S 1 D l,1≤p.n:=fun l=>by
   induction l with
   | nil=>exact fun _ D a b c=>⟨a,b,c⟩
   | cons x l ih=>
     intro hx D a b c
     obtain ⟨a',b',c'⟩:=DOfI.add (most:=most) (n:=1) a b c (hx x List.mem_cons_self) (by omega)
     exact ih (fun y hy=>hx y (List.mem_cons_of_mem _ hy)) _ a' b' c'
  obtain ⟨a,b,c⟩:=hE _ (endsM_ok hiok) [] DptI.nil (fun x hx=>by cases hx) (fun x hx=>by cases hx)
  exact ⟨a,b,c,rfl,rfl,Nat.zero_le _⟩
 rw [hone] at hstart
 obtain ⟨R,hR⟩ : ∃ R,depS S most (endsM S ini)=R:=⟨_,rfl⟩
 rw [hR] at hstart ⊢
 obtain ⟨EL,hEL⟩ : ∃ EL,endsL S ini=EL:=⟨_,rfl⟩
 rw [hEL] at hen hstart
 have hEl:EL.length≤500000:=by
  have h3:=hstart.inv.len
  rw [List.length_map] at h3
  omega
 clear hS h s1 hel hvf hil hone hR hEL
 go_enter Tryz.func12,Tryz.ntmps12
 go_wp2_with (first
  | ((with_reducible refine hen.out.mono ?_);rintro e w2 ⟨ve,rfl,hoe,heok,hb2⟩
     obtain ⟨Ae,ce,rfl⟩:=own_form' hoe))
 have hb12:=hb2
 obtain ⟨A',c',he,_,_,hat⟩:=SliceAt.of_own (idsK heok) hoe
 injection he with e1 _ e3
 subst e1
 subst e3
 have hd0:OwnDdts w2 w2.heap.size (.slice none 0 0) []:=World.ownsRow_nil _ _ _ _
 have hfinE:EL.take EL.length=EL:=List.take_length
 clear hen l11 hoe
 go_loopg [7,9] EL.length (fun f v7 v9 wr => ∃ (vo:Value) (k:Nat) (E:List DpL),vo=v7∧v9 = .int .i64 k∧k+f=EL.length∧Hid (E=(EL.take k).map fun x=>(⟨x,1⟩:DpL))∧E.length≤k∧OwnDdts wr w2.heap.size vo E∧Below w2.heap.size w2 wr)
 case atStart=>exact ⟨_,0,[],rfl,rfl,by omega,Lib.hid rfl,Nat.zero_le _,hd0,Below.refl _ _⟩
 case round=>
  obtain ⟨vo,k,E,rfl,rfl,hkf,hE,hEk,hown,hbel⟩:=hrel
  have hbs:=hbel.size
  obtain ⟨Ao,co,rfl⟩:=own_form' hown
  cases gk with
  | succ f=>
    have hki':(k:Int)<(EL.length:Int):=by omega
    obtain ⟨ga,oa,rfl,hga,hca⟩:=hat (by omega)
    obtain ⟨x,hx⟩ : ∃ x,EL[k]?=some x:=⟨_,List.getElem?_eq_getElem (by omega)⟩
    have hxi:=heok x (List.mem_of_getElem? hx)
    have hlx:(ldvI ⟨ga,oa+k*32,none⟩).run Tryz.prog wr = .ok (.agg (u8s x)) wr:=run_ldvI_at (show World.rangeAt wr ga (oa+k*32) (u8s x).toList from rangeAt_below (hca k x hx) hga hbel) hxi
    have hbd:=built_ddt x 1 hxi
    have hsn:=Lib.hid (endsD_snoc hx)
    have hD33:(dptC ⟨x,1⟩).toArray.size=33:=by rw [List.size_toArray];exact dptC_len ⟨hxi,by show 1≤2000000;omega⟩
    have hD133:(dptC ⟨x,1⟩).toArray.size=1*33:=hD33
    have hD1:=dptC_all ⟨x,1⟩
    have hE2:Hid (E++[⟨x,1⟩]=(EL.take (k+1)).map fun x=>(⟨x,1⟩:DpL)):=Lib.hid (by rw [hsn.out,←hE.out])
    have hEk2:(E++[(⟨x,1⟩:DpL)]).length≤k+1:=by rw [List.length_append,List.length_singleton];omega
    have hAk:E.length+1≤9223372036854775807:=by omega
    have hAb:(E.length+1)*40≤140737488355328:=by omega
    obtain ⟨DC,hDC⟩ : ∃ DC,(dptC ⟨x,1⟩).toArray=DC:=⟨_,rfl⟩
    obtain ⟨XC,hXC⟩ : ∃ XC,u8s x=XC:=⟨_,rfl⟩
    rw [hDC] at hbd hD33 hD133 hD1
    rw [hXC] at hbd hlx
    replace hDC:=Lib.hid hDC
    clear hXC hx hca hat hE hsn hd0 hfinE hob hki
    go_wp2_with (first
     | ((with_reducible refine lit_build2 hbd ?_ ?_ ?_);rfl;rfl)
     | ((with_reducible refine lit_slice1 (.tmp 27) Tryz.ddtTy DC hD33 (by omega) ?_ ?_);rfl)
     | ((with_reducible refine lit_append_new (.tmp 22) (.tmp 28) 1 _ Tryz.ddtTy hown DC hD133 hD1 hAk hAb hbs ?_ ?_ ?_);rfl;rfl
        intro v5 w5 ho5 hb5 _ _))
    have o5:OwnDdts w5 w2.heap.size v5 (E++[⟨x,1⟩]):=ownD_snoc (by rw [hDC.out];exact ho5)
    have b5:=hbel.trans hb5
    clear ho5 hown
    go_roundg f
    case rel=>exact ⟨_,k+1,_,rfl,by go_num,by omega,hE2,hEk2,o5,b5⟩
    case measure=>omega
  | zero=>
    have hki' : ¬ (k:Int)<(EL.length:Int):=by omega
    obtain rfl:k=EL.length:=by omega
    have hE3:=hE.out
    rw [hfinE] at hE3
    rw [←hE3] at hstart
    have hb02:=bthen b1 hsz1 hb2
    have hz2:=hb2.size
    clear hat hd0 hfinE heok hki' hkf hE hE3 hEk
    go_wp2_with (fail)
    go_loopg [7,10] (S.length+1) (fun f v7 v10 wr => ∃ (vo:Value) (i:Nat) (D:List DpL),vo=v7∧v10 = .int .i64 i∧DOfI S most R f i D∧OwnDdts wr w2.heap.size vo D∧Below w2.heap.size w2 wr)
    case atStart=>exact ⟨_,0,_,rfl,rfl,hstart,hown,hbel⟩
    case round=>
     clear hstart hown hbel hbs
     obtain ⟨vo,i,D,rfl,rfl,hr,hown,hbel⟩:=hrel
     have hbs:=hbel.size
     have hlen:=hr.inv.len
     obtain ⟨Ao,co,rfl⟩:=own_form' hown
     by_cases hi:i<D.length
     ·have hii:(i:Int)<(D.length:Int):=by omega
      obtain ⟨f,rfl⟩ : ∃ f,gk=f+1:=⟨gk-1,by have:=hr.fuel;omega⟩
      obtain ⟨p,hp⟩ : ∃ p,D[i]?=some p:=⟨_,List.getElem?_eq_getElem hi⟩
      have hpm:=List.mem_of_getElem? hp
      have hpok:=hr.ok p hpm
      have hpi:=hpok.1
      have hgo:Hid (docQ S most f (i+1) (if p.n<most then addL S (p.n+1) D (parS S p.id) else D)=R):=Lib.hid (by rw [←doc_go hp];exact hr.res)
      obtain ⟨A',c',he,_,_,hat⟩:=OwnDdts.at_ hr.ok hown
      injection he with e1 _ e3
      subst e1
      subst e3
      obtain ⟨ga,oa,rfl,hga,hca⟩:=hat (by omega)
      have hpr:=fun W (hW:Below wr.heap.size wr W)=>rangeAt_below (hca i p hp) hga hW
      have hlp : ∀ W,Below wr.heap.size wr W→(ldvI ⟨ga,oa+i*33,none⟩).run Tryz.prog W = .ok (.agg (u8s p.id)) W:=fun W hW=>run_ldvI_at (dptC_id (hpr W hW)) hpi
      have bw:=fun W (hW:Below wr.heap.size wr W)=>bthen hb02 hb02.size (bthen hbel hbs hW)
      have lSr:=fun W (hW:Below wr.heap.size wr W)=>l1 W (bthen hb12 hz2 (bthen hbel hbs hW))
      have hobp:=fun W (hW:Below wr.heap.size wr W)=>hob W (bw W hW) p.id hpi
      have hfld:=fun (X:Array Value) (v:Value) (h:X[35]?=some v) W=>run_field_pars h W
      obtain ⟨hps1,hps2⟩:=par_small S p.id
      clear hat hca hpr hob
      go_upto_region 10 with (fail)
      refine wp_region_go0 9 (by kernel_rfl) (by kernel_rfl) (by kernel_rfl) (by kernel_rfl) ?_
      simp only [exSp]
      iterate 9 apply Exists.intro
      repeat
       first
        | ((with_reducible apply lx0_ex)
           ·(go_simp;done)
           apply Exists.intro
           apply And.intro
           ·apply Eq.refl
           apply And.intro
           ·intro W hW hD
            have q0:=lSr W hW
            have q1:=hlp W hW
            go_simp
            rfl
           simp only [Act.put,zA,zB,zC])
        | ((with_reducible apply lx0_pass)
           ·(first | rfl | (go_simp;done))
           ·apply Eq.refl
           simp only [Act.put,zA,zB,zC])
        | ((with_reducible refine lx0_new (parF w S p.id) rfl ?_ (parF_stab _ _ _) ?_ ?_)
           ·(go_simp;done)
           ·intro W hW hD
            unfold doesAt Oper.wp execOp
            go_simp
            (with_reducible refine (hobp W hW).mono ?_)
            rintro e w' ⟨⟨X,vp,rfl,h1,h2,h3,h4⟩,hb⟩
            exact ⟨hb,fun _ _ _ _=>⟨X,vp,rfl,h1,h2,h3,h4⟩⟩
           intro v
           simp only [Act.put,zA,zB,zC])
        | ((with_reducible apply lx_fpar hfld)
           ·apply Eq.refl
           apply Exists.intro
           apply And.intro
           ·(go_simp;rfl)
           refine ⟨fun W hW hD=>?_,?_⟩
           ·obtain ⟨F,X,vp,rfl,_,_,h3,_⟩:=hD.at 0 rfl (by kernel_rfl)
            exact ⟨X,vp,rfl,h3⟩
           simp only [Act.put,zA,zB,zC])
        | (first | (with_reducible apply lx_move') | (with_reducible apply lx_assign')
           ·apply Eq.refl
           apply Exists.intro
           apply And.intro
           ·(go_simp;rfl)
           simp only [Act.put,zA,zB,zC])
      refine lx0_nil ?_ fun w5 hW5 hD5=>?_
      ·exact List.nodup_nil
      obtain ⟨_,X,vp,rfl,hX72,hX1,hXp,hvp⟩:=hD5 _ (.head _)
      rw [parsV_at hXp]
      have b5:=bthen hbel hbs hW5
      have hown5:=own_below hown hW5
      have bw5:=bthen (bthen hb02 hb02.size hbel) (bthen hb02 hb02.size hbel).size hW5
      obtain ⟨Avp,cvp,rfl,hvp1,hvp2,hatv⟩:=hvp
      clear hobp hlp lSr bw hD5 hown hfld
      have hz5:=b5.size
      obtain ⟨PS,hPS⟩ : ∃ PS,parS S p.id=PS:=⟨_,rfl⟩
      rw [hPS] at hps1 hps2 hgo hvp1 hatv
      simp only [hPS] at hatv ⊢
      by_cases hn:p.n<most
      ·have hni:(p.n:Int)<(most:Int):=by omega
       rw [if_pos hn] at hgo
       go_wp2_with (fail)
       go_loopg [7,12] PS.length (fun f3 v7 v12 wr => ∃ (vo:Value) (k:Nat) (D3:List DpL),vo=v7∧v12 = .int .i64 k∧k+f3=PS.length∧D3=addL S (p.n+1) D (PS.take k)∧DptI S D3∧DptsOk D3∧(∀ p∈D3,1≤p.n)∧D3[i]?=some p∧OwnDdts wr w2.heap.size vo D3∧Below w2.heap.size w2 wr)
       case atStart=>exact ⟨_,0,D,rfl,rfl,by omega,rfl,hr.inv,hr.ok,hr.pos,hp,hown5,hbel.trans (hW5.mono hbs)⟩
       case round=>
        have hfu:=hr.fuel
        clear hown5 b5 bw5 hW5 hr hbel hbs hga
        obtain ⟨vo,k,D3,rfl,rfl,hkf,hD3,hI3,hok3,hpos3,hp3,hown3,hbel⟩:=hrel
        have hbs:=hbel.size
        have hl3:=hI3.len
        have hi3:=(List.getElem?_eq_some_iff.1 hp3).1
        have hii3:(i:Int)<(D3.length:Int):=by omega
        obtain ⟨A3,c3,rfl⟩:=own_form' hown3
        cases gk with
        | zero=>
          have hki3 : ¬ (k:Int)<(PS.length:Int):=by omega
          have hke:PS.take k=PS:=List.take_of_length_le (by omega)
          rw [hke] at hD3
          have hnx:DOfI S most R f (i+1) D3:=⟨hI3,hok3,hpos3,by rw [hD3];exact hgo.out,by omega,by omega⟩
          clear hgo hD3 hI3 hok3 hpos3 hp3 hatv hki
          go_wp2_with (fail)
          go_roundg f
          case rel=>exact ⟨_,i+1,D3,rfl,by go_num,hnx,hown3,hbel⟩
          case measure=>omega
        | succ f3=>
          have hki3:(k:Int)<(PS.length:Int):=by omega
          obtain ⟨gp,op_,rfl,hgp,hcp⟩:=hatv (by omega)
          obtain ⟨x,hx⟩ : ∃ x,PS[k]?=some x:=⟨_,List.getElem?_eq_getElem (by omega)⟩
          have hxi:=hps2 x (List.mem_of_getElem? hx)
          have hA3 : ∃ g o,A3=some ⟨g,o,none⟩:=by
           obtain ⟨A',c',he,_,_,hat⟩:=OwnDdts.at_ hok3 hown3
           injection he with e1 _ _
           obtain ⟨g,o,e2,_⟩:=hat (by omega)
           exact ⟨g,o,e1.trans e2⟩
          obtain ⟨g3,o3,rfl⟩:=hA3
          have bww:=fun W (hW:Below w2.heap.size wr W)=>bthen hb02 hb02.size (hbel.trans hW)
          have hlx:=fun W (hW:Below w2.heap.size wr W)=>run_ldvI_at (show World.rangeAt W gp (op_+k*32) (u8s x).toList from rangeAt_below (hcp k x hx) hgp (bww W hW)) hxi
          have hlx0:=hlx wr (Below.refl _ _)
          have hN:=fun W (h:OwnDdts W w2.heap.size (.slice (some ⟨g3,o3,none⟩) D3.length c3) D3)=>ddt_cell hok3 h hp3
          have hN0:=hN wr hown3
          have hatx:=fun W (hW:Below wr.heap.size wr W)=>refAtD_calls D3 hok3 _ x hxi W (OwnDdts.at_ hok3 (own_below hown3 hW))
          have hkx:=fun W (hW:Below wr.heap.size wr W)=>hki W (bww W (hW.mono hbs)) x hxi
          have lSr:=fun W (hW:Below wr.heap.size wr W)=>l1 W (bthen hb12 hz2 (hbel.trans (hW.mono hbs)))
          have hadd:=DOfI.add (most:=most) (n:=p.n+1) hI3 hok3 hpos3 hxi ⟨by omega,by omega⟩
          have hmore:addL S (p.n+1) D (PS.take (k+1))=addD S (p.n+1) D3 x:=by rw [addL_more hx,←hD3]
          clear hx hcp hatv hki hok3 hD3
          cases hin:inL (D3.map DpL.id) x with
          | true=>
            have hz:=atD_pos hI3.nd hpos3 hin
            obtain ⟨N,hNe⟩ : ∃ N,atD D3 x=N:=⟨_,rfl⟩
            rw [hNe] at hz
            simp only [hNe] at hatx
            have hz0 : ¬ (N:Int)=0:=by omega
            have hz1:((N:Int)==0)=false:=by simp;omega
            rw [addD_no (.inl hin)] at hadd hmore
            replace hmore:=Lib.hid hmore
            clear hin hNe hkx hz
            go_upto_region 14 with (fail)
            refine wp_region_class (C:=fun W=>Below wr.heap.size wr W) (by kernel_rfl) (by kernel_rfl) (Below.refl _ _).drew ?_
            repeat
             first
              | ((with_reducible refine wpQuiet_ex ?_ ?_)
                 ·(go_simp;done)
                 apply Exists.intro
                 refine ⟨fun W hW=>?_,?_⟩
                 ·first
                   | (have q1:=hlx W (hW.mono hbs)
                      have q2:=bel_keepG hW (hatx W hW)
                      go_simp
                      first
                       | rfl
                       | (with_reducible exact q2))
                 simp only [Act.put,zA,zB,zC])
              | ((with_reducible refine wpQuiet_pass ?_ ?_)
                 ·(first | rfl | (go_simp;done))
                 simp only [Act.put,zA,zB,zC])
            with_reducible refine wpQuiet_nil ?_
            intro w7 hW7
            have b7:=hbel.trans (hW7.mono hbs)
            have hown7:=own_below hown3 hW7
            clear hlx hlx0 hN hN0 hatx lSr bww hown3 hpos3 hI3
            go_wp2_with (fail)
            go_roundg f3
            case rel=>exact ⟨_,k+1,D3,rfl,by go_num,by omega,hmore.out.symm,hadd.1,hadd.2.1,hadd.2.2,hp3,hown7,b7⟩
            case measure=>omega
          | false=>
            have hz:=atD_no hin
            simp only [hz] at hatx
            by_cases hk3:kindS S x=3
            ·rw [addD_yes hin hk3] at hadd hmore
             simp only [hk3] at hkx
             replace hmore:=Lib.hid hmore
             have hbl:p.n+1≤2000000:=by omega
             have hbd:=fun W=>run_bldD p x hxi hbl W
             have hnum:(p.n:Int)+1≤2000000:=by omega
             have hD33:(dptC ⟨x,p.n+1⟩).toArray.size=33:=by rw [List.size_toArray];exact dptC_len ⟨hxi,hbl⟩
             have hD1:=dptC_all ⟨x,p.n+1⟩
             have hAk:D3.length+1≤9223372036854775807:=by omega
             have hAb:(D3.length+1)*40≤140737488355328:=by omega
             clear hin hz hk3
             go_upto_region 14 with (fail)
             refine wp_region_class (C:=fun W=>Below wr.heap.size wr W) (by kernel_rfl) (by kernel_rfl) (Below.refl _ _).drew ?_
             repeat
              first
               | ((with_reducible refine wpQuiet_ex ?_ ?_)
                  ·(go_simp;done)
                  apply Exists.intro
                  refine ⟨fun W hW=>?_,?_⟩
                  ·first
                    | (have q0:=lSr W hW
                       have q1:=hlx W (hW.mono hbs)
                       have q2:=bel_keepG hW (hatx W hW)
                       have q3:=bel_keepG hW (hkx W hW)
                       go_simp
                       first
                        | rfl
                        | (with_reducible exact q2)
                        | (with_reducible exact q3))
                  simp only [Act.put,zA,zB,zC])
               | ((with_reducible refine wpQuiet_pass ?_ ?_)
                  ·(first | rfl | (go_simp;done))
                  simp only [Act.put,zA,zB,zC])
             with_reducible refine wpQuiet_nil ?_
             intro w7 hW7
             have hown7:=own_below hown3 hW7
             have hsz7:=Nat.le_trans hbs hW7.size
             have hlx7:=fun W (hW:Below w2.heap.size w7 W)=>hlx W ((hW7.mono hbs).trans hW)
             have b7:=hbel.trans (hW7.mono hbs)
             have hp3':(D3++[(⟨x,p.n+1⟩:DpL)])[i]?=some p:=by rw [List.getElem?_append_left hi3];exact hp3
             obtain ⟨DC,hDC⟩ : ∃ DC,(dptC ⟨x,p.n+1⟩).toArray=DC:=⟨_,rfl⟩
             rw [hDC] at hD33 hD1
             simp only [hDC] at hbd
             replace hDC:=Lib.hid hDC
             obtain ⟨XC,hXC⟩ : ∃ XC,u8s x=XC:=⟨_,rfl⟩
             simp only [hXC] at hbd hlx7
             have hpre:=preOkR (i:=13) hown7
             have hrB : ∀ k,some k∈rowsOfP [(13,(Value.slice (some ⟨g3,o3,none⟩) D3.length c3).ownBlock,fun w=>World.ownsRow w w2.heap.size 55 33 (.slice (some ⟨g3,o3,none⟩) D3.length c3) D3.length (rowsOf dptC D3))]→w2.heap.size≤k:=fun k hk=>(World.ownsRow.lt hown7 k (rowsR hk)).1
             clear hlx hlx0 hN0 hatx lSr bww hown3 hpos3 hI3 hkx hXC
             go_upto_region 15 with (fail)
             refine wp_region_goP 15 [(13,(Value.slice (some ⟨g3,o3,none⟩) D3.length c3).ownBlock,fun w=>World.ownsRow w w2.heap.size 55 33 (.slice (some ⟨g3,o3,none⟩) D3.length c3) D3.length (rowsOf dptC D3))] hpre (by kernel_rfl) (by kernel_rfl) (by kernel_rfl) (by kernel_rfl) ?_
             simp only [exSp]
             iterate 15 apply Exists.intro
             repeat
              first
               | ((with_reducible apply lx_ex)
                  ·(go_simp;done)
                  apply Exists.intro
                  apply And.intro
                  ·apply Eq.refl
                  apply And.intro
                  ·intro W hF hD
                   first
                    | (have hf:=(far_drew hF).below hsz7 hrB
                       have q1:=hlx7 W hf
                       have q2:=hN W (hD.was 0 rfl (by kernel_rfl))
                       go_simp
                       rfl)
                    | (have hf:=(far_drew hF).below hsz7 hrB
                       have q1:=hlx7 W hf
                       have q3:=hbd W
                       go_simp
                       rfl)
                    | (have hf:=(far_drew hF).below hsz7 hrB
                       have q1:=hlx7 W hf
                       go_simp
                       rfl)
                  simp only [Act.put,zA,zB,zC])
               | ((with_reducible apply lx_pass)
                  ·(first | rfl | (go_simp;done))
                  ·apply Eq.refl
                  simp only [Act.put,zA,zB,zC])
               | (first | (with_reducible apply lx_move') | (with_reducible apply lx_assign')
                  ·apply Eq.refl
                  apply Exists.intro
                  apply And.intro
                  ·(go_simp;rfl)
                  simp only [Act.put,zA,zB,zC])
               | ((with_reducible apply lx_slice1 Tryz.ddtTy (fun cs=>cs=DC) (by omega))
                  ·apply Eq.refl
                  apply Exists.intro
                  apply And.intro
                  ·(go_simp;rfl)
                  refine ⟨fun W hF hD=>?_,?_⟩
                  ·exact ⟨DC,rfl,hD33,rfl⟩
                  intro v
                  simp only [Act.put,zA,zB,zC])
               | ((with_reducible apply lx_append1 Tryz.ddtTy w2.heap.size (.slice (some ⟨g3,o3,none⟩) D3.length c3) D3.length (rowsOf dptC D3) (fun xs=>xs=rowsOf dptC D3++DC.toList) hAk hAb)
                  ·exact hsz7
                  ·first | exact List.Mem.head _ | exact List.Mem.tail _ (List.Mem.head _) | exact List.Mem.tail _ (List.Mem.tail _ (List.Mem.head _)) | exact List.Mem.tail _ (List.Mem.tail _ (List.Mem.tail _ (List.Mem.head _)))
                  ·apply Eq.refl
                  apply Exists.intro
                  apply Exists.intro
                  apply And.intro
                  ·(go_simp;rfl)
                  apply And.intro
                  ·(go_simp;rfl)
                  refine ⟨rfl,fun W hF hD=>?_,?_⟩
                  ·obtain ⟨F,g5,cs,rfl,_,hk5,rfl⟩:=hD.at 0 rfl (by kernel_rfl)
                   exact ⟨g5,_,rfl,hk5,hD33,hD1,rfl⟩
                  intro v
                  simp only [Act.put,zA,zB,zC])
             refine lxP_nil ?_ fun w8 hF8 hD8=>?_
             ·exact List.nodup_nil
             obtain ⟨_,xs,rfl,hv8,_⟩:=hD8 _ (.head _)
             have b8:=b7.trans (hF8.below hsz7 hrB)
             have hown8:=ownD_snoc (x:=⟨x,p.n+1⟩) (by rw [hDC.out];exact hv8)
             clear hv8 hD8 hF8 hpre hrB hown7 hlx7 hN hbd hW7
             go_wp2_with (fail)
             go_roundg f3
             case rel=>exact ⟨_,k+1,_,rfl,by go_num,by omega,hmore.out.symm,hadd.1,hadd.2.1,hadd.2.2,hp3',hown8,b8⟩
             case measure=>omega
            ·rw [addD_no (.inr hk3)] at hadd hmore
             replace hmore:=Lib.hid hmore
             obtain ⟨K,hK⟩ : ∃ K,kindS S x=K:=⟨_,rfl⟩
             rw [hK] at hk3
             simp only [hK] at hkx
             have hk31:(K==3)=false:=by simp [hk3]
             clear hin hz hK
             go_upto_region 14 with (fail)
             refine wp_region_class (C:=fun W=>Below wr.heap.size wr W) (by kernel_rfl) (by kernel_rfl) (Below.refl _ _).drew ?_
             repeat
              first
               | ((with_reducible refine wpQuiet_ex ?_ ?_)
                  ·(go_simp;done)
                  apply Exists.intro
                  refine ⟨fun W hW=>?_,?_⟩
                  ·first
                    | (have q0:=lSr W hW
                       have q1:=hlx W (hW.mono hbs)
                       have q2:=bel_keepG hW (hatx W hW)
                       have q3:=bel_keepG hW (hkx W hW)
                       go_simp
                       first
                        | rfl
                        | (with_reducible exact q2)
                        | (with_reducible exact q3))
                  simp only [Act.put,zA,zB,zC])
               | ((with_reducible refine wpQuiet_pass ?_ ?_)
                  ·(first | rfl | (go_simp;done))
                  simp only [Act.put,zA,zB,zC])
             with_reducible refine wpQuiet_nil ?_
             intro w7 hW7
             have b7:=hbel.trans (hW7.mono hbs)
             have hown7:=own_below hown3 hW7
             clear hlx hlx0 hN hN0 hatx lSr bww hown3 hpos3 hI3 hkx
             go_wp2_with (fail)
             go_roundg f3
             case rel=>exact ⟨_,k+1,D3,rfl,by go_num,by omega,hmore.out.symm,hadd.1,hadd.2.1,hadd.2.2,hp3,hown7,b7⟩
             case measure=>omega
      ·have hni : ¬ (p.n:Int)<(most:Int):=by omega
       rw [if_neg hn] at hgo
       have hnx:DOfI S most R f (i+1) D:=⟨hr.inv,hr.ok,hr.pos,hgo.out,by have:=hr.fuel;omega,by omega⟩
       have hN:=fun W (h:OwnDdts W w2.heap.size (.slice (some ⟨ga,oa,none⟩) D.length co) D)=>ddt_cell hr.ok h hp
       have b25:=hbel.trans (hW5.mono hbs)
       clear hgo hr hp hatv hki
       go_wp2_with (fail)
       go_loopg [7,12] 0 (fun f3 v7 v12 wr=>v7 = .slice (some ⟨ga,oa,none⟩) D.length co∧v12 = .int .i64 0∧Below w5.heap.size w5 wr)
       case atStart=>exact ⟨rfl,rfl,Below.refl _ _⟩
       case round=>
        obtain ⟨rfl,rfl,hb6⟩:=hrel
        have hown6:=own_below hown5 hb6
        have hN6:=hN _ hown6
        have b6:=b25.trans (hb6.mono (Nat.le_trans hbs hW5.size))
        clear hN hown5
        by_cases hps0:0<PS.length
        ·have hpi0:(0:Int)<(PS.length:Int):=by omega
         go_wp2_with (fail)
         go_roundg f
         case rel=>exact ⟨_,i+1,D,rfl,by go_num,hnx,hown6,b6⟩
         case measure=>omega
        ·have hpi0 : ¬ (0:Int)<(PS.length:Int):=by omega
         go_wp2_with (fail)
         go_roundg f
         case rel=>exact ⟨_,i+1,D,rfl,by go_num,hnx,hown6,b6⟩
         case measure=>omega
     ·have hii : ¬ (i:Int)<(D.length:Int):=by omega
      have hre:=hr.res
      rw [doc_end (by omega)] at hre
      subst hre
      have hres:DOfR D w.heap.size (.slice Ao D.length co) wr:=⟨own_low' hown hb02.size,hr.ok,hr.pos⟩
      have hb:=bthen hb02 hb02.size hbel
      clear hr hob hki hown
      go_wp2_with (fail)
      go_ret
      exact ⟨_,rfl,hres,hb⟩
end
end
section
def idsR (B N:Nat) (v:Value) (F:Foot) (w:World):Prop := ∃ ids:List Txt,(∀ x∈ids,x.length=32)∧ids.length≤N∧ownR B 46 32 ids.length (rowsOf idC ids) v F w
theorem idsR_stab (B N:Nat) (v:Value):Stab (idsR B N v):=fun F F' w w' hf ha ⟨ids,h1,h2,h3⟩=>⟨ids,h1,h2,ownR_stab _ _ _ _ _ v F F' w w' hf ha h3⟩
theorem idsR_new {B N:Nat} {ids:List Txt} {v:Value} {w w':World} {w0:World} {rows:List (Option Nat)} (hB:B≤w.heap.size) (h:OwnIds w' w.heap.size v ids) (h1 : ∀ x∈ids,x.length=32) (h2:ids.length≤N):NewR w0 rows (idsR B N) none w v w':=fun F f1 f2 f3=>⟨ids,h1,h2,ownR_new hB h F f1 f2 f3⟩
section
variable {S:List StL} {L R:List DpL} {n:Nat}
theorem rise_ids {P:DpL→Bool} (h:SortedK DpL.id L):RiseL ((L.filter P).map DpL.id):=by
 unfold RiseL
 rw [List.pairwise_map]
 exact List.Pairwise.filter _ h
theorem sort_filter {P:DpL→Bool} (h:DptS L R):(L.filter P).map DpL.id=sortU ((R.filter P).map DpL.id):=by
 refine rise_one (rise_ids h.sorted) (sortU_law _).1 fun x=>?_
 rw [(sortU_law _).2]
 exact ((h.perm.filter P).map DpL.id).mem_iff
theorem shal_sort (h:DptS L R):shalL S L n=sortU (shalL S R n):=sort_filter h
theorem deep_sort (h:DptS L R):deepL L n=sortU (deepL R n):=sort_filter h
theorem rise_all (h:SortedK DpL.id L):RiseL (L.map DpL.id):=by
 unfold RiseL
 rw [List.pairwise_map]
 exact h
theorem atD_same (h:DptS L R) (hI:DptI S R) {p:DpL} (hp:p∈L):atD R p.id=p.n:=atD_mem hI.nd (h.perm.mem_iff.1 hp)
end
end
section
attribute [local go_sem ↓] ldvI_eq ldvS_eq
section
variable {w:World} {vm:Value} {es:List DiL}
set_option maxRecDepth 100000 in
set_option maxHeartbeats 8000000 in
theorem docBound_calls (h:DocSt w vm es) (ini:List Txt) (hiok : ∀ x∈ini,x.length=32) (hil:ini.length≤800000) (vf:Value) (hvf:Ids w vf ini) (n:Nat) (h1:1≤n) (h2:n≤1048576) :
 Calls Tryz.prog 14 #[.agg #[vm],vf, .int .i64 n] w fun e w' => ∃ va vb,e = .returned (.tuple #[va,vb])∧OwnIds w' w.heap.size va (sortU (shalL (es.map (·.st)) (depS (es.map (·.st)) n (endsM (es.map (·.st)) ini)) n))∧OwnIds w' w.heap.size vb (sortU (deepL (depS (es.map (·.st)) n (endsM (es.map (·.st)) ini)) n))∧Below w.heap.size w w':=by
 obtain ⟨W1,hW1⟩ : ∃ W1,w.alloc (.cells #[vm] 28)=W1:=⟨_,rfl⟩
 have s1:Blk W1 w.heap.size 28 #[vm]:=by rw [←hW1];exact Blk.new _ _ _
 have b1:Below w.heap.size w W1:=by rw [←hW1];exact (Below.refl _ _).alloc (Nat.le_refl _) _
 have hsz1:=b1.size
 have l1:=fun W (hW:Below W1.heap.size W1 W)=>run_ldvS (s1.below hW s1.lt)
 have l11:=l1 W1 (Below.refl _ _)
 have hof:=Lib.hid (docOf_calls (h.below b1) ini hiok hil vf (hvf.below b1) n h1 h2)
 have hob:=fun W (hW:Below w.heap.size w W) (n:Txt) (hn:n.length=32)=>docObjQ_calls h hW n hn
 have hRl:=(depS_I (es.map (·.st)) n (endsM (es.map (·.st)) ini)).len
 rw [List.length_map] at hRl
 have hSl:es.length≤500000:=h.few
 obtain ⟨S,hS⟩ : ∃ S,es.map (·.st)=S:=⟨_,rfl⟩
 rw [hS] at hof
 simp only [hS] at hob ⊢
 rw [hS] at hRl
 obtain ⟨R,hR⟩ : ∃ R,depS S n (endsM S ini)=R:=⟨_,rfl⟩
 rw [hR] at hof hRl ⊢
 clear hS h s1 hvf hil hR
 go_enter Tryz.func14,Tryz.ntmps14
 go_wp2_with (first
  | ((with_reducible refine hof.out.mono ?_);rintro e w2 ⟨vr,rfl,⟨hor,hRok,_⟩,hb2⟩
     obtain ⟨Ar,cr,rfl⟩:=own_form' hor))
 obtain ⟨A',c',he,_,_,hat⟩:=OwnDdts.at_ hRok hor
 injection he with e1 _ e3
 subst e1
 subst e3
 have h0a:OwnIds w2 w2.heap.size (.slice none 0 0) (shalL S (R.take 0) n):=World.ownsRow_nil _ _ _ _
 have h0b:OwnIds w2 w2.heap.size (.slice none 0 0) (deepL (R.take 0) n):=World.ownsRow_nil _ _ _ _
 have hfin:R.take R.length=R:=List.take_length
 have hb02:=bthen b1 hsz1 hb2
 have hz2:=hb2.size
 clear hof l11 hor
 go_loopg [9,10,11] R.length (fun f v6 v7 v26 wr => ∃ (va vb:Value) (k:Nat) (SH DP:List Txt),va=v6∧vb=v7∧v26 = .int .i64 k∧k+f=R.length∧SH=shalL S (R.take k) n∧DP=deepL (R.take k) n∧OwnIds wr w2.heap.size va SH∧OwnIds wr w2.heap.size vb DP∧(∀ q,va.ownBlock=some q→vb.ownBlock≠some q)∧Below w2.heap.size w2 wr)
 case atStart=>exact ⟨_,_,0,_,_,rfl,rfl,rfl,by omega,rfl,rfl,h0a,h0b,fun q hq=>(by cases hq),Below.refl _ _⟩
 case round=>
  obtain ⟨va,vb,k,SH,DP,rfl,rfl,rfl,hkf,hSH,hDP,hoa,hob2,hap,hbel⟩:=hrel
  have hbs:=hbel.size
  have hidl : ∀ (P:DpL→Bool), ∀ x∈(R.filter P).map DpL.id,x.length=32:=fun P x hx=>by
   obtain ⟨p,hp,rfl⟩:=List.mem_map.1 hx
   exact (hRok p (List.mem_filter.1 hp).1).1
  have hfl : ∀ (P:DpL→Bool),((R.filter P).map DpL.id).length≤500000:=fun P=>by
   rw [List.length_map]
   have:=List.length_filter_le P R
   omega
  cases gk with
  | zero=>
    have hki : ¬ (k:Int)<(R.length:Int):=by omega
    obtain rfl:k=R.length:=by omega
    rw [hfin] at hSH hDP
    have ha32 : ∀ x∈SH,x.length=32:=by rw [hSH];exact hidl _
    have hb32 : ∀ x∈DP,x.length=32:=by rw [hDP];exact hidl _
    have hal:SH.length≤500000:=by rw [hSH];exact hfl _
    have hbl:DP.length≤500000:=by rw [hDP];exact hfl _
    have k1:=Lib.hid (sorted02_calls SH ha32 (by omega) _ _ (SliceAt.of_own (idsK ha32) hoa))
    have k2:=fun W (hW:Below _ _ W)=>Lib.hid (sorted02_calls DP hb32 (by omega) _ W (SliceAt.of_own (idsK hb32) (own_below hob2 hW)))
    have hSH2:=Lib.hid hSH
    have hDP2:=Lib.hid hDP
    clear hat h0a h0b hRok hob hSH hDP hidl hfl hal hbl ha32 hb32
    obtain ⟨Aa,ca,rfl⟩:=own_form' hoa
    obtain ⟨Ab,cb,rfl⟩:=own_form' hob2
    go_wp2_with (first
     | ((with_reducible refine k1.out.mono ?_);rintro e w5 ⟨v5,rfl,ho5,hb5⟩
        have k25:=k2 w5 hb5)
     | ((with_reducible refine k25.out.mono ?_);rintro e w6 ⟨v6,rfl,ho6,hb6⟩))
    go_ret2
    have hzz:=Nat.le_trans hb02.size hbs
    refine ⟨_,_,rfl,?_,?_,bthen hb02 hb02.size (bthen hbel hbs (bthen hb5 hb5.size hb6))⟩
    ·rw [←hSH2.out]
     exact own_low' (own_below ho5 hb6) hzz
    ·rw [←hDP2.out]
     exact own_low' ho6 (Nat.le_trans hzz hb5.size)
  | succ f=>
    have hki:(k:Int)<(R.length:Int):=by omega
    obtain ⟨ga,oa,rfl,hga,hca⟩:=hat (by omega)
    obtain ⟨x,hx⟩ : ∃ x,R[k]?=some x:=⟨_,List.getElem?_eq_getElem (by omega)⟩
    have hxok:=hRok x (List.mem_of_getElem? hx)
    have hxi:=hxok.1
    have hxr:=fun W (hW:Below w2.heap.size wr W)=>rangeAt_below (hca k x hx) hga (hbel.trans hW)
    have hlx : ∀ W,Below w2.heap.size wr W→(ldvI ⟨ga,oa+k*33,none⟩).run Tryz.prog W = .ok (.agg (u8s x.id)) W:=fun W hW=>run_ldvI_at (dptC_id (hxr W hW)) hxi
    have hln:=dptC_n hxi (hxr wr (Below.refl _ _))
    have hlx0:=hlx wr (Below.refl _ _)
    have bw:=fun W (hW:Below wr.heap.size wr W)=>bthen hb02 hb02.size (hbel.trans (hW.mono hbs))
    have lSr:=fun W (hW:Below wr.heap.size wr W)=>l1 W (bthen hb2 hz2 (hbel.trans (hW.mono hbs)))
    have hobp:=fun W (hW:Below wr.heap.size wr W)=>hob W (bw W hW) x.id hxi
    have hfld:=fun (X:Array Value) (v:Value) (h:X[35]?=some v) W=>run_field_pars h W
    have hms:=shalL_more (S:=S) (n:=n) hx
    have hmd:=deepL_more (n:=n) hx
    rw [←hSH] at hms
    rw [←hDP] at hmd
    have hSHl:SH.length≤k:=by rw [hSH];exact shalL_len
    have hDPl:DP.length≤k:=by rw [hDP];exact deepL_len
    have hi32:(u8s x.id).size=32:=by rw [u8s_size,hxi]
    have hi132:(u8s x.id).size=1*32:=hi32
    have hi1' : ∀ u∈(u8s x.id).toList,u.oneCell'=true:=idC_one x.id
    have hAk:SH.length+1≤9223372036854775807:=by omega
    have hAb:(SH.length+1)*32≤140737488355328:=by omega
    have hBk:DP.length+1≤9223372036854775807:=by omega
    have hBb:(DP.length+1)*32≤140737488355328:=by omega
    have hdp:deepP n x=decide (x.n<n):=rfl
    have hsp:shalP S n x=(!decide (x.n<n)&&decide (parS S x.id≠[])):=rfl
    obtain ⟨XC,hXC⟩ : ∃ XC,u8s x.id=XC:=⟨_,rfl⟩
    obtain ⟨XN,hXN⟩ : ∃ XN,x.n=XN:=⟨_,rfl⟩
    simp only [hXC] at hlx hlx0 hobp
    rw [hXN] at hdp hsp hln
    rw [hXC] at hi32 hi132 hi1'
    replace hXC:=Lib.hid hXC
    have hne : ∀ q,vb.ownBlock=some q→va.ownBlock≠some q:=fun q hq h=>hap q h hq
    clear hat hca hSH hDP hfin h0a h0b hx hXN hRok hxr hob hidl hfl
    obtain ⟨Aa,ca,rfl⟩:=own_form' hoa
    obtain ⟨Ab,cb,rfl⟩:=own_form' hob2
    by_cases hd:XN<n
    ·have hdi:(XN:Int)<(n:Int):=by omega
     rw [decide_eq_true hd] at hdp hsp
     rw [hdp,if_pos rfl] at hmd
     rw [hsp,if_neg (by simp),List.append_nil] at hms
     clear hdp hsp hd lSr hobp hfld
     replace hmd:=Lib.hid hmd
     replace hms:=Lib.hid hms
     go_wp2_with (first
      | ((with_reducible refine lit_slice1 (.tmp 34) Tryz.idsTy XC hi32 (by omega) ?_ ?_);rfl)
      | ((with_reducible refine lit_append_new (.tmp 29) (.tmp 35) 1 _ Tryz.idsTy hob2 XC hi132 hi1' hBk hBb hbs ?_ ?_ ?_);rfl;rfl
         intro v5 w5 ho5 hb5 hg5 hn5))
     have hoa5:OwnIds w5 w2.heap.size (.slice Aa SH.length ca) SH:=(Far.of_grown hg5).own hoa fun q hq hm=>hap q hq (List.mem_singleton.1 hm).symm
     have hob5:OwnIds w5 w2.heap.size v5 (DP++[x.id]):=own_snoc (by rw [hXC.out];exact ho5)
     have hap5 : ∀ q,(Value.slice Aa SH.length ca).ownBlock=some q→v5.ownBlock≠some q:=fun q hq h5=>by
      rcases hn5 with h6 | h6
      ·rw [h6] at h5;exact hap q hq h5
      ·have:=h6 q h5
       have:=(World.ownsRow.lt hoa q hq).2
       omega
     have b15:=hbel.trans hb5
     clear ho5 hob2 hoa hg5 hn5 hap hne
     go_roundg f
     case rel=>exact ⟨_,_,k+1,_,_,rfl,rfl,by go_num,by omega,hms.out.symm,hmd.out.symm,hoa5,hob5,hap5,b15⟩
     case measure=>omega
    ·have hdi : ¬ (XN:Int)<(n:Int):=by omega
     rw [decide_eq_false hd] at hdp hsp
     rw [hdp,if_neg (by simp),List.append_nil] at hmd
     clear hdp hd
     go_upto_region 9 with (fail)
     by_cases hp:parS S x.id=[]
     ·have hli0 : ¬ (0:Int)<((parS S x.id).length:Int):=by rw [hp];simp
      rw [hsp,hp,if_neg (by simp),List.append_nil] at hms
      replace hmd:=Lib.hid hmd
      replace hms:=Lib.hid hms
      clear hsp hp
      refine wp_region_go0 10 (by kernel_rfl) (by kernel_rfl) (by kernel_rfl) (by kernel_rfl) ?_
      simp only [exSp]
      iterate 10 apply Exists.intro
      repeat
       first
        | ((with_reducible apply lx0_ex)
           ·(go_simp;done)
           apply Exists.intro
           apply And.intro
           ·apply Eq.refl
           apply And.intro
           ·intro W hW hD
            have q0:=lSr W hW
            have q1:=hlx W (hW.mono hbs)
            first
             | (go_simp
                rfl)
             | (obtain ⟨F,X,vp,rfl,_,_,h3,Ap,cp,rfl,_⟩:=hD.at 0 rfl (by kernel_rfl)
                have q2:=parsV_at h3
                go_simp
                rfl)
           simp only [Act.put,zA,zB,zC])
        | ((with_reducible apply lx0_pass)
           ·(first | rfl | (go_simp;done))
           ·apply Eq.refl
           simp only [Act.put,zA,zB,zC])
        | ((with_reducible refine lx0_new (parF w S x.id) rfl ?_ (parF_stab _ _ _) ?_ ?_)
           ·(go_simp;done)
           ·intro W hW hD
            unfold doesAt Oper.wp execOp
            go_simp
            (with_reducible refine (hobp W hW).mono ?_)
            rintro e w' ⟨⟨X,vp,rfl,h1,h2,h3,h4⟩,hb⟩
            exact ⟨hb,fun _ _ _ _=>⟨X,vp,rfl,h1,h2,h3,h4⟩⟩
           intro v
           simp only [Act.put,zA,zB,zC])
        | ((with_reducible apply lx_fpar hfld)
           ·apply Eq.refl
           apply Exists.intro
           apply And.intro
           ·(go_simp;rfl)
           refine ⟨fun W hW hD=>?_,?_⟩
           ·obtain ⟨F,X,vp,rfl,_,_,h3,_⟩:=hD.at 0 rfl (by kernel_rfl)
            exact ⟨X,vp,rfl,h3⟩
           simp only [Act.put,zA,zB,zC])
      refine lx0_nil ?_ fun w5 hW5 hD5=>?_
      ·exact List.nodup_nil
      have hoa5:=own_below hoa hW5
      have hob5:=own_below hob2 hW5
      have b5:=hbel.trans (hW5.mono hbs)
      clear hD5 hoa hob2 hlx hlx0 lSr hobp hfld
      go_wp2_with (fail)
      go_roundg f
      case rel=>exact ⟨_,_,k+1,_,_,rfl,rfl,by go_num,by omega,hms.out.symm,hmd.out.symm,hoa5,hob5,hap,b5⟩
      case measure=>omega
     ·have hli0:(0:Int)<((parS S x.id).length:Int):=by
       have:=List.length_pos_iff.2 hp
       omega
      rw [hsp,if_pos (by simp [hp])] at hms
      replace hmd:=Lib.hid hmd
      replace hms:=Lib.hid hms
      clear hsp hp
      refine wp_region_go0 10 (by kernel_rfl) (by kernel_rfl) (by kernel_rfl) (by kernel_rfl) ?_
      simp only [exSp]
      iterate 10 apply Exists.intro
      repeat
       first
        | ((with_reducible apply lx0_ex)
           ·(go_simp;done)
           apply Exists.intro
           apply And.intro
           ·apply Eq.refl
           apply And.intro
           ·intro W hW hD
            have q0:=lSr W hW
            have q1:=hlx W (hW.mono hbs)
            first
             | (go_simp
                rfl)
             | (obtain ⟨F,X,vp,rfl,_,_,h3,Ap,cp,rfl,_⟩:=hD.at 0 rfl (by kernel_rfl)
                have q2:=parsV_at h3
                go_simp
                rfl)
           simp only [Act.put,zA,zB,zC])
        | ((with_reducible apply lx0_pass)
           ·(first | rfl | (go_simp;done))
           ·apply Eq.refl
           simp only [Act.put,zA,zB,zC])
        | ((with_reducible refine lx0_new (parF w S x.id) rfl ?_ (parF_stab _ _ _) ?_ ?_)
           ·(go_simp;done)
           ·intro W hW hD
            unfold doesAt Oper.wp execOp
            go_simp
            (with_reducible refine (hobp W hW).mono ?_)
            rintro e w' ⟨⟨X,vp,rfl,h1,h2,h3,h4⟩,hb⟩
            exact ⟨hb,fun _ _ _ _=>⟨X,vp,rfl,h1,h2,h3,h4⟩⟩
           intro v
           simp only [Act.put,zA,zB,zC])
        | ((with_reducible apply lx_fpar hfld)
           ·apply Eq.refl
           apply Exists.intro
           apply And.intro
           ·(go_simp;rfl)
           refine ⟨fun W hW hD=>?_,?_⟩
           ·obtain ⟨F,X,vp,rfl,_,_,h3,_⟩:=hD.at 0 rfl (by kernel_rfl)
            exact ⟨X,vp,rfl,h3⟩
           simp only [Act.put,zA,zB,zC])
      refine lx0_nil ?_ fun w5 hW5 hD5=>?_
      ·exact List.nodup_nil
      have hoa6:=own_below hoa hW5
      have hob6:=own_below hob2 hW5
      have b6:=hbel.trans (hW5.mono hbs)
      have hlx6:=hlx w5 (hW5.mono hbs)
      have hz6:=b6.size
      clear hD5 hoa hob2 hlx hlx0 lSr hobp hfld
      go_wp2_with (first
       | ((with_reducible refine lit_slice1 (.tmp 52) Tryz.idsTy XC hi32 (by omega) ?_ ?_);rfl)
       | ((with_reducible refine lit_append_new (.tmp 47) (.tmp 53) 1 _ Tryz.idsTy hoa6 XC hi132 hi1' hAk hAb hz6 ?_ ?_ ?_);rfl;rfl
          intro v7 w7 ho7 hb7 hg7 hn7))
      have hob7:OwnIds w7 w2.heap.size (.slice Ab DP.length cb) DP:=(Far.of_grown hg7).own hob6 fun q hq hm=>hne q hq (List.mem_singleton.1 hm).symm
      have hoa7:OwnIds w7 w2.heap.size v7 (SH++[x.id]):=own_snoc (by rw [hXC.out];exact ho7)
      have hap7 : ∀ q,v7.ownBlock=some q→(Value.slice Ab DP.length cb).ownBlock≠some q:=fun q h5 hq=>by
       rcases hn7 with h6 | h6
       ·rw [h6] at h5;exact hap q h5 hq
       ·have:=h6 q h5
        have:=(World.ownsRow.lt hob6 q hq).2
        omega
      have b7:=b6.trans hb7
      clear ho7 hob6 hoa6 hg7 hn7 hap hne hlx6
      go_roundg f
      case rel=>exact ⟨_,_,k+1,_,_,rfl,rfl,by go_num,by omega,hms.out.symm,hmd.out.symm,hoa7,hob7,hap7,b7⟩
      case measure=>omega
end
end
section
attribute [local go_sem ↓] ldvI_eq ldvS_eq
def riseB : List Txt→Bool
 | a::b::l=>Op.bytesLess a b&&riseB (b::l)
 | _=>true
theorem riseB_drop {l:List Txt} {i:Nat} {x y:Txt} (hx:l[i]?=some x) (hy:l[i+1]?=some y):riseB (l.drop i)=(Op.bytesLess x y&&riseB (l.drop (i+1))):=by
 obtain ⟨h1,h2⟩:=List.getElem?_eq_some_iff.1 hx
 obtain ⟨h3,h4⟩:=List.getElem?_eq_some_iff.1 hy
 rw [List.drop_eq_getElem_cons h1,List.drop_eq_getElem_cons h3,h2,h4]
 rfl
theorem riseB_end {l:List Txt} {i:Nat} (h:l.length≤i+1):riseB (l.drop i)=true:=by
 have:(l.drop i).length≤1:=by rw [List.length_drop];omega
 match h2:l.drop i,this with
 | [],_=>rfl
 | [a],_=>rfl
 | a::b::l,h=>simp at h
theorem riseB_iff : ∀ {l:List Txt},riseB l=true↔RiseL l
 | []=>by simp [riseB,RiseL]
 | [a]=>by simp [riseB,RiseL]
 | a::b::l=>by
   unfold riseB
   rw [Bool.and_eq_true,riseB_iff (l:=b::l)]
   constructor
   ·rintro ⟨h1,h2⟩
    refine List.pairwise_cons.2 ⟨fun z hz=>?_,h2⟩
    rcases List.mem_cons.1 hz with rfl | hz
    ·exact h1
    ·exact less_trans h1 ((List.pairwise_cons.1 h2).1 z hz)
   ·intro h
    obtain ⟨h1,h2⟩:=List.pairwise_cons.1 h
    exact ⟨h1 b (by simp),h2⟩
set_option maxRecDepth 100000 in
set_option maxHeartbeats 4000000 in
theorem rise02_calls (l:List Txt) (hok : ∀ x∈l,x.length=32) (v:Value) (w:World) (hv:Ids w v l) :
 Calls Tryz.prog 16 #[v] w fun e w'=>e = .returned (.bool (riseB l))∧Below w.heap.size w w':=by
 obtain ⟨R,hR⟩ : ∃ R,riseB l=R:=⟨_,rfl⟩
 rw [hR]
 have hR0:Hid (riseB (l.drop 0)=R):=Lib.hid hR
 obtain ⟨A,cap,rfl,hcap1,hcap2,hat⟩:=hv
 clear hR
 go_enter Tryz.func16,Tryz.ntmps16
 go_wp2_with (fail)
 go_loopg [3] (l.length-1) (fun f vi wr => ∃ k:Nat,vi = .int .i64 (k+1:Nat)∧k+f=l.length-1∧Hid (riseB (l.drop k)=R)∧Below w.heap.size w wr)
 case atStart=>exact ⟨0,rfl,by omega,hR0,Below.refl _ _⟩
 case round=>
  clear hR0
  obtain ⟨k,rfl,hkf,hrel,hbel⟩:=hrel
  have hbs:=hbel.size
  obtain ⟨K,hK⟩ : ∃ K,k+1=K:=⟨_,rfl⟩
  rw [hK]
  cases gk with
  | zero=>
    have hki : ¬ (K:Int)<(l.length:Int):=by omega
    obtain rfl:true=R:=by rw [←hrel.out,riseB_end (by omega)]
    clear hat hK
    go_wp2_with (fail)
    go_ret
    exact ⟨rfl,hbel⟩
  | succ f=>
    have hki:(K:Int)<(l.length:Int):=by omega
    obtain ⟨ga,oa,rfl,hga,hca⟩:=hat (by omega)
    obtain ⟨x,hx⟩ : ∃ x,l[k]?=some x:=⟨_,List.getElem?_eq_getElem (by omega)⟩
    obtain ⟨y,hy⟩ : ∃ y,l[k+1]?=some y:=⟨_,List.getElem?_eq_getElem (by omega)⟩
    have hxi:=hok x (List.mem_of_getElem? hx)
    have hyi:=hok y (List.mem_of_getElem? hy)
    have hrel2:=hrel.out
    rw [riseB_drop hx hy] at hrel2
    replace hrel2:=Lib.hid hrel2
    have hw1:IntKind.i64.wrap ((K:Int)-1)=(k:Int):=by rw [←hK];rw [IntWalk.i64_in _ (by omega)];omega
    have hlx : ∀ W,Below wr.heap.size wr W→(ldvI ⟨ga,oa+k*32,none⟩).run Tryz.prog W = .ok (.agg (u8s x)) W:=fun W hW=>run_ldvI_at (show World.rangeAt W ga (oa+k*32) (u8s x).toList from rangeAt_below (hca k x hx) hga (bthen hbel hbs hW)) hxi
    have hly : ∀ W,Below wr.heap.size wr W→(ldvI ⟨ga,oa+K*32,none⟩).run Tryz.prog W = .ok (.agg (u8s y)) W:=fun W hW=>by rw [←hK];exact run_ldvI_at (show World.rangeAt W ga (oa+(k+1)*32) (u8s y).toList from rangeAt_below (hca (k+1) y hy) hga (bthen hbel hbs hW)) hyi
    have hls:=fun W=>refLess_calls x y hxi hyi W
    have hkb1:k<l.length:=by omega
    have hkb2:K<l.length:=by omega
    have hkb3:(k:Int)<(l.length:Int):=by omega
    generalize Op.bytesLess x y=ob at *
    clear hat hca hx hy hrel
    go_upto_region 4 with (fail)
    refine wp_region_class (C:=fun W=>Below wr.heap.size wr W) (by kernel_rfl) (by kernel_rfl) (Below.refl _ _).drew ?_
    repeat
     first
      | ((with_reducible refine wpQuiet_ex ?_ ?_)
         ·(go_simp;done)
         apply Exists.intro
         refine ⟨fun W hW=>?_,?_⟩
         ·first
           | (have q0:=hlx W hW
              have q1:=hly W hW
              have q2:=bel_keepG hW (hls W)
              go_simp
              first
               | rfl
               | (with_reducible exact q2))
         simp only [Act.put,zA,zB,zC])
      | ((with_reducible refine wpQuiet_pass ?_ ?_)
         ·(first | rfl | (go_simp;done))
         simp only [Act.put,zA,zB,zC])
    with_reducible refine wpQuiet_nil ?_
    intro w8 hW8
    have b8:=bthen hbel hbs hW8
    clear hlx hly hls
    cases ob with
    | true=>
      have hrel4:Hid (riseB (l.drop (k+1))=R):=Lib.hid (by have h:=hrel2.out;rw [Bool.true_and] at h;exact h)
      rw [hK] at hrel4
      clear hrel2 hw1
      go_wp2_with (fail)
      go_roundg f
      case rel=>exact ⟨K,by go_num,by omega,hrel4,b8⟩
      case measure=>omega
    | false=>
      obtain rfl:false=R:=by have h:=hrel2.out;rw [Bool.false_and] at h;exact h
      clear hrel2 hw1
      go_wp2_with (fail)
      go_ret
      exact ⟨rfl,b8⟩
end
theorem StIs.putI {x:StL} (h:StIs x):putI x.text=x.id:=by
 obtain ⟨h1,o,ho⟩:=h
 unfold Go.Proofs.YtbhdfaadedlcfaaGreatDoor.putI
 rw [ho];exact h1.symm
theorem StIs.putC {x:StL} (h:StIs x):putC x.text=0:=by
 obtain ⟨h1,o,ho⟩:=h
 unfold Go.Proofs.YtbhdfaadedlcfaaGreatDoor.putC
 rw [ho]
theorem StIs.putS {x:StL} (h:StIs x) (s:List StL):putS s x.text=if hasK StL.id s x.id then s else insK StL.id s x:=by
 obtain ⟨h1,o,ho⟩:=h
 unfold Go.Proofs.YtbhdfaadedlcfaaGreatDoor.putS
 rw [ho]
 simp only [←h1]
theorem sorted_split {s:List StL} {x:StL} {k:Nat} (h:SortedK StL.id s) (hx:s[k]?=some x):(∀ y∈s.take k,Op.bytesLess y.id x.id=true) ∧ ∀ y∈s.drop (k+1),Op.bytesLess x.id y.id=true:=by
 have hlt:=(List.getElem?_eq_some_iff.1 hx).1
 have e:s=s.take k++x::s.drop (k+1):=by
  rw [←(List.getElem?_eq_some_iff.1 hx).2,←List.drop_eq_getElem_cons hlt,List.take_append_drop]
 unfold SortedK at h
 rw [e,List.pairwise_append] at h
 exact ⟨fun y hy=>h.2.2 y hy x (by simp),fun y hy=>(List.pairwise_cons.1 h.2.1).1 y hy⟩
theorem takeWhile_full {α:Type} {p:α→Bool} : ∀ {l:List α},(∀ y∈l,p y=true)→l.takeWhile p=l
 | [],_=>rfl
 | y::l,h=>by rw [List.takeWhile_cons,if_pos (h y (by simp)),takeWhile_full fun z hz=>h z (by simp [hz])]
theorem putS_rise {s:List StL} (h:StoOk s) {k:Nat} {x:StL} (hx:s[k]?=some x):putS (s.take k) x.text=s.take (k+1):=by
 have hl:=(sorted_split h.sorted hx).1
 rw [(h.each x (List.mem_of_getElem? hx)).putS,if_neg,insK,show posK StL.id (s.take k) (StL.id x)=(s.take k).length by unfold posK;rw [takeWhile_full hl],List.take_length,List.drop_length,List.append_nil,List.take_add_one,hx]
 ·rfl
 ·unfold hasK
  rw [Bool.not_eq_true,List.any_eq_false]
  intro y hy
  rw [less_ne (hl y hy)]
  simp
theorem StoOk.take {s:List StL} (h:StoOk s) (k:Nat):StoOk (s.take k):=⟨fun x hx=>h.each x (List.mem_of_mem_take hx),h.sorted.sublist (List.take_sublist _ _),by rw [List.length_take];have:=h.few;omega⟩
theorem TabK.alloc_ {w:World} (h:TabK w) (o:Obj):TabK (w.alloc o):=h.below ((Below.refl _ _).alloc (Nat.le_refl _) o)
set_option maxRecDepth 100000 in
set_option maxHeartbeats 2000000 in
theorem objId_calls (s:Txt) (hs:s.length≤1000000000) (w:World) (hK:TabK w):Calls Tryz.prog 48 #[.string (B s)] w fun e w'=>e = .returned (.agg (u8s (shaOf s)))∧Below w.heap.size w w':=by
 have hzv:=zeroIdV
 have hzl:(u8s noId).size=32:=by rw [u8s_size,noId_len]
 generalize u8s noId=Z at *
 obtain ⟨W1,hW1⟩ : ∃ W1,w.alloc (.cells Z 46)=W1:=⟨_,rfl⟩
 have hx1:Blk W1 w.heap.size 46 Z:=by rw [←hW1];exact Blk.new _ _ _
 have b1:Below w.heap.size w W1:=by rw [←hW1];exact (Below.refl _ _).alloc (Nat.le_refl _) _
 obtain ⟨W2,hW2⟩ : ∃ W2,W1.alloc (.cells #[.string (B s)] 9)=W2:=⟨_,rfl⟩
 have hb2:Below W1.heap.size W1 W2:=by rw [←hW2];exact (Below.refl _ _).alloc (Nat.le_refl _) _
 have hy2:Blk W2 W1.heap.size 9 #[.string (B s)]:=by rw [←hW2];exact Blk.new _ _ _
 have hx2:=hx1.below hb2 hx1.lt
 have b2:=bthen b1 b1.size hb2
 have hK2:TabK W2:=by rw [←hW2,←hW1];exact (hK.alloc_ _).alloc_ _
 have hst:Strs W2 (.slice (some ⟨W1.heap.size,0,none⟩) 1 1) [s] := .inr ⟨W1.heap.size,0,1,rfl,fun j l hj=>by
  match j,hj with
  | 0,hj=>
    injection hj with hj
    subst hj
    rw [hy2.cell];rfl
  | j+1,hj=>simp at hj,hy2.lt,by simp,by simp⟩
 have hsum:=sum_calls [s] _ W2 hK2 hst (by simp;omega)
 have hfl:[s].flatten=s:=by simp
 rw [hfl] at hsum
 have hsum:=Lib.hid hsum
 have hl:=shaOf_length s
 have hsz:(Tryz.prog.info? 46).map (·.size)=some (u8s (shaOf s)).size:=by rw [u8s_size,hl];exact sz32
 have h32:(u8s (shaOf s)).size=32:=by rw [u8s_size,hl]
 have hone:=u8s_one (shaOf s)
 obtain ⟨D,hD⟩ : ∃ D,Hid (u8s (shaOf s)=D):=⟨_,Lib.hid rfl⟩
 rw [hD.out] at hsum hsz h32 hone
 clear hy2 hK2 hst hfl hl hx1 b1 hb2
 go_enter Tryz.func48,Tryz.ntmps48
 go_wp2_with (first
  | ((with_reducible refine hsum.out.mono ?_);rintro e w3 ⟨rfl,hb3⟩
     have hx3:=hx2.below hb3 hx2.lt
     have b3:=bthen b2 b2.size hb3
     clear hsum hW1 hW2)
  | (refine wpList_store_row rfl 46 (.tmp 2) (.tmp 5) rfl w.heap.size D rfl rfl _ _ hx3 hsz (by rw [hzl,h32]) hone ?_))
 exact bodyPost_ret (results_cell_row rfl _ _ w.heap.size _ _ _ _ rfl (setRow_heap _ _ _ _ _ _ hx3) Tryz.underlying46 rfl hsz) rfl ⟨by rw [hD.out],below_setRow b3 (Nat.le_refl _) _⟩
end Go.Proofs.YtbhdfaadedlcfaaGreatDoor
