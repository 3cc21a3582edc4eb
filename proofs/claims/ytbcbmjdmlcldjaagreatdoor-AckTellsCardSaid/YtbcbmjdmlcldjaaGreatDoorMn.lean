/- Texts of this claim, laid together: MkT, MkC, MkE, Grow, StoQ, DocA, Items, DocT, PutR, Prt, His, HisI. -/
import Derived.Test.YtbcbmjdmlcldjaaGreatDoorMm
import Derived.Deep.CutBlock
import Derived.Deep.RegionWith
namespace Go.Proofs.YtbcbmjdmlcldjaaGreatDoor
open Go.RowKit
section
attribute [local go_sem ↓] ldvI_eq ldvS_eq stvI_eq ldvO_eq
def MkR (w:World) (e:Ending) (w':World):Prop := ∃ o A1 A2 k1 k2,e = .returned (.agg (objC o (.slice A1 o.ents.length k1) (.slice A2 o.pars.length k2)).toArray)∧Small o∧ObjOk o∧OwnEnts w' w.heap.size (.slice A1 o.ents.length k1) o.ents∧OwnIds w' w.heap.size (.slice A2 o.pars.length k2) o.pars
theorem MkR.bare {w w':World} (o:ObjL) (he:o.ents=[]) (hp:o.pars=[]) (hs:Small o) (ho:ObjOk o):MkR w (.returned (.agg (objC o (.slice none 0 0) (.slice none 0 0)).toArray)) w':=by
 refine ⟨o,none,none,0,0,?_,hs,ho,?_,?_⟩
 ·rw [he,hp];rfl
 ·rw [he];exact World.ownsRow_nil _ _ _ _
 ·rw [hp];exact World.ownsRow_nil _ _ _ _
def PickV (v:Value):Prop := ∃ x b,v = .tuple #[.agg (u8s x), .bool b]∧x.length=32
theorem zEB {s:List StL} (n:Txt):0≤kindS s n∧kindS s n≤255:=by
 unfold kindS
 split
 ·split
  ·rename_i o ho
   obtain ⟨c,q,_,hk⟩:=dec_kind ho
   have:=c.toNat_lt
   omega
  ·omega
 ·omega
theorem zeroO_small : Small zeroO:=⟨by decide,by simp [zeroO],by decide,by decide,by decide,by decide⟩
theorem zeroO_ok : ObjOk zeroO:=⟨zAi,zAi,by simp [zeroO],by simp [zeroO],by decide,by decide,by decide,by decide,by decide,by decide,by decide,by decide⟩
set_option maxRecDepth 100000 in
set_option maxHeartbeats 8000000 in
theorem make_blob {w:World} {vm:Value} {es:List DiL} (h:DocSt w vm es) (ids:List Txt) (hok : ∀ x∈ids,x.length=32) (hil:ids.length≤1000) (vi:Value) (hi:Ids w vi ids) (x:SdL) (hx:SdOk w x) (hr:x.refs.length≤10) (ht:x.text.length≤300) (hk:(x.kind.toNat:Int)%4=0) :
 Calls Tryz.prog 46 #[.agg #[vm],vi, .agg (sdC x).toArray] w fun e w'=>MkR w e w'∧Below w.heap.size w w':=by
 have hzo:=zeroObj
 have hz72:=zAF
 have hzone:zObj.all (·.oneCell')=true:=zAv zeroO none none 0 0 0 0
 have hsz : ∀ cs:Array Value,cs.size=72→(Tryz.prog.info? 68).map (·.size)=some cs.size:=fun cs h=>by rw [h];exact szObj
 obtain ⟨W1,hW1⟩ : ∃ W1,w.alloc (.cells #[vm] 29)=W1:=⟨_,rfl⟩
 have s1:Blk W1 w.heap.size 29 #[vm]:=by rw [←hW1];exact Blk.new _ _ _
 have b1:Below w.heap.size w W1:=by rw [←hW1];exact (Below.refl _ _).alloc (Nat.le_refl _) _
 obtain ⟨W2,hW2⟩ : ∃ W2,W1.alloc (.cells (sdC x).toArray 90)=W2:=⟨_,rfl⟩
 have d2:Blk W2 W1.heap.size 90 (sdC x).toArray:=by rw [←hW2];exact Blk.new _ _ _
 have bb2:Below W1.heap.size W1 W2:=by rw [←hW2];exact (Below.refl _ _).alloc (Nat.le_refl _) _
 obtain ⟨W3,hW3⟩ : ∃ W3,W2.alloc (.cells zObj 68)=W3:=⟨_,rfl⟩
 have z3:Blk W3 W2.heap.size 68 zObj:=by rw [←hW3];exact Blk.new _ _ _
 have bb3:Below W2.heap.size W2 W3:=by rw [←hW3];exact (Below.refl _ _).alloc (Nat.le_refl _) _
 have b2:=bthen b1 b1.size bb2
 have b3:=bthen b2 b2.size bb3
 have s3:=(s1.below bb2 s1.lt).below bb3 (s1.below bb2 s1.lt).lt
 have d3:=d2.below bb3 d2.lt
 have hle2:w.heap.size≤W2.heap.size:=b2.size
 have hlt0:=s1.lt
 have hlt1:=d2.lt
 have hlt2:=z3.lt
 have fL:=fun W (hW:Below W3.heap.size W3 W)=>zAC (s3.below hW s3.lt)
 have fK : ∀ W,Below W3.heap.size W3 W→W.cell? ⟨W1.heap.size,0,none⟩=some (.int .u8 x.kind.toNat):=fun W hW=>(d3.below hW d3.lt).cell 0
 have fR : ∀ W,Below W3.heap.size W3 W→W.cell? ⟨W1.heap.size,1,none⟩=some x.vr:=fun W hW=>(d3.below hW d3.lt).cell 1
 have fT : ∀ W,Below W3.heap.size W3 W→W.cell? ⟨W1.heap.size,2,none⟩=some (.int .u16 x.time):=fun W hW=>(d3.below hW d3.lt).cell 2
 have fX : ∀ W,Below W3.heap.size W3 W→W.cell? ⟨W1.heap.size,3,none⟩=some (.string (B x.text)):=fun W hW=>(d3.below hW d3.lt).cell 3
 have k3:=fK W3 (Below.refl _ _)
 have hkb:(x.kind.toNat:Int)<256:=by have:=x.kind.toNat_lt;omega
 have hbd:=built_blob x.text
 have hcs:(objC ⟨1,x.text,[],noId,[],0,[],noId,0,[]⟩ (.slice none 0 0) (.slice none 0 0)).toArray.size=72:=by rw [List.size_toArray];exact zAy ⟨zAi,zAi,by simp,by simp,hx.text,by simp,by simp,by simp,by simp,by simp,by simp,by simp⟩ _ _
 have hc1:=zAv ⟨1,x.text,[],noId,[],0,[],noId,0,[]⟩ none none 0 0 0 0
 have x3:=fX W3 (Below.refl _ _)
 have hfin : ∀ w',MkR w (.returned (.agg (objC ⟨1,x.text,[],noId,[],0,[],noId,0,[]⟩ (.slice none 0 0) (.slice none 0 0)).toArray)) w':=fun w'=>MkR.bare _ rfl rfl ⟨by simp,by simp,by simp,by show x.text.length≤_;omega,by simp,by simp⟩ ⟨zAi,zAi,by simp,by simp,hx.text,by simp,by simp,by simp,by simp,by simp,by simp,by simp⟩
 clear h hi hx fL fK fR fT fX hok
 generalize (objC ⟨1,x.text,[],noId,[],0,[],noId,0,[]⟩ (.slice none 0 0) (.slice none 0 0)).toArray=OC at *
 generalize (sdC x).toArray=SC at *
 generalize zObj=ZO at *
 go_enter Tryz.func46,Tryz.ntmps46
 go_wp2_with (first
  | ((with_reducible refine zDh hbd ?_ ?_ ?_);rfl;rfl)
  | (refine wpList_store_row rfl 68 (.tmp 6) (.tmp 165) rfl W2.heap.size OC rfl rfl _ _ z3 (hsz _ hcs) (hz72.trans hcs.symm) hc1 ?_))
 refine bodyPost_ret (results_cell_row rfl _ _ W2.heap.size _ _ _ _ rfl (setRow_heap _ _ _ _ _ _ z3) Tryz.underlying68 rfl (hsz _ hcs)) rfl ⟨hfin _,zAa b3 hle2 _⟩
set_option maxRecDepth 100000 in
set_option maxHeartbeats 8000000 in
theorem make_tag {w:World} {vm:Value} {es:List DiL} (h:DocSt w vm es) (ids:List Txt) (hok : ∀ x∈ids,x.length=32) (hil:ids.length≤1000) (vi:Value) (hi:Ids w vi ids) (x:SdL) (hx:SdOk w x) (hr:x.refs.length≤10) (ht:x.text.length≤300) (hk:(x.kind.toNat:Int)%4=3) :
 Calls Tryz.prog 46 #[.agg #[vm],vi, .agg (sdC x).toArray] w fun e w'=>MkR w e w'∧Below w.heap.size w w':=by
 have hzo:=zeroObj
 have hz72:=zAF
 have hzone:zObj.all (·.oneCell')=true:=zAv zeroO none none 0 0 0 0
 have hsz : ∀ cs:Array Value,cs.size=72→(Tryz.prog.info? 68).map (·.size)=some cs.size:=fun cs h=>by rw [h];exact szObj
 obtain ⟨W1,hW1⟩ : ∃ W1,w.alloc (.cells #[vm] 29)=W1:=⟨_,rfl⟩
 have s1:Blk W1 w.heap.size 29 #[vm]:=by rw [←hW1];exact Blk.new _ _ _
 have b1:Below w.heap.size w W1:=by rw [←hW1];exact (Below.refl _ _).alloc (Nat.le_refl _) _
 obtain ⟨W2,hW2⟩ : ∃ W2,W1.alloc (.cells (sdC x).toArray 90)=W2:=⟨_,rfl⟩
 have d2:Blk W2 W1.heap.size 90 (sdC x).toArray:=by rw [←hW2];exact Blk.new _ _ _
 have bb2:Below W1.heap.size W1 W2:=by rw [←hW2];exact (Below.refl _ _).alloc (Nat.le_refl _) _
 obtain ⟨W3,hW3⟩ : ∃ W3,W2.alloc (.cells zObj 68)=W3:=⟨_,rfl⟩
 have z3:Blk W3 W2.heap.size 68 zObj:=by rw [←hW3];exact Blk.new _ _ _
 have bb3:Below W2.heap.size W2 W3:=by rw [←hW3];exact (Below.refl _ _).alloc (Nat.le_refl _) _
 have b2:=bthen b1 b1.size bb2
 have b3:=bthen b2 b2.size bb3
 have s3:=(s1.below bb2 s1.lt).below bb3 (s1.below bb2 s1.lt).lt
 have d3:=d2.below bb3 d2.lt
 have hle2:w.heap.size≤W2.heap.size:=b2.size
 have hlt0:=s1.lt
 have hlt1:=d2.lt
 have hlt2:=z3.lt
 have fL:=fun W (hW:Below W3.heap.size W3 W)=>zAC (s3.below hW s3.lt)
 have fK : ∀ W,Below W3.heap.size W3 W→W.cell? ⟨W1.heap.size,0,none⟩=some (.int .u8 x.kind.toNat):=fun W hW=>(d3.below hW d3.lt).cell 0
 have fR : ∀ W,Below W3.heap.size W3 W→W.cell? ⟨W1.heap.size,1,none⟩=some x.vr:=fun W hW=>(d3.below hW d3.lt).cell 1
 have fT : ∀ W,Below W3.heap.size W3 W→W.cell? ⟨W1.heap.size,2,none⟩=some (.int .u16 x.time):=fun W hW=>(d3.below hW d3.lt).cell 2
 have fX : ∀ W,Below W3.heap.size W3 W→W.cell? ⟨W1.heap.size,3,none⟩=some (.string (B x.text)):=fun W hW=>(d3.below hW d3.lt).cell 3
 have k3:=fK W3 (Below.refl _ _)
 have hkb:(x.kind.toNat:Int)<256:=by have:=x.kind.toNat_lt;omega
 have hsI:(Tryz.prog.info? 53).map (·.size)=some (u8s noId).size:=by rw [zAh,zAi];exact sz32
 have hrb:=fun W=>run_build (P:=Tryz.prog) W _ _ _ zBu
 obtain ⟨A,cap,hvr,hcap1,hcap2,hat⟩:=hx.refs
 rw [hvr] at fR
 have r3:=fR W3 (Below.refl _ _)
 have hfz : ∀ w',MkR w (.returned (.agg zObj)) w':=fun w'=>MkR.bare zeroO rfl rfl zeroO_small zeroO_ok
 have hkc:=fun (y:Txt) (hy:y.length=32) W (hW:Below W3.heap.size W3 W)=>zAM (h.below (bthen b3 b3.size hW)) y hy
 rcases Nat.eq_zero_or_pos x.refs.length with hrl | hrl
 ·skip
  have hl0:(x.refs.length:Int)=0:=by omega
  clear h hi hx fL fK fR fT fX hok hkc hat hvr hrl
  generalize (sdC x).toArray=SC at *
  generalize zObj=ZO at *
  go_enter Tryz.func46,Tryz.ntmps46
  go_wp2_with (first
   | (refine wpList_store_row rfl 68 (.tmp 6) (.tmp 128) rfl W2.heap.size ZO rfl rfl _ _ z3 (hsz _ hz72) rfl hzone ?_))
  refine bodyPost_ret (results_cell_row rfl _ _ W2.heap.size _ _ _ _ rfl (setRow_heap _ _ _ _ _ _ z3) Tryz.underlying68 rfl (hsz _ hz72)) rfl ⟨hfz _,zAa b3 hle2 _⟩
 ·have hlb:((x.refs.length:Int)==0)=false:=by rw [beq_eq_false_iff_ne];omega
  have hl0 : ¬ (x.refs.length:Int)=0:=by omega
  have hlp:(0:Int)<(x.refs.length:Int):=by omega
  obtain ⟨ga,oa,rfl,hga,hca⟩:=hat (by omega)
  obtain ⟨c0,hc0⟩ : ∃ c,x.refs[0]?=some c:=⟨_,List.getElem?_eq_getElem hrl⟩
  have fB : ∀ W,Below W3.heap.size W3 W→W.cell? ⟨ga,oa,none⟩=some (.int .u8 c0.toNat):=fun W hW=>by
   have:=zAc (hca 0 c0 hc0) hga (bthen b3 b3.size hW) 0 _ rfl
   simpa [byC,u8v] using this
  have hc0b:(c0.toNat:Int)<256:=by have:=c0.toNat_lt;omega
  have hc0w:IntKind.i64.wrap (c0.toNat:Int)=(c0.toNat:Int):=IntWalk.i64_in _ (by omega)
  have hpk:=fun W (hW:Below W3.heap.size W3 W)=>(zDe (h.below (bthen b3 b3.size hW)) ids hok hil vi (hi.below (bthen b3 b3.size hW)) c0.toNat (by omega) 0)
  have fB1:1<x.refs.length → ∃ c1:UInt8, ∀ W,Below W3.heap.size W3 W→W.cell? ⟨ga,oa+1,none⟩=some (.int .u8 c1.toNat):=fun h1=>by
   obtain ⟨c1,hc1⟩ : ∃ c,x.refs[1]?=some c:=⟨_,List.getElem?_eq_getElem h1⟩
   refine ⟨c1,fun W hW=>?_⟩
   have:=zAc (hca 1 c1 hc1) hga (bthen b3 b3.size hW) 0 _ rfl
   simpa [byC,u8v] using this
  clear h hi hx fK fT fX hok hvr hca hc0 hat
  generalize (sdC x).toArray=SC at *
  generalize zObj=ZO at *
  go_enter Tryz.func46,Tryz.ntmps46
  go_wp2
  refine zAr 14 (by kernel_rfl) (by kernel_rfl) (by kernel_rfl) (by kernel_rfl) ?_
  simp only [exSp]
  iterate 14 apply Exists.intro
  repeat
   first
    | ((with_reducible apply lx0_ex)
       ·(go_simp;done)
       apply Exists.intro
       apply And.intro
       ·apply Eq.refl
       apply And.intro
       ·intro W hW hD
        have hW2:=hW
        have q0:=fL W hW2
        have q1:=fR W hW2
        have q2:=fB W hW2
        go_simp
        rfl
       simp only [Act.put,zA,zB,zC])
    | ((with_reducible apply zAJ)
       ·(first | rfl | (go_simp;done))
       ·apply Eq.refl
       simp only [Act.put,zA,zB,zC])
    | ((with_reducible refine lx0_new (fun v _ _=>PickV v) rfl ?_ (zBO PickV) ?_ ?_)
       ·(go_simp;done)
       ·intro W hW hD
        have hW2:=hW
        unfold doesAt Oper.wp execOp
        go_simp
        (with_reducible refine (hpk W hW2).mono ?_)
        rintro e w' ⟨⟨y,b,rfl,hy⟩,hb⟩
        exact ⟨hb,fun _ _ _ _=>⟨y,b,rfl,hy⟩⟩
       intro v
       simp only [Act.put,zA,zB,zC])
    | (first | (with_reducible apply zBc) | (with_reducible apply zAK)
       ·apply Eq.refl
       apply Exists.intro
       apply And.intro
       ·(go_simp;rfl)
       simp only [Act.put,zA,zB,zC])
    | ((with_reducible apply zDL)
       ·apply Eq.refl
       apply Exists.intro
       apply And.intro
       ·(go_simp;rfl)
       refine ⟨fun W hW hD=>?_,?_⟩
       ·obtain ⟨F,y,b,rfl,hy⟩:=hD.at 0 rfl (by kernel_rfl)
        exact ⟨_,rfl,by simp⟩
       simp only [Act.put,zA,zB,zC])
    | ((with_reducible apply lx_al 53 (u8s noId) zeroIdV)
       ·apply Eq.refl
       intro v
       simp only [Act.put,zA,zB,zC])
    | ((with_reducible apply lx_st' 11 53 (u8s noId) hsI (by kernel_rfl))
       ·exact rfl
       ·apply Eq.refl
       apply Exists.intro
       apply Exists.intro
       apply And.intro
       ·(go_simp;rfl)
       apply And.intro
       ·(go_simp;rfl)
       refine ⟨?_,fun W hW hD=>?_,?_⟩
       ·first | exact List.Mem.head _ | exact List.Mem.tail _ (List.Mem.head _) | exact List.Mem.tail _ (List.Mem.tail _ (List.Mem.head _)) | exact List.Mem.tail _ (List.Mem.tail _ (List.Mem.tail _ (List.Mem.head _)))
       ·obtain ⟨F,y,b,rfl,hy⟩:=hD.at 1 rfl (by kernel_rfl)
        exact ⟨_,rfl,by rw [zAh,zAh,hy,zAi],u8s_one y⟩)
  refine lx0_nil ?_ fun w5 hW5 hD5=>?_
  ·exact (by simp [stsOf])
  obtain ⟨_,y,b,rfl,hy⟩:=hD5 _ (.tail _ (.tail _ (.head _)))
  obtain ⟨_,g,cs,rfl,hcs,hg1,_,hg2⟩:=hD5 _ (.head _)
  obtain rfl:u8s y=cs:=by injection hcs
  clear hcs hD5
  simp only [extr2_0,extr2_1]
  have b5:=bthen b3 b3.size hW5
  have z5:=z3.below hW5 z3.lt
  have hgI:=zAb (zAk hg2) hy
  have r5:=fR _ hW5
  have l5:=fL _ hW5
  have hk5:=hkc y hy _ hW5
  clear hpk hkc
  cases b
  ·clear hk5
   go_wp2_with (first
    | (refine wpList_store_row rfl 68 (.tmp 6) (.tmp 142) rfl W2.heap.size ZO rfl rfl _ _ z5 (hsz _ hz72) rfl hzone ?_))
   refine bodyPost_ret (results_cell_row rfl _ _ W2.heap.size _ _ _ _ rfl (setRow_heap _ _ _ _ _ _ z5) Tryz.underlying68 rfl (hsz _ hz72)) rfl ⟨hfz _,zAa b5 hle2 _⟩
  ·obtain ⟨K,hK⟩ : ∃ K,kindS (es.map (·.st)) y=K:=⟨_,rfl⟩
   have hKb:=zEB (s:=es.map (·.st)) y
   rw [hK] at hKb hk5
   have hk5:=Lib.hid hk5
   have hbd:=fun k=>built_tag y hy k [116]
   have hcs : ∀ k:Int,(objC ⟨4,[],[],noId,[],0,[],y,k,[116]⟩ (.slice none 0 0) (.slice none 0 0)).toArray.size=72:=fun k=>by
    rw [List.size_toArray]
    unfold objC
    simp [zAh,zAi,hy]
   have hc1:=fun k:Int=>zAv ⟨4,[],[],noId,[],0,[],y,k,[116]⟩ none none 0 0 0 0
   have hfin : ∀ (k:Int) w', -9223372036854775808≤k→k≤9223372036854775807→MkR w (.returned (.agg (objC ⟨4,[],[],noId,[],0,[],y,k,[116]⟩ (.slice none 0 0) (.slice none 0 0)).toArray)) w':=fun k w' h1 h2=>MkR.bare _ rfl rfl ⟨by simp,by simp,by simp,by simp,by simp,by simp⟩ ⟨zAi,hy,by simp,by simp,by simp,by simp,by simp,by simp,by simp,by simp,h1,h2⟩
   have hfa : ∀ (W:World),Below w5.heap.size w5 W→(ldvI ⟨g,0,none⟩).run Tryz.prog W = .ok (.agg (u8s y)) W:=fun W hW=>zAb (zAk (hg2.below hW hg2.lt)) hy
   have hw4:IntKind.i64.wrap (1+K%4)=1+K%4:=IntWalk.i64_in _ (by omega)
   have hK0:=hKb.1
   have hK1:=hKb.2
   have hfinK:=hfin K
   have hfin4:=hfin (1+K%4)
   have hbdK:Tryz.prog.built 68 [(0, .int .i64 4),(7, .agg (u8s y)),(8, .int .i64 K),(9, .string ⟨#[116]⟩)]=some _:=hbd K
   have hbd4:Tryz.prog.built 68 [(0, .int .i64 4),(7, .agg (u8s y)),(8, .int .i64 (1+K%4)),(9, .string ⟨#[116]⟩)]=some _:=hbd (1+K%4)
   have hcsK:=hcs K
   have hcs4:=hcs (1+K%4)
   have hc1K:=hc1 K
   have hc14:=hc1 (1+K%4)
   clear hbd hcs hc1 hfin hK hKb hgI
   generalize (objC ⟨4,[],[],noId,[],0,[],y,K,[116]⟩ (.slice none 0 0) (.slice none 0 0)).toArray=OK at *
   generalize (objC ⟨4,[],[],noId,[],0,[],y,1+K%4,[116]⟩ (.slice none 0 0) (.slice none 0 0)).toArray=O4 at *
   have hgI:=hfa _ (Below.refl _ _)
   have main:1<x.refs.length ∨ ¬ 1<x.refs.length:=by omega
   rcases main with h1 | h1
   ·have h1i:(1:Int)<(x.refs.length:Int):=by omega
    obtain ⟨c1,f1⟩:=fB1 h1
    cases hc:((c1.toNat:Int)==250)
    all_goals
     go_wp2_with (first
      | ((with_reducible refine hk5.out.mono ?_);rintro e w6 ⟨rfl,hb6⟩
         have b6:=bthen b5 b5.size hb6
         have z6:=z5.below hb6 z5.lt
         have hgI6:=hfa _ hb6
         have r6:=fR _ (bthen hW5 hW5.size hb6)
         have q6:=f1 _ (bthen hW5 hW5.size hb6))
      | ((with_reducible refine zC9 hbdK ?_ ?_ ?_ ?_ ?_);rfl;rfl;rfl;rfl)
      | ((with_reducible refine zC9 hbd4 ?_ ?_ ?_ ?_ ?_);rfl;rfl;rfl;rfl)
      | (refine wpList_store_row rfl 68 (.tmp 6) (.tmp 162) rfl W2.heap.size OK rfl rfl _ _ z6 (hsz _ hcsK) (hz72.trans hcsK.symm) hc1K ?_)
      | (refine wpList_store_row rfl 68 (.tmp 6) (.tmp 162) rfl W2.heap.size O4 rfl rfl _ _ z6 (hsz _ hcs4) (hz72.trans hcs4.symm) hc14 ?_))
     first
      | refine bodyPost_ret (results_cell_row rfl _ _ W2.heap.size _ _ _ _ rfl (setRow_heap _ _ _ _ _ _ z6) Tryz.underlying68 rfl (hsz _ hcsK)) rfl ⟨hfinK _ (by omega) (by omega),zAa b6 hle2 _⟩
      | refine bodyPost_ret (results_cell_row rfl _ _ W2.heap.size _ _ _ _ rfl (setRow_heap _ _ _ _ _ _ z6) Tryz.underlying68 rfl (hsz _ hcs4)) rfl ⟨hfin4 _ (by omega) (by omega),zAa b6 hle2 _⟩
   ·have h1i : ¬ (1:Int)<(x.refs.length:Int):=by omega
    go_wp2_with (first
     | ((with_reducible refine hk5.out.mono ?_);rintro e w6 ⟨rfl,hb6⟩
        have b6:=bthen b5 b5.size hb6
        have z6:=z5.below hb6 z5.lt
        have hgI6:=hfa _ hb6
        have r6:=fR _ (bthen hW5 hW5.size hb6))
     | ((with_reducible refine zC9 hbdK ?_ ?_ ?_ ?_ ?_);rfl;rfl;rfl;rfl)
     | (refine wpList_store_row rfl 68 (.tmp 6) (.tmp 162) rfl W2.heap.size OK rfl rfl _ _ z6 (hsz _ hcsK) (hz72.trans hcsK.symm) hc1K ?_))
    refine bodyPost_ret (results_cell_row rfl _ _ W2.heap.size _ _ _ _ rfl (setRow_heap _ _ _ _ _ _ z6) Tryz.underlying68 rfl (hsz _ hcsK)) rfl ⟨hfinK _ (by omega) (by omega),zAa b6 hle2 _⟩
end
section
attribute [local go_sem ↓] ldvI_eq ldvS_eq stvI_eq ldvO_eq
set_option maxRecDepth 100000 in
set_option maxHeartbeats 8000000 in
theorem make_commit {w:World} {vm:Value} {es:List DiL} (h:DocSt w vm es) (ids:List Txt) (hok : ∀ x∈ids,x.length=32) (hil:ids.length≤1000) (vi:Value) (hi:Ids w vi ids) (x:SdL) (hx:SdOk w x) (hr:x.refs.length≤10) (ht:x.text.length≤300) (hk:(x.kind.toNat:Int)%4=2) :
 Calls Tryz.prog 46 #[.agg #[vm],vi, .agg (sdC x).toArray] w fun e w'=>MkR w e w'∧Below w.heap.size w w':=by
 have hzo:=zeroObj
 have hz72:=zAF
 have hzone:zObj.all (·.oneCell')=true:=zAv zeroO none none 0 0 0 0
 have hsz : ∀ cs:Array Value,cs.size=72→(Tryz.prog.info? 68).map (·.size)=some cs.size:=fun cs h=>by rw [h];exact szObj
 obtain ⟨W1,hW1⟩ : ∃ W1,w.alloc (.cells #[vm] 29)=W1:=⟨_,rfl⟩
 have s1:Blk W1 w.heap.size 29 #[vm]:=by rw [←hW1];exact Blk.new _ _ _
 have b1:Below w.heap.size w W1:=by rw [←hW1];exact (Below.refl _ _).alloc (Nat.le_refl _) _
 obtain ⟨W2,hW2⟩ : ∃ W2,W1.alloc (.cells (sdC x).toArray 90)=W2:=⟨_,rfl⟩
 have d2:Blk W2 W1.heap.size 90 (sdC x).toArray:=by rw [←hW2];exact Blk.new _ _ _
 have bb2:Below W1.heap.size W1 W2:=by rw [←hW2];exact (Below.refl _ _).alloc (Nat.le_refl _) _
 obtain ⟨W3,hW3⟩ : ∃ W3,W2.alloc (.cells zObj 68)=W3:=⟨_,rfl⟩
 have z3:Blk W3 W2.heap.size 68 zObj:=by rw [←hW3];exact Blk.new _ _ _
 have bb3:Below W2.heap.size W2 W3:=by rw [←hW3];exact (Below.refl _ _).alloc (Nat.le_refl _) _
 have b2:=bthen b1 b1.size bb2
 have b3:=bthen b2 b2.size bb3
 have s3:=(s1.below bb2 s1.lt).below bb3 (s1.below bb2 s1.lt).lt
 have d3:=d2.below bb3 d2.lt
 have hle2:w.heap.size≤W2.heap.size:=b2.size
 have hlt0:=s1.lt
 have hlt1:=d2.lt
 have hlt2:=z3.lt
 have fL:=fun W (hW:Below W3.heap.size W3 W)=>zAC (s3.below hW s3.lt)
 have fK : ∀ W,Below W3.heap.size W3 W→W.cell? ⟨W1.heap.size,0,none⟩=some (.int .u8 x.kind.toNat):=fun W hW=>(d3.below hW d3.lt).cell 0
 have fR : ∀ W,Below W3.heap.size W3 W→W.cell? ⟨W1.heap.size,1,none⟩=some x.vr:=fun W hW=>(d3.below hW d3.lt).cell 1
 have fT : ∀ W,Below W3.heap.size W3 W→W.cell? ⟨W1.heap.size,2,none⟩=some (.int .u16 x.time):=fun W hW=>(d3.below hW d3.lt).cell 2
 have fX : ∀ W,Below W3.heap.size W3 W→W.cell? ⟨W1.heap.size,3,none⟩=some (.string (B x.text)):=fun W hW=>(d3.below hW d3.lt).cell 3
 have k3:=fK W3 (Below.refl _ _)
 have hkb:(x.kind.toNat:Int)<256:=by have:=x.kind.toNat_lt;omega
 have hsI:(Tryz.prog.info? 53).map (·.size)=some (u8s noId).size:=by rw [zAh,zAi];exact sz32
 have hrb:=fun W=>run_build (P:=Tryz.prog) W _ _ _ zBu
 have hzI:=zeroIdV
 have hZ32:(u8s noId).size=32:=by rw [zAh,zAi]
 obtain ⟨A,cap,hvr,hcap1,hcap2,hat⟩:=hx.refs
 rw [hvr] at fR
 have htm:=hx.time
 have htw:IntKind.i64.wrap (x.time:Int)=(x.time:Int):=IntWalk.i64_in _ (by omega)
 have htu:IntKind.u32.wrap (x.time:Int)=(x.time:Int):=by
  unfold IntKind.wrap
  simp [IntKind.bits,IntKind.signed]
  omega
 have t3:=fT W3 (Below.refl _ _)
 have l3:=fL W3 (Below.refl _ _)
 have hp2:=Lib.hid (zDe (h.below b3) ids hok hil vi (hi.below b3) x.time (by omega) 2)
 have hfz : ∀ w',MkR w (.returned (.agg zObj)) w':=fun w'=>MkR.bare zeroO rfl rfl zeroO_small zeroO_ok
 have hpk:=fun (c:UInt8) W (hW:Below W3.heap.size W3 W)=>(zDe (h.below (bthen b3 b3.size hW)) ids hok hil vi (hi.below (bthen b3 b3.size hW)) c.toNat (by have:=c.toNat_lt;omega) 3)
 have fBk : ∀ k,k<x.refs.length → ∃ (ga oa:Nat) (c:UInt8),A=some ⟨ga,oa,none⟩ ∧ ∀ W,Below W3.heap.size W3 W→W.cell? ⟨ga,oa+k,none⟩=some (.int .u8 c.toNat):=fun k hk=>by
  obtain ⟨ga,oa,rfl,hga,hca⟩:=hat (by omega)
  refine ⟨ga,oa,x.refs[k],rfl,fun W hW=>?_⟩
  have:=zAc (hca k _ (List.getElem?_eq_getElem hk)) hga (bthen b3 b3.size hW) 0 _ rfl
  simpa [byC,u8v] using this
 have htx:=hx.text
 clear h hi hx fK hok hat hvr
 generalize (sdC x).toArray=SC at *
 obtain ⟨ZO,hZO⟩ : ∃ ZO,zObj=ZO:=⟨_,rfl⟩
 rw [hZO] at hzo hz72 hzone hW3 z3 hrb hfz
 go_enter Tryz.func46,Tryz.ntmps46
 go_upto_region 13 with (first
  | ((with_reducible refine hp2.out.mono ?_);rintro e w4 ⟨⟨y,b,rfl,hy⟩,hb4⟩
     have b4:=bthen b3 b3.size hb4
     have z4:=z3.below hb4 z3.lt
     have hy32:(u8s y).size=32:=by rw [zAh,hy]
     have hyo:=u8s_one y)
  | ((with_reducible refine lit_new 53 (.tmp 11) (.tmp 72) (u8s y) 32 sz32 hy32 hyo _ ?_ ?_ ?_ ?_)
     ·first | exact hZ32 | rfl
     ·rfl
     ·rfl
     intro W5 n5 hbl5
     have b5:=bthen b4 b4.size hbl5
     have b35:=bthen hb4 hb4.size hbl5
     have z5:=z4.below hbl5 z4.lt
     have ln5:=zAb (zAk n5) hy))
 cases b
 ·clear hpk fBk fL fR
  go_wp2_with (first
   | (refine wpList_store_row rfl 68 (.tmp 6) (.tmp 76) rfl W2.heap.size ZO rfl rfl _ _ z5 (hsz _ hz72) rfl hzone ?_))
  refine bodyPost_ret (results_cell_row rfl _ _ W2.heap.size _ _ _ _ rfl (setRow_heap _ _ _ _ _ _ z5) Tryz.underlying68 rfl (hsz _ hz72)) rfl ⟨hfz _,zAa b5 hle2 _⟩
 ·have hbd:=built_commit y hy x.time x.text
  have hcs:(objC ⟨3,[],[],y,[],x.time,x.text,noId,0,[]⟩ (.slice none 0 0) (.slice none 0 0)).toArray.size=72:=by
   rw [List.size_toArray]
   unfold objC
   simp [zAh,zAi,hy]
  have hc1:=zAv ⟨3,[],[],y,[],x.time,x.text,noId,0,[]⟩ none none 0 0 0 0
  have t5:=fT _ b35
  have x5:=fX _ b35
  obtain ⟨OC,hOC⟩ : ∃ OC,(objC ⟨3,[],[],y,[],x.time,x.text,noId,0,[]⟩ (.slice none 0 0) (.slice none 0 0)).toArray=OC:=⟨_,rfl⟩
  rw [hOC] at hbd hcs hc1
  have hOC:=Lib.hid hOC
  go_wp2_with (first
   | ((with_reducible refine zC9 hbd ?_ ?_ ?_ ?_ ?_);rfl;rfl;rfl;rfl)
   | ((with_reducible refine lit_new 68 (.tmp 13) (.tmp 83) OC 72 szObj hcs hc1 _ ?_ ?_ ?_ ?_)
      ·first | exact hz72 | rfl
      ·rfl
      ·rfl
      intro W6 n6 hbl6
      have b36:=bthen b35 b35.size hbl6))
  have hgs:W3.heap.size≤W5.heap.size:=b35.size
  have hO6:ObjB W6 W5.heap.size ⟨3,[],[],y,[],x.time,x.text,noId,0,[]⟩ (.slice none 0 0) (.slice none 0 0):=⟨by rw [hOC.out];exact n6,hy,zAi⟩
  clear n6 hbd hcs hc1 t5 x5 ln5 n5 hp2 l3 t3 z5 z4 hrb hfz fT fX
  go_loopw [14] (fun vi wr => ∃ (k:Nat) (acc:List Txt) (vp:Value),vi = .int .i64 k∧k≤x.refs.length∧k≤4∧acc.length≤k∧Hid (∀ x∈acc,x.length=32)∧ObjB wr W5.heap.size ⟨3,[],[],y,acc,x.time,x.text,noId,0,[]⟩ (.slice none 0 0) vp∧OwnIds wr W3.heap.size vp acc∧Below W3.heap.size W3 wr) (fun vi _=>x.refs.length-(intOf vi).toNat)
  case atStart=>exact ⟨0,[],_,rfl,by omega,by omega,by simp,Lib.hid (fun x hx=>by simp at hx),hO6,World.ownsRow_nil _ _ _ _,b36⟩
  case round=>
   obtain ⟨k,acc,vp,rfl,hk,hk4,hal,hall,hO,hown,hbel⟩:=hrel
   have r6:=fR _ hbel
   by_cases hlt:k<x.refs.length
   ·have hki:(k:Int)<(x.refs.length:Int):=by omega
    by_cases hk5:k<4
    ·have hki4:(k:Int)<4:=by omega
     obtain ⟨ga,oa,c,rfl,fB⟩:=fBk k hlt
     have hcb:(c.toNat:Int)<256:=by have:=c.toNat_lt;omega
     have hcw:IntKind.i64.wrap (c.toNat:Int)=(c.toNat:Int):=IntWalk.i64_in _ (by omega)
     have hpk:=hpk c
     clear fBk
     go_wp2
     refine zAr 15 (by kernel_rfl) (by kernel_rfl) (by kernel_rfl) (by kernel_rfl) ?_
     simp only [exSp]
     iterate 15 apply Exists.intro
     repeat
      first
       | ((with_reducible apply lx0_ex)
          ·(go_simp;done)
          apply Exists.intro
          apply And.intro
          ·apply Eq.refl
          apply And.intro
          ·intro W hW hD
           have hW2:=hbel.trans (hW.mono hbel.size)
           have q0:=fL W hW2
           have q1:=fR W hW2
           have q2:=fB W hW2
           go_simp
           rfl
          simp only [Act.put,zA,zB,zC])
       | ((with_reducible apply zAJ)
          ·(first | rfl | (go_simp;done))
          ·apply Eq.refl
          simp only [Act.put,zA,zB,zC])
       | ((with_reducible refine lx0_new (fun v _ _=>PickV v) rfl ?_ (zBO PickV) ?_ ?_)
          ·(go_simp;done)
          ·intro W hW hD
           have hW2:=hbel.trans (hW.mono hbel.size)
           unfold doesAt Oper.wp execOp
           go_simp
           (with_reducible refine (hpk W hW2).mono ?_)
           rintro e w' ⟨⟨y,b,rfl,hy⟩,hb⟩
           exact ⟨hb,fun _ _ _ _=>⟨y,b,rfl,hy⟩⟩
          intro v
          simp only [Act.put,zA,zB,zC])
       | (first | (with_reducible apply zBc) | (with_reducible apply zAK)
          ·apply Eq.refl
          apply Exists.intro
          apply And.intro
          ·(go_simp;rfl)
          simp only [Act.put,zA,zB,zC])
       | ((with_reducible apply zDL)
          ·apply Eq.refl
          apply Exists.intro
          apply And.intro
          ·(go_simp;rfl)
          refine ⟨fun W hW hD=>?_,?_⟩
          ·obtain ⟨F,y,b,rfl,hy⟩:=hD.at 0 rfl (by kernel_rfl)
           exact ⟨_,rfl,by simp⟩
          simp only [Act.put,zA,zB,zC])
       | ((with_reducible apply lx_al 53 (u8s noId) zeroIdV)
          ·apply Eq.refl
          intro v
          simp only [Act.put,zA,zB,zC])
       | ((with_reducible apply lx_st' 12 53 (u8s noId) hsI (by kernel_rfl))
          ·exact rfl
          ·apply Eq.refl
          apply Exists.intro
          apply Exists.intro
          apply And.intro
          ·(go_simp;rfl)
          apply And.intro
          ·(go_simp;rfl)
          refine ⟨?_,fun W hW hD=>?_,?_⟩
          ·first | exact List.Mem.head _ | exact List.Mem.tail _ (List.Mem.head _) | exact List.Mem.tail _ (List.Mem.tail _ (List.Mem.head _)) | exact List.Mem.tail _ (List.Mem.tail _ (List.Mem.tail _ (List.Mem.head _)))
          ·obtain ⟨F,y,b,rfl,hy⟩:=hD.at 1 rfl (by kernel_rfl)
           exact ⟨_,rfl,by rw [zAh,zAh,hy,zAi],u8s_one y⟩)
     refine lx0_nil ?_ fun w7 hW7 hD7=>?_
     ·exact (by simp [stsOf])
     obtain ⟨_,y7,b,rfl,hy7⟩:=hD7 _ (.tail _ (.tail _ (.head _)))
     obtain ⟨_,g,cs,rfl,hcs,hg1,_,hg2⟩:=hD7 _ (.head _)
     obtain rfl:u8s y7=cs:=by injection hcs
     clear hcs hD7
     simp only [extr2_0,extr2_1]
     have b7:=hbel.trans (hW7.mono hbel.size)
     have own7:=zAd hown hW7
     have hO7:=hO.below hW7
     have hgI:=zAb (zAk hg2) hy7
     clear hpk fB hcw
     cases b
     ·go_wp2
      go_roundw
      case rel=>exact ⟨k+1,acc,vp,by go_num,by omega,by omega,by omega,hall,hO7,own7,b7⟩
      case measure=>simp [intOf];omega
     ·obtain ⟨A3,c3,rfl⟩:=zAl hown
      have hpc:w7.cell? ⟨W5.heap.size,35,none⟩=some (.slice A3 acc.length c3):=hO7.pars
      by_cases ha:acc.length=k
      ·have hai:((acc.length:Int)==(k:Int))=true:=by simp;omega
       clear ha
       have hid32:(idC y7).toArray.size=32:=by rw [List.size_toArray,idC_len hy7]
       have hidl:(idC y7).toArray.size=1*32:=hid32
       have hid1 : ∀ u∈(idC y7).toArray.toList,u.oneCell'=true:=by rw [List.toList_toArray];exact idC_one y7
       have hXC:(idC y7).toArray=u8s y7:=by simp [idC]
       rw [hXC] at hid32 hidl hid1
       have hall2:Hid (∀ z∈acc++[y7],z.length=32):=Lib.hid fun z hz=>by
        rcases List.mem_append.1 hz with hz | hz
        ·exact hall.out z hz
        ·rw [List.mem_singleton.1 hz];exact hy7
       have hrow:Hid (rowsOf idC (acc++[y7])=rowsOf idC acc++(u8s y7).toList):=Lib.hid (by rw [zAo,zAp];rfl)
       have hkl:acc.length+1≤9223372036854775807:=by omega
       have hm2:(acc.length+1)*32≤140737488355328:=by omega
       have sz7:=b7.size
       have hgO:=zAu own7 hO7.blk (by decide)
       clear hXC
       generalize u8s y7=XC at *
       go_wp2_with (first
        | ((with_reducible refine zAq (.tmp 117) Tryz.idsTy XC hid32 (by omega) ?_ ?_);rfl)
        | (at_builtin
           (with_reducible refine zAn (.tmp 116) (.tmp 118) 1 _ Tryz.idsTy own7 XC hidl hid1 hkl hm2 sz7 ?_ ?_ ?_);rfl;rfl
           intro v8 w8 hv8 hb8 hg8 hn8
           have b8:=b7.trans hb8
           have hO8:ObjB w8 W5.heap.size ⟨3,[],[],y,acc,x.time,x.text,noId,0,[]⟩ (.slice none 0 0) (.slice A3 acc.length c3):=⟨hO7.blk.grown hg8 hgO,hO7.tr,hO7.ta⟩
           have hf8:=hO8.fr 35
           have hp8:=hO8.pars
           obtain ⟨A8,c8,rfl⟩:=zAl hv8
           clear hg8 hn8))
       have hne8:=zAu hv8 hO8.blk (by decide)
       have own9:OwnIds (w8.setCell ⟨W5.heap.size,35,none⟩ (.slice A8 (acc.length+1) c8)) W3.heap.size (.slice A8 (acc.length+1) c8) (acc++[y7]):=by
        unfold OwnIds
        rw [List.length_append,hrow.out]
        exact zBS hv8 fun k hk=>Below.heap_setCell _ _ _ _ (fun e=>hne8 (by rw [hk];exact congrArg some e.symm))
       go_roundw
       case rel=>exact ⟨k+1,acc++[y7],_,by go_num,by omega,by omega,by simp;omega,hall2,hO8.setPars _ _,own9,b8.setCell hgs _⟩
       case measure=>simp [intOf];omega
      ·have hai:((acc.length:Int)==(k:Int))=false:=by rw [beq_eq_false_iff_ne];omega
       go_wp2
       go_roundw
       case rel=>exact ⟨k+1,acc,_,by go_num,by omega,by omega,by omega,hall,hO7,own7,b7⟩
       case measure=>simp [intOf];omega
    ·have hki4 : ¬ (k:Int)<4:=by omega
     clear fBk hpk
     obtain ⟨A3,c3,rfl⟩:=zAl hown
     have hz9:=z3.below hbel z3.lt
     have hokO:ObjOk ⟨3,[],[],y,acc,x.time,x.text,noId,0,[]⟩:=⟨hy,zAi,by simp,hall.out,by simp,htx,by simp,by show x.time<_;omega,by simp,by simp,by simp,by simp⟩
     have ld:=zAX hO hokO
     have hcs:(objC ⟨3,[],[],y,acc,x.time,x.text,noId,0,[]⟩ (.slice none 0 0) (.slice A3 acc.length c3)).toArray.size=72:=by rw [List.size_toArray];exact zAy hokO _ _
     have hc1:=zAv ⟨3,[],[],y,acc,x.time,x.text,noId,0,[]⟩ none A3 0 0 acc.length c3
     have hfin:Hid (∀ w',OwnIds w' W3.heap.size (.slice A3 acc.length c3) acc→MkR w (.returned (.agg (objC ⟨3,[],[],y,acc,x.time,x.text,noId,0,[]⟩ (.slice none 0 0) (.slice A3 acc.length c3)).toArray)) w'):=Lib.hid fun w' ho=>⟨_,none,A3,0,c3,rfl,⟨by simp,by simp,by show acc.length≤_;omega,by simp,by show x.text.length≤_;omega,by simp⟩,hokO,World.ownsRow_nil _ _ _ _,zAx ho b3.size⟩
     have b9:=bthen b3 b3.size hbel
     generalize (objC ⟨3,[],[],y,acc,x.time,x.text,noId,0,[]⟩ (.slice none 0 0) (.slice A3 acc.length c3)).toArray=OR at *
     go_wp2_with (first
      | (refine wpList_store_row rfl 68 (.tmp 6) (.tmp 121) rfl W2.heap.size OR rfl rfl _ _ hz9 (hsz _ hcs) (hz72.trans hcs.symm) hc1 ?_))
     refine bodyPost_ret (results_cell_row rfl _ _ W2.heap.size _ _ _ _ rfl (setRow_heap _ _ _ _ _ _ hz9) Tryz.underlying68 rfl (hsz _ hcs)) rfl ⟨hfin.out _ (own_row hown hlt2 OR),zAa b9 hle2 _⟩
   ·have hki : ¬ (k:Int)<(x.refs.length:Int):=by omega
    clear fBk hpk
    obtain ⟨A3,c3,rfl⟩:=zAl hown
    have hz9:=z3.below hbel z3.lt
    have hokO:ObjOk ⟨3,[],[],y,acc,x.time,x.text,noId,0,[]⟩:=⟨hy,zAi,by simp,hall.out,by simp,htx,by simp,by show x.time<_;omega,by simp,by simp,by simp,by simp⟩
    have ld:=zAX hO hokO
    have hcs:(objC ⟨3,[],[],y,acc,x.time,x.text,noId,0,[]⟩ (.slice none 0 0) (.slice A3 acc.length c3)).toArray.size=72:=by rw [List.size_toArray];exact zAy hokO _ _
    have hc1:=zAv ⟨3,[],[],y,acc,x.time,x.text,noId,0,[]⟩ none A3 0 0 acc.length c3
    have hfin:Hid (∀ w',OwnIds w' W3.heap.size (.slice A3 acc.length c3) acc→MkR w (.returned (.agg (objC ⟨3,[],[],y,acc,x.time,x.text,noId,0,[]⟩ (.slice none 0 0) (.slice A3 acc.length c3)).toArray)) w'):=Lib.hid fun w' ho=>⟨_,none,A3,0,c3,rfl,⟨by simp,by simp,by show acc.length≤_;omega,by simp,by show x.text.length≤_;omega,by simp⟩,hokO,World.ownsRow_nil _ _ _ _,zAx ho b3.size⟩
    have b9:=bthen b3 b3.size hbel
    generalize (objC ⟨3,[],[],y,acc,x.time,x.text,noId,0,[]⟩ (.slice none 0 0) (.slice A3 acc.length c3)).toArray=OR at *
    go_wp2_with (first
     | (refine wpList_store_row rfl 68 (.tmp 6) (.tmp 121) rfl W2.heap.size OR rfl rfl _ _ hz9 (hsz _ hcs) (hz72.trans hcs.symm) hc1 ?_))
    refine bodyPost_ret (results_cell_row rfl _ _ W2.heap.size _ _ _ _ rfl (setRow_heap _ _ _ _ _ _ hz9) Tryz.underlying68 rfl (hsz _ hcs)) rfl ⟨hfin.out _ (own_row hown hlt2 OR),zAa b9 hle2 _⟩
end
section
attribute [local go_sem ↓] ldvI_eq ldvS_eq stvI_eq ldvO_eq
def NameV (v:Value):Prop := ∃ c:UInt8,v = .string (B [c])
structure EntS (e:EntL):Prop where
 id:e.id.length=32
 name:e.name.length=1
 k0:0≤e.kind
 k1:e.kind≤255
theorem EntS.ok {e:EntL} (h:EntS e):EntOk e:=⟨h.id,by have:=h.name;omega,by have:=h.k0;omega,by have:=h.k1;omega⟩
def oT : ObjL:=⟨2,[],[],noId,[],0,[],noId,0,[]⟩
def oTC (ve:Value):Array Value:=(objC oT ve (.slice none 0 0)).toArray
theorem entC_lenS {y:Txt} (hy:y.length=32) {n:Txt} {K:Int}:(entC ⟨n,K,y⟩).length=34:=by
 unfold entC
 simp [zAh,hy]
set_option maxRecDepth 100000 in
theorem built_ent3 (n:Txt) (k:Int) (x:Txt) (hx:x.length=32):Tryz.prog.built 138 [(0, .string (B n)),(1, .int .i64 k),(2, .agg (u8s x))]=some (entC ⟨n,k,x⟩).toArray:=by
 obtain ⟨f,rfl⟩:=len32 hx
 kernel_rfl
set_option maxRecDepth 100000 in
set_option maxHeartbeats 8000000 in
theorem make_tree {w:World} {vm:Value} {es:List DiL} (h:DocSt w vm es) (ids:List Txt) (hok : ∀ x∈ids,x.length=32) (hil:ids.length≤1000) (vi:Value) (hi:Ids w vi ids) (x:SdL) (hx:SdOk w x) (hr:x.refs.length≤10) (ht:x.text.length≤300) (hk:(x.kind.toNat:Int)%4=1) :
 Calls Tryz.prog 46 #[.agg #[vm],vi, .agg (sdC x).toArray] w fun e w'=>MkR w e w'∧Below w.heap.size w w':=by
 have hzo:=zeroObj
 have hz72:=zAF
 have hzone:zObj.all (·.oneCell')=true:=zAv zeroO none none 0 0 0 0
 have hsz : ∀ cs:Array Value,cs.size=72→(Tryz.prog.info? 68).map (·.size)=some cs.size:=fun cs h=>by rw [h];exact szObj
 obtain ⟨W1,hW1⟩ : ∃ W1,w.alloc (.cells #[vm] 29)=W1:=⟨_,rfl⟩
 have s1:Blk W1 w.heap.size 29 #[vm]:=by rw [←hW1];exact Blk.new _ _ _
 have b1:Below w.heap.size w W1:=by rw [←hW1];exact (Below.refl _ _).alloc (Nat.le_refl _) _
 obtain ⟨W2,hW2⟩ : ∃ W2,W1.alloc (.cells (sdC x).toArray 90)=W2:=⟨_,rfl⟩
 have d2:Blk W2 W1.heap.size 90 (sdC x).toArray:=by rw [←hW2];exact Blk.new _ _ _
 have bb2:Below W1.heap.size W1 W2:=by rw [←hW2];exact (Below.refl _ _).alloc (Nat.le_refl _) _
 obtain ⟨W3,hW3⟩ : ∃ W3,W2.alloc (.cells zObj 68)=W3:=⟨_,rfl⟩
 have z3:Blk W3 W2.heap.size 68 zObj:=by rw [←hW3];exact Blk.new _ _ _
 have bb3:Below W2.heap.size W2 W3:=by rw [←hW3];exact (Below.refl _ _).alloc (Nat.le_refl _) _
 have b2:=bthen b1 b1.size bb2
 have b3:=bthen b2 b2.size bb3
 have s3:=(s1.below bb2 s1.lt).below bb3 (s1.below bb2 s1.lt).lt
 have d3:=d2.below bb3 d2.lt
 have hle2:w.heap.size≤W2.heap.size:=b2.size
 have hlt0:=s1.lt
 have hlt1:=d2.lt
 have hlt2:=z3.lt
 have fL:=fun W (hW:Below W3.heap.size W3 W)=>zAC (s3.below hW s3.lt)
 have fK : ∀ W,Below W3.heap.size W3 W→W.cell? ⟨W1.heap.size,0,none⟩=some (.int .u8 x.kind.toNat):=fun W hW=>(d3.below hW d3.lt).cell 0
 have fR : ∀ W,Below W3.heap.size W3 W→W.cell? ⟨W1.heap.size,1,none⟩=some x.vr:=fun W hW=>(d3.below hW d3.lt).cell 1
 have fT : ∀ W,Below W3.heap.size W3 W→W.cell? ⟨W1.heap.size,2,none⟩=some (.int .u16 x.time):=fun W hW=>(d3.below hW d3.lt).cell 2
 have fX : ∀ W,Below W3.heap.size W3 W→W.cell? ⟨W1.heap.size,3,none⟩=some (.string (B x.text)):=fun W hW=>(d3.below hW d3.lt).cell 3
 have k3:=fK W3 (Below.refl _ _)
 have hkb:(x.kind.toNat:Int)<256:=by have:=x.kind.toNat_lt;omega
 have hsI:(Tryz.prog.info? 53).map (·.size)=some (u8s noId).size:=by rw [zAh,zAi];exact sz32
 obtain ⟨A,cap,hvr,hcap1,hcap2,hat⟩:=hx.refs
 rw [hvr] at fR
 have hkc:=fun (y:Txt) (hy:y.length=32) W (hW:Below W3.heap.size W3 W)=>zAM (h.below (bthen b3 b3.size hW)) y hy
 have hpk:=fun (c:UInt8) W (hW:Below W3.heap.size W3 W)=>(zDe (h.below (bthen b3 b3.size hW)) ids hok hil vi (hi.below (bthen b3 b3.size hW)) c.toNat (by have:=c.toNat_lt;omega) 9)
 have fBk : ∀ k,k<x.refs.length → ∃ (ga oa:Nat) (c:UInt8),A=some ⟨ga,oa,none⟩ ∧ ∀ W,Below W3.heap.size W3 W→W.cell? ⟨ga,oa+k,none⟩=some (.int .u8 c.toNat):=fun k hk=>by
  obtain ⟨ga,oa,rfl,hga,hca⟩:=hat (by omega)
  refine ⟨ga,oa,x.refs[k],rfl,fun W hW=>?_⟩
  have:=zAc (hca k _ (List.getElem?_eq_getElem hk)) hga (bthen b3 b3.size hW) 0 _ rfl
  simpa [byC,u8v] using this
 clear h hi hx fK fT fX hok hat hvr
 generalize (sdC x).toArray=SC at *
 obtain ⟨ZO,hZO⟩ : ∃ ZO,zObj=ZO:=⟨_,rfl⟩
 rw [hZO] at hzo hz72 hzone hW3 z3
 have hbd:=zBv 2
 have hcs:(oTC (.slice none 0 0)).size=72:=rfl
 have hc1:(oTC (.slice none 0 0)).all (·.oneCell')=true:=zAv oT none none 0 0 0 0
 have hbd:Tryz.prog.built 68 [(0, .int .i64 2)]=some (oTC (.slice none 0 0)):=hbd
 obtain ⟨OC,hOC⟩ : ∃ OC,oTC (.slice none 0 0)=OC:=⟨_,rfl⟩
 rw [hOC] at hbd hcs hc1
 have hOC:=Lib.hid hOC
 go_enter Tryz.func46,Tryz.ntmps46
 go_wp2_with (first
  | ((with_reducible refine zAU hbd ?_ ?_);rfl)
  | ((with_reducible refine lit_new 68 (.tmp 7) (.tmp 25) OC 72 szObj hcs hc1 _ ?_ ?_ ?_ ?_)
     ·first | exact hz72 | rfl
     ·rfl
     ·rfl
     intro W4 n4 b34))
 have hO4:Blk W4 W3.heap.size 68 (oTC (.slice none 0 0)):=by rw [hOC.out];exact n4
 clear n4 hbd hcs hc1
 go_loopw [8] (fun vi wr => ∃ (k:Nat) (acc:List EntL) (ve:Value),vi = .int .i64 k∧k≤x.refs.length∧k≤5∧acc.length≤k∧Hid (∀ e∈acc,EntS e)∧Blk wr W3.heap.size 68 (oTC ve)∧OwnEnts wr W3.heap.size ve acc∧Below W3.heap.size W3 wr) (fun vi _=>x.refs.length-(intOf vi).toNat)
 case atStart=>exact ⟨0,[],_,rfl,by omega,by omega,by simp,Lib.hid (fun x hx=>by simp at hx),hO4,World.ownsRow_nil _ _ _ _,b34⟩
 case round=>
  obtain ⟨k,acc,ve,rfl,hk,hk5,hal,hall,hO,hown,hbel⟩:=hrel
  have r6:=fR _ hbel
  by_cases hlt:k<x.refs.length
  ·have hki:(k:Int)<(x.refs.length:Int):=by omega
   by_cases hk6:k<5
   ·have hki5:(k:Int)<5:=by omega
    obtain ⟨ga,oa,c,rfl,fB⟩:=fBk k hlt
    have hcb:(c.toNat:Int)<256:=by have:=c.toNat_lt;omega
    have hcw:IntKind.i64.wrap (c.toNat:Int)=(c.toNat:Int):=IntWalk.i64_in _ (by omega)
    have hpk:=hpk c
    clear fBk
    go_wp2
    refine zAr 15 (by kernel_rfl) (by kernel_rfl) (by kernel_rfl) (by kernel_rfl) ?_
    simp only [exSp]
    iterate 15 apply Exists.intro
    repeat
     first
      | ((with_reducible apply lx0_ex)
         ·(go_simp;done)
         apply Exists.intro
         apply And.intro
         ·apply Eq.refl
         apply And.intro
         ·intro W hW hD
          have hW2:=hbel.trans (hW.mono hbel.size)
          have q0:=fL W hW2
          have q1:=fR W hW2
          have q2:=fB W hW2
          go_simp
          rfl
         simp only [Act.put,zA,zB,zC])
      | ((with_reducible apply zAJ)
         ·(first | rfl | (go_simp;done))
         ·apply Eq.refl
         simp only [Act.put,zA,zB,zC])
      | ((with_reducible refine lx0_new (fun v _ _=>PickV v) rfl ?_ (zBO PickV) ?_ ?_)
         ·(go_simp;done)
         ·intro W hW hD
          have hW2:=hbel.trans (hW.mono hbel.size)
          unfold doesAt Oper.wp execOp
          go_simp
          (with_reducible refine (hpk W hW2).mono ?_)
          rintro e w' ⟨⟨y,b,rfl,hy⟩,hb⟩
          exact ⟨hb,fun _ _ _ _=>⟨y,b,rfl,hy⟩⟩
         intro v
         simp only [Act.put,zA,zB,zC])
      | (first | (with_reducible apply zBc) | (with_reducible apply zAK)
         ·apply Eq.refl
         apply Exists.intro
         apply And.intro
         ·(go_simp;rfl)
         simp only [Act.put,zA,zB,zC])
      | ((with_reducible apply zDL)
         ·apply Eq.refl
         apply Exists.intro
         apply And.intro
         ·(go_simp;rfl)
         refine ⟨fun W hW hD=>?_,?_⟩
         ·obtain ⟨F,y,b,rfl,hy⟩:=hD.at 0 rfl (by kernel_rfl)
          exact ⟨_,rfl,by simp⟩
         simp only [Act.put,zA,zB,zC])
      | ((with_reducible apply lx_al 53 (u8s noId) zeroIdV)
         ·apply Eq.refl
         intro v
         simp only [Act.put,zA,zB,zC])
      | ((with_reducible apply lx_st' 12 53 (u8s noId) hsI (by kernel_rfl))
         ·exact rfl
         ·apply Eq.refl
         apply Exists.intro
         apply Exists.intro
         apply And.intro
         ·(go_simp;rfl)
         apply And.intro
         ·(go_simp;rfl)
         refine ⟨?_,fun W hW hD=>?_,?_⟩
         ·first | exact List.Mem.head _ | exact List.Mem.tail _ (List.Mem.head _) | exact List.Mem.tail _ (List.Mem.tail _ (List.Mem.head _)) | exact List.Mem.tail _ (List.Mem.tail _ (List.Mem.tail _ (List.Mem.head _)))
         ·obtain ⟨F,y,b,rfl,hy⟩:=hD.at 1 rfl (by kernel_rfl)
          exact ⟨_,rfl,by rw [zAh,zAh,hy,zAi],u8s_one y⟩)
    refine lx0_nil ?_ fun w7 hW7 hD7=>?_
    ·exact (by simp [stsOf])
    obtain ⟨_,y7,b,rfl,hy7⟩:=hD7 _ (.tail _ (.tail _ (.head _)))
    obtain ⟨_,g,cs,rfl,hcs,hg1,_,hg2⟩:=hD7 _ (.head _)
    obtain rfl:u8s y7=cs:=by injection hcs
    clear hcs hD7
    simp only [extr2_0,extr2_1]
    have b7:=hbel.trans (hW7.mono hbel.size)
    have own7:=zAd hown hW7
    have hO7:=hO.below hW7 hO.lt
    clear hpk fB hcw
    cases b
    ·go_wp2
     go_roundw
     case rel=>exact ⟨k+1,acc,ve,by go_num,by omega,by omega,by omega,hall,hO7,own7,b7⟩
     case measure=>simp [intOf];omega
    ·obtain ⟨K,hK⟩ : ∃ K,kindS (es.map (·.st)) y7=K:=⟨_,rfl⟩
     have hKb:=zEB (s:=es.map (·.st)) y7
     have hkc:=hkc y7 hy7
     simp only [hK] at hKb hkc
     have hOV2:(oTC ve)[2]?=some ve:=rfl
     have hOVs:(2:Nat)<(oTC ve).size:=by show 2<(objC oT ve _).toArray.size;rw [List.size_toArray];simp [objC]
     have hOVp : ∀ v,(oTC ve).setIfInBounds 2 v=oTC v:=fun v=>rfl
     have hpre:=preOk2 (i:=10) (j:=12) own7 hO7 (by decide)
     have hrB:=rows2 (i:=10) (j:=12) (p:=fun w=>World.ownsRow w W3.heap.size 138 34 ve acc.length (rowsOf entC acc)) (q:=fun w=>Blk w W3.heap.size 68 (oTC ve)) (v:=ve) (fun k hk=>(World.ownsRow.lt own7 k hk).1) (Nat.le_refl W3.heap.size)
     have sz7:=b7.size
     have hno1:=zAu own7 hg2 (by decide)
     have hno2:W3.heap.size≠g:=fun e=>Blk.ne_ hO7 (e▸hg2) (by decide) rfl
     have hgI:=fun W (hF:Far (rowsOfP [(10,ve.ownBlock,fun w=>World.ownsRow w W3.heap.size 138 34 ve acc.length (rowsOf entC acc)),(12,some W3.heap.size,fun w=>Blk w W3.heap.size 68 (oTC ve))]) w7 W)=>zAb (zAk (hF.blk hg2 (by simp [rowsOfP];exact ⟨hno1,fun e=>hno2 e.symm⟩))) hy7
     have hkl:acc.length+1≤9223372036854775807:=by omega
     have hby:(acc.length+1)*56≤140737488355328:=by omega
     obtain ⟨A3,c3,rfl⟩:=zAl hown
     obtain ⟨OV,hOV⟩ : ∃ OV,oTC (.slice A3 acc.length c3)=OV:=⟨_,rfl⟩
     rw [hOV] at hpre hrB hgI hOV2 hOVs hOVp hO7
     have hnm:=fun W=>name_calls11 k (by omega) W
     clear hOV hK hno1 hno2
     go_wp2
     refine zBR 13 [(10,(Value.slice A3 acc.length c3).ownBlock,fun w=>World.ownsRow w W3.heap.size 138 34 (.slice A3 acc.length c3) acc.length (rowsOf entC acc)),(12,some W3.heap.size,fun w=>Blk w W3.heap.size 68 OV)] hpre (by kernel_rfl) (by kernel_rfl) (by kernel_rfl) (by kernel_rfl) ?_
     simp only [exSp]
     iterate 13 apply Exists.intro
     repeat
      first
       | ((with_reducible apply lx_ex)
          ·(go_simp;done)
          apply Exists.intro
          apply And.intro
          ·apply Eq.refl
          apply And.intro
          ·intro W hF hD
           first
            | (have hf:=zBB hF
               have hW2:=b7.trans (hf.below sz7 hrB)
               have q0:=fL W hW2
               have q1:W.cell? ⟨W3.heap.size,2,none⟩=some (.slice A3 acc.length c3):=by rw [(hD.was 1 rfl (by kernel_rfl)).cell];exact hOV2
               have q2:=hgI W hf
               have q3:=hkc W hW2
               go_simp
               first
                | rfl
                | (with_reducible exact q3))
            | (have hf:=zBB hF
               have hW2:=b7.trans (hf.below sz7 hrB)
               have q0:=fL W hW2
               have q2:=hgI W hf
               have q3:=hkc W hW2
               go_simp
               first
                | rfl
                | (with_reducible exact q3))
          simp only [Act.put,zA,zB,zC])
       | ((with_reducible apply lx_pass)
          ·(first | rfl | (go_simp;done))
          ·apply Eq.refl
          simp only [Act.put,zA,zB,zC])
       | ((with_reducible refine lx_new (fun _ v _ _=>NameV v) rfl ?_ (fun _=>zBO NameV) ?_ ?_)
          ·(go_simp;done)
          ·intro W hF hD
           unfold doesAt Oper.wp execOp
           go_simp
           (with_reducible refine (hnm W).mono ?_)
           rintro e w' ⟨⟨cc,rfl⟩,hb⟩
           exact ⟨hb,fun _ _ _ _=>⟨cc,rfl⟩⟩
          intro v
          simp only [Act.put,zA,zB,zC])
       | (first | (with_reducible apply zBc) | (with_reducible apply zAK)
          ·apply Eq.refl
          apply Exists.intro
          apply And.intro
          ·(go_simp;rfl)
          simp only [Act.put,zA,zB,zC])
       | ((with_reducible apply lx_build3 (fun cs => ∃ cc:UInt8,cs=(entC ⟨[cc],K,y7⟩).toArray))
          ·apply Eq.refl
          iterate 3 apply Exists.intro
          iterate 3
           apply And.intro
           ·(go_simp;rfl)
          refine ⟨fun W hF hD=>?_,?_⟩
          ·obtain ⟨F,cc,rfl⟩:=hD.at 0 rfl (by kernel_rfl)
           exact ⟨_,built_ent3 [cc] K y7 hy7,cc,rfl⟩
          intro v
          simp only [Act.put,zA,zB,zC])
       | ((with_reducible apply zCW Tryz.entTy (fun cs => ∃ cc:UInt8,cs=(entC ⟨[cc],K,y7⟩).toArray) (by omega))
          ·apply Eq.refl
          apply Exists.intro
          apply And.intro
          ·(go_simp;rfl)
          refine ⟨fun W hF hD=>?_,?_⟩
          ·obtain ⟨F,cs,rfl,cc,rfl⟩:=hD.at 0 rfl (by kernel_rfl)
           exact ⟨_,rfl,by rw [List.size_toArray,entC_lenS hy7],cc,rfl⟩
          intro v
          simp only [Act.put,zA,zB,zC])
       | ((with_reducible apply lx_append1 Tryz.entTy W3.heap.size (.slice A3 acc.length c3) acc.length (rowsOf entC acc) (fun xs => ∃ cc:UInt8,xs=rowsOf entC acc++entC ⟨[cc],K,y7⟩) hkl hby)
          ·exact sz7
          ·first | exact List.Mem.head _ | exact List.Mem.tail _ (List.Mem.head _) | exact List.Mem.tail _ (List.Mem.tail _ (List.Mem.head _)) | exact List.Mem.tail _ (List.Mem.tail _ (List.Mem.tail _ (List.Mem.head _)))
          ·apply Eq.refl
          apply Exists.intro
          apply Exists.intro
          apply And.intro
          ·(go_simp;rfl)
          apply And.intro
          ·(go_simp;rfl)
          refine ⟨rfl,fun W hF hD=>?_,?_⟩
          ·obtain ⟨F,g5,cs,rfl,_,hk5,cc,rfl⟩:=hD.at 0 rfl (by kernel_rfl)
           exact ⟨g5,_,rfl,hk5,by rw [List.size_toArray,entC_lenS hy7],by rw [List.toList_toArray];exact zD7 _,cc,by rw [List.toList_toArray]⟩
          intro v
          simp only [Act.put,zA,zB,zC])
       | ((with_reducible apply lx_put W3.heap.size 2 OV 68)
          ·exact (fun _=>by kernel_rfl)
          ·exact hOVs
          ·first | exact List.Mem.head _ | exact List.Mem.tail _ (List.Mem.head _) | exact List.Mem.tail _ (List.Mem.tail _ (List.Mem.head _)) | exact List.Mem.tail _ (List.Mem.tail _ (List.Mem.tail _ (List.Mem.head _)))
          ·apply Eq.refl
          apply Exists.intro
          apply Exists.intro
          apply And.intro
          ·(go_simp;rfl)
          apply And.intro
          ·(go_simp;rfl)
          refine ⟨rfl,fun W hF hD=>?_,?_⟩
          ·obtain ⟨F,xs,_,hv,_⟩:=hD.at 0 rfl (by kernel_rfl)
           obtain ⟨A6,c6,rfl⟩:=zAl hv
           exact ⟨_,_,_,rfl⟩)
     refine lxP_nil ?_ fun w9 hF9 hD9=>?_
     ·exact List.nodup_nil
     have f9:=hF9
     obtain ⟨_,hg9,hb9⟩:=hD9 _ (.head _)
     obtain ⟨_,xs,⟨cc,rfl⟩,hv9,_⟩:=hD9 _ (.tail _ (.head _))
     rw [hOVp] at hb9
     have b9:=b7.trans (f9.below sz7 hrB)
     go_wp2
     go_roundw
     case rel=>exact ⟨k+1,acc++[⟨[cc],K,y7⟩],_,by go_num,by omega,by omega,by simp;omega,Lib.hid (fun e he=>by
      rcases List.mem_append.1 he with he | he
      ·exact hall.out e he
      ·rw [List.mem_singleton.1 he];exact ⟨hy7,rfl,hKb.1,hKb.2⟩),hb9,by unfold OwnEnts;rw [List.length_append,zAo,zAp];exact hv9,b9⟩
     case measure=>simp [intOf];omega
   ·have hki5 : ¬ (k:Int)<5:=by omega
    clear fBk hpk hkc
    obtain ⟨A3,c3,rfl⟩:=zAl hown
    have hz9:=z3.below hbel z3.lt
    have hokO:ObjOk ⟨2,[],acc,noId,[],0,[],noId,0,[]⟩:=⟨zAi,zAi,fun e he=>(hall.out e he).ok,by simp,by simp,by simp,by simp,by simp,by simp,by simp,by simp,by simp⟩
    have hOo:ObjB wr W3.heap.size ⟨2,[],acc,noId,[],0,[],noId,0,[]⟩ (.slice A3 acc.length c3) (.slice none 0 0):=⟨hO,zAi,zAi⟩
    have ld:=zAX hOo hokO
    have hcs:(objC ⟨2,[],acc,noId,[],0,[],noId,0,[]⟩ (.slice A3 acc.length c3) (.slice none 0 0)).toArray.size=72:=by rw [List.size_toArray];exact zAy hokO _ _
    have hc1:=zAv ⟨2,[],acc,noId,[],0,[],noId,0,[]⟩ A3 none acc.length c3 0 0
    have hfin:Hid (∀ w',OwnEnts w' W3.heap.size (.slice A3 acc.length c3) acc→MkR w (.returned (.agg (objC ⟨2,[],acc,noId,[],0,[],noId,0,[]⟩ (.slice A3 acc.length c3) (.slice none 0 0)).toArray)) w'):=Lib.hid fun w' ho=>⟨_,A3,none,c3,0,rfl,⟨by show acc.length≤_;omega,fun e he=>by have:=(hall.out e he).name;omega,by simp,by simp,by simp,by simp⟩,hokO,zAx ho b3.size,World.ownsRow_nil _ _ _ _⟩
    have b9:=bthen b3 b3.size hbel
    generalize (objC ⟨2,[],acc,noId,[],0,[],noId,0,[]⟩ (.slice A3 acc.length c3) (.slice none 0 0)).toArray=OR at *
    go_wp2_with (first
     | (refine wpList_store_row rfl 68 (.tmp 6) (.tmp 62) rfl W2.heap.size OR rfl rfl _ _ hz9 (hsz _ hcs) (hz72.trans hcs.symm) hc1 ?_))
    refine bodyPost_ret (results_cell_row rfl _ _ W2.heap.size _ _ _ _ rfl (setRow_heap _ _ _ _ _ _ hz9) Tryz.underlying68 rfl (hsz _ hcs)) rfl ⟨hfin.out _ (own_row hown hlt2 OR),zAa b9 hle2 _⟩
  ·have hki : ¬ (k:Int)<(x.refs.length:Int):=by omega
   clear fBk hpk hkc
   obtain ⟨A3,c3,rfl⟩:=zAl hown
   have hz9:=z3.below hbel z3.lt
   have hokO:ObjOk ⟨2,[],acc,noId,[],0,[],noId,0,[]⟩:=⟨zAi,zAi,fun e he=>(hall.out e he).ok,by simp,by simp,by simp,by simp,by simp,by simp,by simp,by simp,by simp⟩
   have hOo:ObjB wr W3.heap.size ⟨2,[],acc,noId,[],0,[],noId,0,[]⟩ (.slice A3 acc.length c3) (.slice none 0 0):=⟨hO,zAi,zAi⟩
   have ld:=zAX hOo hokO
   have hcs:(objC ⟨2,[],acc,noId,[],0,[],noId,0,[]⟩ (.slice A3 acc.length c3) (.slice none 0 0)).toArray.size=72:=by rw [List.size_toArray];exact zAy hokO _ _
   have hc1:=zAv ⟨2,[],acc,noId,[],0,[],noId,0,[]⟩ A3 none acc.length c3 0 0
   have hfin:Hid (∀ w',OwnEnts w' W3.heap.size (.slice A3 acc.length c3) acc→MkR w (.returned (.agg (objC ⟨2,[],acc,noId,[],0,[],noId,0,[]⟩ (.slice A3 acc.length c3) (.slice none 0 0)).toArray)) w'):=Lib.hid fun w' ho=>⟨_,A3,none,c3,0,rfl,⟨by show acc.length≤_;omega,fun e he=>by have:=(hall.out e he).name;omega,by simp,by simp,by simp,by simp⟩,hokO,zAx ho b3.size,World.ownsRow_nil _ _ _ _⟩
   have b9:=bthen b3 b3.size hbel
   generalize (objC ⟨2,[],acc,noId,[],0,[],noId,0,[]⟩ (.slice A3 acc.length c3) (.slice none 0 0)).toArray=OR at *
   go_wp2_with (first
    | (refine wpList_store_row rfl 68 (.tmp 6) (.tmp 62) rfl W2.heap.size OR rfl rfl _ _ hz9 (hsz _ hcs) (hz72.trans hcs.symm) hc1 ?_))
   refine bodyPost_ret (results_cell_row rfl _ _ W2.heap.size _ _ _ _ rfl (setRow_heap _ _ _ _ _ _ hz9) Tryz.underlying68 rfl (hsz _ hcs)) rfl ⟨hfin.out _ (own_row hown hlt2 OR),zAa b9 hle2 _⟩
end
section
theorem make1_calls {w:World} {vm:Value} {es:List DiL} (h:DocSt w vm es) (ids:List Txt) (hok : ∀ x∈ids,x.length=32) (hil:ids.length≤1000) (vi:Value) (hi:Ids w vi ids) (x:SdL) (hx:SdOk w x) (hr:x.refs.length≤10) (ht:x.text.length≤300) :
 Calls Tryz.prog 46 #[.agg #[vm],vi, .agg (sdC x).toArray] w fun e w'=>MkR w e w'∧Below w.heap.size w w':=by
 have h4:(x.kind.toNat:Int)%4=0∨(x.kind.toNat:Int)%4=1∨(x.kind.toNat:Int)%4=2∨(x.kind.toNat:Int)%4=3:=by omega
 rcases h4 with h4 | h4 | h4 | h4
 ·exact make_blob h ids hok hil vi hi x hx hr ht h4
 ·exact make_tree h ids hok hil vi hi x hx hr ht h4
 ·exact make_commit h ids hok hil vi hi x hx hr ht h4
 ·exact make_tag h ids hok hil vi hi x hx hr ht h4
def ldvSd (p:Addr):Sem Value:=loadVar 90 p
theorem ldvSd_eq (p:Addr):loadVar 90 p=ldvSd p:=rfl
theorem run_ldvSd {w:World} {g o:Nat} {e:SdL} (h:w.rangeAt g o (sdC e)):(ldvSd ⟨g,o,none⟩).run Tryz.prog w = .ok (.agg (sdC e).toArray) w:=run_loadVar_mid w g o 90 (sdC e) _ h Tryz.underlying90 rfl szSeed
attribute [local go_sem ↓] ldvI_eq ldvS_eq stvI_eq stvS_eq ldvSd_eq
def MkV (B:Nat) (v:Value) (F:Foot) (w:World):Prop := ∃ o A1 A2 k1 k2,v = .agg (objC o (.slice A1 o.ents.length k1) (.slice A2 o.pars.length k2)).toArray∧Small o∧ObjOk o∧ownR B 138 34 o.ents.length (rowsOf entC o.ents) (.slice A1 o.ents.length k1) F w∧ownR B 53 32 o.pars.length (rowsOf idC o.pars) (.slice A2 o.pars.length k2) F w
theorem MkV_stab (B:Nat) (v:Value):Stab (MkV B v):=fun F F' w w' hf ha ⟨o,A1,A2,k1,k2,e,h1,h2,h3,h4⟩=>⟨o,A1,A2,k1,k2,e,h1,h2,zBL _ _ _ _ _ _ F F' w w' hf ha h3,zBL _ _ _ _ _ _ F F' w w' hf ha h4⟩
def EncV (v:Value):Prop := ∃ t b,v = .tuple #[.string (B t), .bool b]∧t.length≤4096
theorem encD_V (o:ObjL):EncV (encD o):=by
 cases h:encO o with
 | none=>exact ⟨[],false,zDy h,by simp⟩
 | some t=>
   refine ⟨t,true,encD_some h,?_⟩
   unfold encO at h
   split at h
   ·rename_i hc
    injection h with h
    rw [←h];exact hc.2
   ·cases h
theorem DocSt.one {w:World} {vm:Value} {es:List DiL} (h:DocSt w vm es):vm.oneCell'=true:=by
 obtain ⟨A,c,rfl⟩:=zAl h.own
 rfl
theorem grow_id (w:World) (a b:Array Value) (T:TypeId) (c:Array Value) (S:TypeId):Blk (((w.alloc (.cells a T)).alloc (.cells b S)).setRow w.heap.size c) (w.heap.size+1) S b:=by
 unfold Blk
 rw [setRow_other _ _ _ _ (by omega)]
 have:=Blk.new (w.alloc (.cells a T)) S b
 rwa [zA6] at this
def GrowR (w:World) (n:Nat) (e:Ending) (w':World):Prop := ∃ vm es vi ids,e = .returned (.tuple #[.agg #[vm],vi])∧DocSt w' vm es∧es.length≤n∧OwnIds w' w.heap.size vi ids∧ids.length≤n∧(∀ x∈ids,x.length=32)∧Apart vi vm es
set_option maxRecDepth 100000 in
set_option maxHeartbeats 16000000 in
theorem grow_calls (l:List SdL) (hl:l.length≤100) (hsm : ∀ x∈l,x.refs.length≤10∧x.text.length≤300) (va:Value) (w:World) (h:Seeds w va l) :
 Calls Tryz.prog 24 #[va] w fun e w'=>GrowR w l.length e w'∧Below w.heap.size w w':=by
 have hzI:=zeroIdV
 have hZ32:(u8s noId).size=32:=by rw [zAh,zAi]
 have hbS:Tryz.prog.built 29 []=some #[.slice none 0 0]:=by kernel_rfl
 have hrb:=fun W=>run_build (P:=Tryz.prog) W _ _ _ hbS
 have hS0:(#[Value.slice none 0 0]:Array Value).size=1:=rfl
 have hS1:(#[Value.slice none 0 0]:Array Value).all (·.oneCell')=true:=by kernel_rfl
 obtain ⟨W1,hW1⟩ : ∃ W1,w.alloc (.cells #[.slice none 0 0] 29)=W1:=⟨_,rfl⟩
 have r1:Blk W1 w.heap.size 29 #[.slice none 0 0]:=by rw [←hW1];exact Blk.new _ _ _
 have b1:Below w.heap.size w W1:=by rw [←hW1];exact (Below.refl _ _).alloc (Nat.le_refl _) _
 have hlt0:=r1.lt
 have hat0:=h.at_
 have heach:=h.each
 obtain ⟨A,cap,rfl,hcap1,hcap2,hat⟩:=hat0
 clear h
 go_enter Tryz.func24,Tryz.ntmps24
 go_wp2_with (first
  | ((with_reducible refine lit_new 29 (.tmp 4) (.tmp 12) #[.slice none 0 0] 1 szDSt hS0 hS1 _ ?_ ?_ ?_ ?_)
     ·exact hS0
     ·rfl
     ·rfl
     intro W2 m2 b12))
 have hlt1:=m2.lt
 have hD2:DocSt W2 (.slice none 0 0) []:=⟨World.ownsRow_nil _ _ _ _,fun e he=>by simp at he,StoOk.nil⟩
 clear hrb hS0 hS1
 go_loopw [5,6] (fun v5 v6 wr => ∃ (k:Nat) (vm:Value) (es:List DiL) (ids:List Txt),v6 = .int .i64 k∧k≤l.length∧es.length≤k∧ids.length≤k∧Hid (∀ x∈ids,x.length=32)∧Blk wr W1.heap.size 29 #[vm]∧DocSt wr vm es∧OwnIds wr W2.heap.size v5 ids∧Apart v5 vm es∧Below W1.heap.size W1 wr∧W2.heap.size≤wr.heap.size) (fun _ v6 _=>l.length-(intOf v6).toNat)
 case atStart=>exact ⟨0,_,[],[],rfl,by omega,by simp,by simp,Lib.hid (fun x hx=>by simp at hx),m2,hD2,World.ownsRow_nil _ _ _ _,fun k hk=>by simp [Value.ownBlock] at hk,b12,Nat.le_refl _⟩
 case round=>
  obtain ⟨k,vm,es,ids,rfl,hk,hel,hil,hids,hM,hD,hown,hap,hbel,hsz2⟩:=hrel
  by_cases hlt:k<l.length
  ·have hki:(k:Int)<(l.length:Int):=by omega
   obtain ⟨ga,oa,rfl,hga,hca⟩:=hat (by omega)
   obtain ⟨x,hx⟩ : ∃ x,l[k]?=some x:=⟨_,List.getElem?_eq_getElem hlt⟩
   have hxm:=List.mem_of_getElem? hx
   obtain ⟨hx1,hx2⟩:=hsm x hxm
   have hxo:=heach x hxm
   have hbr:Below w.heap.size w wr:=bthen b1 b1.size hbel
   have fS:=fun W (hW:Below wr.heap.size wr W)=>run_ldvSd (zAc (hca k x hx) hga (bthen hbr hbr.size hW))
   have fM:=fun W (hW:Below wr.heap.size wr W)=>zAC (hM.below hW hM.lt)
   have hiW:=fun W (hW:Below wr.heap.size wr W)=>SliceAt.of_own (fun e h=>idC_len (hids.out e h)) (zAd hown hW)
   have hmk:=fun W (hW:Below wr.heap.size wr W)=>make1_calls (hD.below hW) ids hids.out (by omega) _ (hiW W hW) x (hxo.below (bthen hbr hbr.size hW)) hx1 hx2
   have hlth:(k:Nat)<l.length:=hlt
   clear hx hca hat heach hsm hxm hxo hiW
   generalize (sdC x).toArray=SC at *
   go_wp2
   refine zAr 13 (by kernel_rfl) (by kernel_rfl) (by kernel_rfl) (by kernel_rfl) ?_
   simp only [exSp]
   iterate 13 apply Exists.intro
   repeat
    first
     | ((with_reducible apply lx0_ex)
        ·(go_simp;done)
        apply Exists.intro
        apply And.intro
        ·apply Eq.refl
        apply And.intro
        ·intro W hW hD
         have q0:=fM W hW
         have q1:=fS W hW
         go_simp
         rfl
        simp only [Act.put,zA,zB,zC])
     | ((with_reducible apply zAJ)
        ·(first | rfl | (go_simp;done))
        ·apply Eq.refl
        simp only [Act.put,zA,zB,zC])
     | ((with_reducible refine lx0_new (MkV wr.heap.size) rfl ?_ (MkV_stab _) ?_ ?_)
        ·(go_simp;done)
        ·intro W hW hD
         unfold doesAt Oper.wp execOp
         go_simp
         (with_reducible refine (hmk W hW).mono ?_)
         rintro e w' ⟨⟨o,A1,A2,k1,k2,rfl,h1,h2,h3,h4⟩,hb⟩
         exact ⟨hb,fun F f1 f2 f3=>⟨o,A1,A2,k1,k2,rfl,h1,h2,zDb hW.size h3 F f1 f2 f3,zDb hW.size h4 F f1 f2 f3⟩⟩
        intro v
        simp only [Act.put,zA,zB,zC])
     | ((with_reducible refine lx0_new (fun v _ _=>EncV v) rfl ?_ (zBO EncV) ?_ ?_)
        ·(go_simp;done)
        ·intro W hW hD
         obtain ⟨F,o,A1,A2,k1,k2,rfl,h1,h2,h3,h4⟩:=hD.at 0 rfl (by kernel_rfl)
         have hc:=zCU o h1 A1 A2 k1 k2 W ⟨h2,SliceAt.of_own (fun e h=>zBw (h2.ents e h)) h3.1,SliceAt.of_own (fun e h=>idC_len (h2.pars e h)) h4.1⟩
         unfold doesAt Oper.wp execOp
         go_simp
         (with_reducible refine hc.mono ?_)
         rintro e w' ⟨rfl,hb⟩
         exact ⟨hb,fun _ _ _ _=>encD_V o⟩
        intro v
        simp only [Act.put,zA,zB,zC])
     | (first | (with_reducible apply zBc) | (with_reducible apply zAK)
        ·apply Eq.refl
        apply Exists.intro
        apply And.intro
        ·(go_simp;rfl)
        simp only [Act.put,zA,zB,zC])
     | ((with_reducible apply zDL)
        ·apply Eq.refl
        apply Exists.intro
        apply And.intro
        ·(go_simp;rfl)
        refine ⟨fun W hW hD=>?_,?_⟩
        ·obtain ⟨F,t,b,rfl,ht⟩:=hD.at 0 rfl (by kernel_rfl)
         exact ⟨_,rfl,by simp⟩
        simp only [Act.put,zA,zB,zC])
   refine lx0_nil ?_ fun w6 hW6 hD6=>?_
   ·exact List.nodup_nil
   obtain ⟨_,t,b,rfl,htl⟩:=hD6 _ (.head _)
   simp only [extr2_0,extr2_1]
   have b6:=hbel.trans (hW6.mono hbel.size)
   have M6:=hM.below hW6 hM.lt
   have D6:=hD.below hW6
   have own6:=zAd hown hW6
   have sz6:W2.heap.size≤w6.heap.size:=Nat.le_trans hsz2 hW6.size
   clear hD6 hmk fS
   cases b
   ·go_wp2
    go_roundw
    case rel=>exact ⟨k+1,vm,es,ids,by go_num,by omega,by omega,by omega,hids,M6,D6,own6,hap,b6,sz6⟩
    case measure=>simp [intOf];omega
   ·have lM:=zAC M6
    have hwi:=Lib.hid (zDY D6 (by omega) t (by omega))
    have hpl:=putS_len (es.map (·.st)) t
    rw [List.length_map] at hpl
    have hpi:(putI t).length=32:=by
     unfold putI
     split
     ·rfl
     ·exact zBd _
    obtain ⟨pn,hpn⟩ : ∃ pn,putI t=pn:=⟨_,rfl⟩
    obtain ⟨bf,hbf⟩ : ∃ bf,(decO t).isSome=bf:=⟨_,rfl⟩
    obtain ⟨PL,hPL⟩ : ∃ PL,putS (es.map (·.st)) t=PL:=⟨_,rfl⟩
    unfold WithR at hwi
    rw [hpn] at hpi hwi
    rw [hbf,hPL] at hwi
    rw [hPL] at hpl
    have hp32:(u8s pn).size=32:=by rw [zAh,hpi]
    have hpo:=u8s_one pn
    have hszI:(Tryz.prog.info? 53).map (·.size)=some (u8s pn).size:=by rw [hp32];exact sz32
    clear hpn hbf hPL
    go_upto_region 9 with (first
     | ((with_reducible refine hwi.out.mono ?_);rintro e w7 ⟨⟨vm7,es7,rfl,D7,hmap,hold, -⟩,b67⟩)
     | (refine wpList_store_row rfl 29 (.tmp 9) (.tmp 35) rfl w7.heap.size #[vm7] rfl rfl _ #[.slice none 0 0] ((Blk.new _ _ _).alloc _) szDSt rfl (by simp [D7.one]) ?_)
     | (refine wpList_store_row rfl 53 (.tmp 10) (.tmp 36) rfl (w7.heap.size+1) (u8s pn) rfl rfl _ (u8s noId) (grow_id _ _ _ _ _ _) hszI (by rw [hp32,hZ32]) hpo ?_))
    obtain ⟨W8,hW8⟩ : ∃ W8,(((w7.alloc (.cells #[.slice none 0 0] 29)).alloc (.cells (u8s noId) 53)).setRow w7.heap.size #[vm7]).setRow (w7.heap.size+1) (u8s pn)=W8:=⟨_,rfl⟩
    have b78:Below w7.heap.size w7 W8:=by
     rw [←hW8]
     exact zAa (zAa (((Below.refl _ _).alloc (Nat.le_refl _) _).alloc (by rw [zA6];omega) _) (Nat.le_refl _) _) (by omega) _
    have g9:Blk W8 w7.heap.size 29 #[vm7]:=by
     rw [←hW8]
     unfold Blk
     rw [setRow_other _ _ _ _ (by omega)]
     exact setRow_heap _ _ _ _ _ _ ((Blk.new _ _ _).alloc _)
    have g10:Blk W8 (w7.heap.size+1) 53 (u8s pn):=by
     rw [←hW8]
     exact setRow_heap _ _ _ _ _ _ (grow_id _ _ _ _ _ _)
    rw [hW8]
    have b68:Below w6.heap.size w6 W8:=bthen b67 b67.size b78
    have b8:=b6.trans (b68.mono b6.size)
    have M8:=M6.below b68 M6.lt
    have D8:=D7.below b78
    have O8:=D6.below b68
    have own8:=zAd own6 b68
    have sz8:W2.heap.size≤W8.heap.size:=Nat.le_trans sz6 b68.size
    have hel7:es7.length≤es.length+1:=by rw [←hmap,List.length_map] at hpl;exact hpl
    have hap8:=hap.with_ own6 own8 D8 hold
    clear hwi hW8 hmap hold
    cases bf
    ·go_wp2
     go_roundw
     case rel=>exact ⟨k+1,vm,es,ids,by go_num,by omega,by omega,by omega,hids,M8,O8,own8,hap,b8,sz8⟩
     case measure=>simp [intOf];omega
    ·have l9:=zAC g9
     have hno:=D8.blk_ne M8 (by decide) (by decide) (by decide)
     have D9:=D8.row hno #[vm7]
     have own9:=own_row own8 hlt1 #[vm7]
     have hne10:w7.heap.size+1≠W1.heap.size:=by have:=M6.lt;have:=b67.size;omega
     have g109:Blk (W8.setRow W1.heap.size #[vm7]) (w7.heap.size+1) 53 (u8s pn):=zDB g10 hne10 _
     have l10:=zAb (zAk g109) hpi
     have M9:Blk (W8.setRow W1.heap.size #[vm7]) W1.heap.size 29 #[vm7]:=setRow_heap _ _ _ _ _ _ M8
     have b9:=zAa b8 (Nat.le_refl _) #[vm7]
     have sz9:W2.heap.size≤(W8.setRow W1.heap.size #[vm7]).heap.size:=by simpa using sz8
     have hid32:(u8s pn).size=32:=hp32
     have hidl:(u8s pn).size=1*32:=hp32
     have hid1 : ∀ u∈(u8s pn).toList,u.oneCell'=true:=idC_one pn
     have hids2:Hid (∀ z∈ids++[pn],z.length=32):=Lib.hid fun z hz=>by
      rcases List.mem_append.1 hz with hz | hz
      ·exact hids.out z hz
      ·rw [List.mem_singleton.1 hz];exact hpi
     have hrow:Hid (rowsOf idC (ids++[pn])=rowsOf idC ids++(u8s pn).toList):=Lib.hid (by rw [zAo,zAp];rfl)
     have hkl:ids.length+1≤9223372036854775807:=by omega
     have hm2:(ids.length+1)*32≤140737488355328:=by omega
     have hone7:(#[vm7]:Array Value).all (·.oneCell')=true:=by simp [D7.one]
     have hdM:=zAu own9 M9 (by decide)
     have hszS1:(Tryz.prog.info? 29).map (·.size)=some (#[vm7]:Array Value).size:=szDSt
     clear hpi g10 g109 g9 hp32
     generalize u8s pn=XC at *
     go_wp2_with (first
      | (refine wpList_store_row rfl 29 (.tmp 4) (.tmp 39) rfl W1.heap.size #[vm7] rfl rfl _ _ M8 hszS1 rfl hone7 ?_)
      | ((with_reducible refine zAq (.tmp 41) Tryz.idsTy XC hid32 (by omega) ?_ ?_);rfl)
      | (at_builtin
         (with_reducible refine zAn (.tmp 40) (.tmp 42) 1 _ Tryz.idsTy own9 XC hidl hid1 hkl hm2 sz9 ?_ ?_ ?_);rfl;rfl
         intro v10 w10 hv10 hb10 hg10 hn10
         have b10:=b9.trans (hb10.mono (Nat.le_of_lt hlt1))
         have M10:=Blk.grown M9 hg10 hdM
         have D10:=D9.grown hg10 (fun k hk=>hap8 k hk)
         have hap10:=(Apart.newer hap8 D9 hn10)
         have hap10b:Apart v10 vm7 es7:=hap10
         have sz10:W2.heap.size≤w10.heap.size:=Nat.le_trans sz9 hg10.size
         clear hg10 hn10 hap10))
     go_roundw
     case rel=>exact ⟨k+1,vm7,es7,ids++[pn],by go_num,by omega,by omega,by simp;omega,hids2,M10,D10,by unfold OwnIds;rw [List.length_append,hrow.out];exact hv10,hap10b,b10,sz10⟩
     case measure=>simp [intOf];omega
  ·have hki : ¬ (k:Int)<(l.length:Int):=by omega
   have lM:=zAC hM
   have rr:=r1.below hbel hlt0
   have hno:=hD.blk_ne rr (by decide) (by decide) (by decide)
   have hbr:Below w.heap.size w wr:=bthen b1 b1.size hbel
   have hszS1:(Tryz.prog.info? 29).map (·.size)=some (#[vm]:Array Value).size:=szDSt
   have hone7:(#[vm]:Array Value).all (·.oneCell')=true:=by simp [hD.one]
   clear hat heach hsm
   go_wp2_with (first
    | (refine wpList_store_row rfl 29 (.tmp 2) (.tmp 44) rfl w.heap.size #[vm] rfl rfl _ _ rr hszS1 rfl hone7 ?_))
   refine bodyPost_ret (zAg rfl _ _ w.heap.size _ _ _ _ rfl (setRow_heap _ _ _ _ _ _ rr) Tryz.underlying29 rfl hszS1) rfl ⟨⟨vm,es,_,ids,rfl,hD.row hno _,by omega,own_down (own_row hown (Nat.lt_trans hlt0 hlt1) _) (Nat.le_of_lt (Nat.lt_trans hlt0 hlt1)),by omega,hids.out,by exact hap⟩,zAa hbr (Nat.le_refl _) _⟩
end
theorem StIs.putI {x:StL} (h:StIs x):putI x.text=x.id:=by
 obtain ⟨h1,o,ho⟩:=h
 unfold Go.Proofs.YtbcbmjdmlcldjaaGreatDoor.putI
 rw [ho];exact h1.symm
theorem StIs.putC {x:StL} (h:StIs x):putC x.text=0:=by
 obtain ⟨h1,o,ho⟩:=h
 unfold Go.Proofs.YtbcbmjdmlcldjaaGreatDoor.putC
 rw [ho]
theorem StIs.putS {x:StL} (h:StIs x) (s:List StL):putS s x.text=if hasK StL.id s x.id then s else insK StL.id s x:=by
 obtain ⟨h1,o,ho⟩:=h
 unfold Go.Proofs.YtbcbmjdmlcldjaaGreatDoor.putS
 rw [ho]
 simp only [←h1]
theorem sorted_split {s:List StL} {x:StL} {k:Nat} (h:SortedK StL.id s) (hx:s[k]?=some x):(∀ y∈s.take k,Op.bytesLess y.id x.id=true) ∧ ∀ y∈s.drop (k+1),Op.bytesLess x.id y.id=true:=by
 have hlt:=(List.getElem?_eq_some_iff.1 hx).1
 have e:s=s.take k++x::s.drop (k+1):=by
  rw [←(List.getElem?_eq_some_iff.1 hx).2,←List.drop_eq_getElem_cons hlt,List.take_append_drop]
 unfold SortedK at h
 rw [e,List.pairwise_append] at h
 exact ⟨fun y hy=>h.2.2 y hy x (by simp),fun y hy=>(List.pairwise_cons.1 h.2.1).1 y hy⟩
theorem zDn {α:Type} {p:α→Bool} : ∀ {l:List α},(∀ y∈l,p y=true)→l.takeWhile p=l
 | [],_=>rfl
 | y::l,h=>by rw [List.takeWhile_cons,if_pos (h y (by simp)),zDn fun z hz=>h z (by simp [hz])]
theorem putS_rise {s:List StL} (h:StoOk s) {k:Nat} {x:StL} (hx:s[k]?=some x):putS (s.take k) x.text=s.take (k+1):=by
 have hl:=(sorted_split h.sorted hx).1
 rw [(h.each x (List.mem_of_getElem? hx)).putS,if_neg,insK,show posK StL.id (s.take k) (StL.id x)=(s.take k).length by unfold posK;rw [zDn hl],List.take_length,List.drop_length,List.append_nil,List.take_add_one,hx]
 ·rfl
 ·unfold hasK
  rw [Bool.not_eq_true,List.any_eq_false]
  intro y hy
  rw [less_ne (hl y hy)]
  simp
theorem StoOk.take {s:List StL} (h:StoOk s) (k:Nat):StoOk (s.take k):=⟨fun x hx=>h.each x (List.mem_of_mem_take hx),h.sorted.sublist (List.take_sublist _ _),by rw [List.length_take];have:=h.few;omega⟩
section
attribute [local go_sem ↓] ldvI_eq ldvS_eq
def txC (t:Txt):List Value:=[.string (B t)]
def putL11 (s:List StL) (l:List Txt):List StL:=l.foldl putS s
theorem putL11_more {s:List StL} {l:List Txt} {k:Nat} {t:Txt} (h:l[k]?=some t):putL11 s (l.take (k+1))=putS (putL11 s (l.take k)) t:=by
 unfold putL11
 rw [List.take_add_one,h,List.foldl_append]
 rfl
def UseOr (B:Nat) (vm:Value) (es:List DiL) (vm':Value) (es':List DiL):Prop := ∀ k,DocUse vm' es' k→DocUse vm es k∨B≤k
theorem UseOr.with_ {B:Nat} {vm vm':Value} {es es':List DiL} (h : ∀ e∈es',OldOr B es e) (hv:vm'=vm ∨ ∀ k,vm'.ownBlock=some k→B≤k):UseOr B vm es vm' es':=by
 intro k hk
 rcases hk with hk | ⟨e,he,hk⟩
 ·rcases hv with rfl | hv
  ·exact .inl (.inl hk)
  ·exact .inr (hv k hk)
 ·rcases h e he with h1 | ⟨h1,h2⟩
  ·exact .inl (.inr ⟨e,h1,hk⟩)
  ·rcases hk with hk | hk
   ·exact .inr (h1 k hk)
   ·exact .inr (h2 k hk)
theorem UseOr.trans {B B':Nat} {vm vm' vm2:Value} {es es' es2:List DiL} (h:UseOr B vm es vm' es') (h':UseOr B' vm' es' vm2 es2) (hB:B≤B'):UseOr B vm es vm2 es2:=fun k hk=>by
 rcases h' k hk with h1 | h1
 ·exact h k h1
 ·exact .inr (Nat.le_trans hB h1)
def AllR (B:Nat) (vm:Value) (es:List DiL) (L:List StL) (e:Ending) (w':World):Prop := ∃ vm' es',e = .returned (.agg #[vm'])∧DocSt w' vm' es'∧es'.map (·.st)=L∧UseOr B vm es vm' es'
set_option maxRecDepth 100000 in
set_option maxHeartbeats 8000000 in
theorem docAll_calls {w:World} {vm:Value} {es:List DiL} (h:DocSt w vm es) (l:List Txt) (hlt : ∀ t∈l,t.length≤5000) (hn:es.length+l.length<490000) (v:Value) (hv:SliceAt w 1 txC v l) :
 Calls Tryz.prog 49 #[.agg #[vm],v] w fun e w'=>AllR w.heap.size vm es (putL11 (es.map (·.st)) l) e w'∧Below w.heap.size w w':=by
 obtain ⟨W1,hW1⟩ : ∃ W1,w.alloc (.cells #[vm] 29)=W1:=⟨_,rfl⟩
 have s1:Blk W1 w.heap.size 29 #[vm]:=by rw [←hW1];exact Blk.new _ _ _
 have b1:Below w.heap.size w W1:=by rw [←hW1];exact (Below.refl _ _).alloc (Nat.le_refl _) _
 obtain ⟨W2,hW2⟩ : ∃ W2,W1.alloc (.cells #[.slice none 0 0] 29)=W2:=⟨_,rfl⟩
 have r2:Blk W2 W1.heap.size 29 #[.slice none 0 0]:=by rw [←hW2];exact Blk.new _ _ _
 have bb2:Below W1.heap.size W1 W2:=by rw [←hW2];exact (Below.refl _ _).alloc (Nat.le_refl _) _
 have b2:=bthen b1 b1.size bb2
 have s2:=s1.below bb2 s1.lt
 have hle1:w.heap.size≤W1.heap.size:=b1.size
 have hlt1:w.heap.size<W1.heap.size:=s1.lt
 have hD2:=h.below b2
 obtain ⟨L,hL⟩ : ∃ L,putL11 (es.map (·.st)) l=L:=⟨_,rfl⟩
 rw [hL]
 obtain ⟨S0,hS0⟩ : ∃ S0,es.map (·.st)=S0:=⟨_,rfl⟩
 rw [hS0] at hL
 have hel:es.length=S0.length:=by rw [←hS0,List.length_map]
 rw [hel] at hn
 obtain ⟨B1,hB1⟩ : ∃ B1,W1.heap.size=B1:=⟨_,rfl⟩
 rw [hB1] at r2 hle1 hlt1
 have hszS : ∀ vm:Value,(Tryz.prog.info? 29).map (·.size)=some (#[vm]:Array Value).size:=fun vm=>szDSt
 obtain ⟨A,cap,rfl,hcap1,hcap2,hat⟩:=hv
 have hu0:Hid (UseOr w.heap.size vm es vm es):=Lib.hid fun k hk => .inl hk
 obtain ⟨vm0,hvm0⟩ : ∃ v,v=vm:=⟨_,rfl⟩
 obtain ⟨es0,hes0⟩ : ∃ l,l=es:=⟨_,rfl⟩
 rw [show AllR w.heap.size vm es L=AllR w.heap.size vm0 es0 L by rw [hvm0,hes0]]
 rw [show UseOr w.heap.size vm es vm es=UseOr w.heap.size vm0 es0 vm es by rw [hvm0,hes0]] at hu0
 clear hvm0 hes0
 replace hL:=Lib.hid hL
 have hS0':Hid (es.map (·.st)=putL11 S0 (l.take 0)):=Lib.hid (by rw [hS0];rfl)
 clear hel s1 b1 h bb2
 go_enter Tryz.func49,Tryz.ntmps49
 go_wp2_with (fail)
 try rw [hB1]
 go_loopg [5] l.length (fun f vi wr => ∃ (k:Nat) (vm:Value) (es:List DiL),vi = .int .i64 k∧k+f=l.length∧Blk wr w.heap.size 29 #[vm]∧Blk wr B1 29 #[.slice none 0 0]∧DocSt wr vm es∧Hid (es.map (·.st)=putL11 S0 (l.take k))∧es.length≤S0.length+k∧Hid (UseOr w.heap.size vm0 es0 vm es)∧Below w.heap.size w wr)
 case atStart=>exact ⟨0,vm,es,rfl,by omega,s2,r2,hD2,hS0',by rw [←hS0,List.length_map];omega,hu0,b2⟩
 case round=>
  clear s2 r2 hD2 hS0' b2 hS0 hW1 hW2 hu0
  obtain ⟨k,vm,es,rfl,hkf,hs,hr,hD,hm,hlen,hu,hbel⟩:=hrel
  have hbs:=hbel.size
  cases gk with
  | zero=>
    have hki : ¬ (k:Int)<(l.length:Int):=by omega
    have hke:l.take k=l:=List.take_of_length_le (by omega)
    have hm2:Hid (es.map (·.st)=L):=Lib.hid (by rw [hm.out,hke,hL.out])
    have lS:=zAC hs
    have hnoR:=hD.blk_ne hr (by decide) (by decide) (by decide)
    have hone:(#[vm]:Array Value).all (·.oneCell')=true:=by simp [hD.one]
    clear hat hm hke
    go_wp2_with (first
     | (refine wpList_store_row rfl 29 (.tmp 4) (.tmp 22) rfl B1 #[vm] rfl rfl _ _ hr (hszS _) rfl hone ?_))
    refine bodyPost_ret (results_cell_row rfl _ _ B1 _ _ _ _ rfl (setRow_heap _ _ _ _ _ _ hr) Tryz.underlying29 rfl (hszS _)) rfl ⟨⟨vm,es,rfl,hD.row hnoR _,hm2.out,hu.out⟩,zAa hbel hle1 _⟩
  | succ f=>
    have hki:(k:Int)<(l.length:Int):=by omega
    have hkl:k<l.length:=by omega
    obtain ⟨ga,oa,rfl,hga,hca⟩:=hat (by omega)
    obtain ⟨t,ht⟩ : ∃ t,l[k]?=some t:=⟨_,List.getElem?_eq_getElem hkl⟩
    have ht5:=hlt t (List.mem_of_getElem? ht)
    have hct:wr.drew.cell? ⟨ga,oa+k,none⟩=some (.string (B t)):=by
     have:=zAc (hca k t ht) hga (hbel.drew) 0 _ rfl
     rwa [Nat.add_zero,Nat.mul_one] at this
    have hbd:Below wr.heap.size wr wr.drew:=(Below.refl _ _).drew
    have hsd:=hs.below hbd hs.lt
    have hrd:=hr.below hbd hr.lt
    have lS:=zAC hsd
    have hwi:=Lib.hid (zDY (hD.below hbd) (by omega) t ht5)
    have hmore:Hid (putL11 S0 (l.take (k+1))=putS (es.map (·.st)) t):=Lib.hid (by rw [putL11_more ht,hm.out])
    obtain ⟨pi,hpi⟩ : ∃ pi,putI t=pi:=⟨_,rfl⟩
    obtain ⟨bf,hbf⟩ : ∃ bf,(decO t).isSome=bf:=⟨_,rfl⟩
    have hpl:=putS_len (es.map (·.st)) t
    rw [List.length_map] at hpl
    obtain ⟨PL,hPL⟩ : ∃ PL,putS (es.map (·.st)) t=PL:=⟨_,rfl⟩
    unfold WithR at hwi
    rw [hpi,hbf,hPL] at hwi
    rw [hPL] at hmore hpl
    clear hat hca ht hpi hbf hPL hm hs hr hD
    go_upto_region 4 with (fail)
    go_region_with (first
     | (go_at_call 47;go_must (refine hwi.out.mono ?_);rintro e w7 ⟨⟨vm7,es7,rfl,D7,hmap,hold,hvold⟩,b67⟩
        have hu7:=Lib.hid (hu.out.trans (UseOr.with_ hold hvold) hbs)
        clear hold hvold
        obtain ⟨A7,c7,rfl⟩:=zAl D7.own
        have hs7:=hsd.below b67 hsd.lt
        have q7:=hs7.cell 0
        have f7:=hs7.frozen 0))
    all_goals
     have b07:=bthen hbel hbs (bthen hbd hbd.size b67)
     have hr7:=hrd.below b67 hrd.lt
     have hnoS:=D7.blk_ne hs7 (by decide) (by decide) (by decide)
     have hs8:=hs7.set_ 0 (.slice A7 es7.length c7)
     have hr8:Blk (w7.setCell ⟨w.heap.size,0,none⟩ (.slice A7 es7.length c7)) B1 29 #[.slice none 0 0]:=(Below.heap_setCell _ _ _ _ (fun e=>by have:B1=w.heap.size:=e;omega)).trans hr7
     have D8:DocSt (w7.setCell ⟨w.heap.size,0,none⟩ (.slice A7 es7.length c7)) (.slice A7 es7.length c7) es7:=D7.same fun k hk=>Below.heap_setCell _ _ _ _ fun e=>hnoS (by have e2:k=w.heap.size:=e;rw [←e2];exact hk)
     have b08:Below w.heap.size w (w7.setCell ⟨w.heap.size,0,none⟩ (.slice A7 es7.length c7)):=zBb [.slice A7 es7.length c7] 0 w w7 b07 (Nat.le_refl _)
     have hm8:=Lib.hid (hmap.trans hmore.out.symm)
     have hl8:es7.length≤S0.length+(k+1):=by rw [←hmap,List.length_map] at hpl;omega
     clear hmap hmore hpl hu
     go_wp2_with (fail)
     go_roundg f
     case rel=>exact ⟨k+1,_,es7,by go_num,by omega,hs8,hr8,D8,hm8,hl8,hu7,b08⟩
     case measure=>omega
end
def itemsS (S:List StL) (ids:List Txt):List StL:=ids.filterMap (getS S)
section
attribute [local go_sem ↓] ldvI_eq ldvS_eq
theorem Tryz.strTy11 : SliceTy Tryz.prog 99 9 (.string ⟨#[]⟩) 1 16:=⟨Tryz.underlying99,info_parts (by kernel_rfl),rfl,by omega⟩
abbrev OwnTxs (w:World) (base:Nat) (v:Value) (l:List Txt):Prop:=w.ownsRow base 9 1 v l.length (rowsOf txC l)
def AtV (es:List DiL) (n:Txt) (v:Value):Prop:=(∃ (k:Nat) (x:DiL),v = .int .i64 k∧es[k]?=some x∧getS (es.map (·.st)) n=some x.st)∨(v = .int .i64 (-1)∧getS (es.map (·.st)) n=none)
theorem AtR.val {es:List DiL} {n:Txt} {e:Ending} (h:AtR es n e) : ∃ v,e = .returned v∧AtV es n v:=by
 rcases h with ⟨k,x,rfl,h1,h2⟩ | ⟨rfl,h1⟩
 ·exact ⟨_,rfl, .inl ⟨k,x,rfl,h1,h2⟩⟩
 ·exact ⟨_,rfl, .inr ⟨rfl,h1⟩⟩
theorem items_more {S:List StL} {l:List Txt} {k:Nat} {n:Txt} (h:l[k]?=some n):itemsS S (l.take (k+1))=itemsS S (l.take k)++(getS S n).toList:=by
 unfold itemsS
 rw [List.take_add_one,h,List.filterMap_append]
 cases hg:getS S n<;>simp [hg]
theorem items_len (S:List StL) (l:List Txt):(itemsS S l).length≤l.length:=List.length_filterMap_le _ _
set_option maxRecDepth 100000 in
set_option maxHeartbeats 4000000 in
theorem docTexts_calls {w:World} {vm:Value} {es:List DiL} (h:DocSt w vm es) (l:List Txt) (hlok : ∀ x∈l,x.length=32) (hl:l.length≤1000000) (vl:Value) (hvl:Ids w vl l) :
 Calls Tryz.prog 50 #[.agg #[vm],vl] w fun e w' => ∃ v,e = .returned v∧OwnTxs w' w.heap.size v ((itemsS (es.map (·.st)) l).map StL.text)∧Below w.heap.size w w':=by
 have hfew:=h.few
 have heach:=h.each
 have hat0 : ∀ W,Below w.heap.size w W → ∀ n:Txt,n.length=32→Calls Tryz.prog 44 #[.agg #[vm], .agg (u8s n)] W fun e w'=>(∃ v,e = .returned v∧AtV es n v)∧Below W.heap.size W w':=fun W hW n hn=>(zBF (h.below hW) n hn).mono fun e w' ⟨q1,q2⟩=>⟨q1.val,q2⟩
 obtain ⟨A,cap,rfl,hcap1,hcap2,hat⟩:=h.at_
 obtain ⟨Al,cl,rfl,hl1,hl2,hatl⟩:=hvl
 obtain ⟨W1,hW1⟩ : ∃ W1,w.alloc (.cells #[.slice A es.length cap] 29)=W1:=⟨_,rfl⟩
 have s1:Blk W1 w.heap.size 29 #[.slice A es.length cap]:=by rw [←hW1];exact Blk.new _ _ _
 have b1:Below w.heap.size w W1:=by rw [←hW1];exact (Below.refl _ _).alloc (Nat.le_refl _) _
 have hlt1:=s1.lt
 have hle1:=Nat.le_of_lt hlt1
 obtain ⟨S,hS⟩ : ∃ S,es.map (·.st)=S:=⟨_,rfl⟩
 replace hS:=Lib.hid hS
 rw [hS.out]
 clear h
 go_enter Tryz.func50,Tryz.ntmps50
 go_wp2
 go_loopg [5,6] l.length (fun f vo vi wr => ∃ (k:Nat) (acc:List Txt),vi = .int .i64 k∧k+f=l.length∧OwnTxs wr W1.heap.size vo acc∧Hid (acc=(itemsS S (l.take k)).map StL.text)∧acc.length≤k∧Below W1.heap.size W1 wr)
 case atStart=>exact ⟨0,[],rfl,by omega,World.ownsRow_nil _ _ _ _,Lib.hid rfl,by simp,Below.refl _ _⟩
 case round=>
  clear hW1
  obtain ⟨k,acc,rfl,hkf,hown,hacc,hal,hbel⟩:=hrel
  have hbs:=hbel.size
  have hbr:=bthen b1 b1.size hbel
  obtain ⟨Ao,co,rfl⟩:=zAl hown
  cases gk with
  | zero=>
    have hki : ¬ (k:Int)<(l.length:Int):=by omega
    have hke:l.take k=l:=List.take_of_length_le (by omega)
    rw [hke] at hacc
    clear hat heach hatl hke
    go_wp2
    go_ret
    refine ⟨_,rfl,?_,hbr⟩
    rw [←hacc.out]
    exact zAx hown hle1
  | succ f=>
    have hki:(k:Int)<(l.length:Int):=by omega
    have hkl:k<l.length:=by omega
    obtain ⟨gl,ol,rfl,hgl,hcl⟩:=hatl (by omega)
    obtain ⟨n,hn⟩ : ∃ n,l[k]?=some n:=⟨_,List.getElem?_eq_getElem hkl⟩
    have hn32:=hlok n (List.mem_of_getElem? hn)
    have hln:=fun W (hW:Below wr.heap.size wr W)=>zAb (show World.rangeAt W gl (ol+k*32) (u8s n).toList from zAc (hcl k n hn) hgl (bthen hbr hbr.size hW)) hn32
    have hsr:=s1.below hbel hlt1
    have lS:=fun W (hW:Below wr.heap.size wr W)=>zAC (hsr.below hW hsr.lt)
    have hqa:=fun W (hW:Below wr.heap.size wr W)=>hat0 W (bthen hbr hbr.size hW) n hn32
    have hmore:Hid (itemsS S (l.take (k+1))=itemsS S (l.take k)++(getS S n).toList):=Lib.hid (items_more hn)
    have hgb1:gl<wr.heap.size:=by have:=hbr.size;omega
    clear hatl hcl hn hat0
    go_upto_region 6 with (fail)
    refine zAr 7 (by kernel_rfl) (by kernel_rfl) (by kernel_rfl) (by kernel_rfl) ?_
    simp only [exSp]
    iterate 7 apply Exists.intro
    repeat
     first
      | ((with_reducible apply lx0_ex)
         ·(go_simp;done)
         apply Exists.intro
         apply And.intro
         ·apply Eq.refl
         apply And.intro
         ·intro W hW hD
          have q0:=lS W hW
          have q1:=hln W hW
          go_simp
          rfl
         simp only [Act.put,zA,zB,zC])
      | ((with_reducible apply zAJ)
         ·(first | rfl | (go_simp;done))
         ·apply Eq.refl
         simp only [Act.put,zA,zB,zC])
      | ((with_reducible refine lx0_new (fun v _ _=>AtV es n v) rfl ?_ (zBO (AtV es n)) ?_ ?_)
         ·(go_simp;done)
         ·intro W hW hD
          unfold doesAt Oper.wp execOp
          go_simp
          (with_reducible refine (hqa W hW).mono ?_)
          rintro e w' ⟨⟨v,rfl,hv⟩,hb⟩
          exact ⟨hb,fun _ _ _ _=>hv⟩
         intro v
         simp only [Act.put,zA,zB,zC])
      | (first | (with_reducible apply zBc) | (with_reducible apply zAK)
         ·apply Eq.refl
         apply Exists.intro
         apply And.intro
         ·(go_simp;rfl)
         simp only [Act.put,zA,zB,zC])
    refine lx0_nil ?_ fun w5 hW5 hD5=>?_
    ·exact (by simp [stsOf])
    have b5:=hbel.trans (hW5.mono hbs)
    have b05:=bthen hbr hbr.size hW5
    have o5:=zAd hown hW5
    have hs5:=hsr.below hW5 hsr.lt
    have c5:w5.cell? ⟨w.heap.size,0,none⟩=some (.slice A es.length cap):=hs5.cell 0
    obtain ⟨_,hav⟩:=hD5 _ (.head _)
    unfold AtV at hav
    rw [hS.out] at hav
    clear hD5 hqa lS hln
    rcases hav with ⟨p,x,rfl,hx,hg⟩ | ⟨rfl,hg⟩
    ·have hp0:(0:Int)≤(p:Int):=by omega
     have hpl:=(List.getElem?_eq_some_iff.1 hx).1
     have hpi:(p:Int)<(es.length:Int):=by omega
     obtain ⟨ga,oa,rfl,hga,hca⟩:=hat (by omega)
     have hxo:=heach x (List.mem_of_getElem? hx)
     have htx:=dit_text (zAc (hca p x hx) hga b05) hxo.id
     have hrow:Hid (rowsOf txC (acc++[x.st.text])=rowsOf txC acc++[.string (B x.st.text)]):=Lib.hid (by rw [zAo,zAp];rfl)
     have hlen:Hid ((acc++[x.st.text]).length=acc.length+1):=Lib.hid (by rw [List.length_append];rfl)
     have hacc2:Hid (acc++[x.st.text]=(itemsS S (l.take (k+1))).map StL.text):=Lib.hid (by rw [hmore.out,hg,List.map_append,←hacc.out];rfl)
     have m1:acc.length+1≤9223372036854775807:=by omega
     have m2:(acc.length+1)*16≤140737488355328:=by omega
     have szr:=Nat.le_trans hbs hW5.size
     have hc1:(#[Value.string (B x.st.text)]:Array Value).size=1:=rfl
     have hc11:(#[Value.string (B x.st.text)]:Array Value).size=1*1:=rfl
     have hc2 : ∀ u∈(#[Value.string (B x.st.text)]:Array Value).toList,u.oneCell'=true:=by intro u hu;rw [show u = .string (B x.st.text) by simpa using hu];rfl
     clear hx hg hca hat heach hmore hxo
     go_wp2_with (first
      | (at_builtin
         (with_reducible refine zAn (.tmp 22) (.tmp 29) 1 _ Tryz.strTy11 o5 #[.string (B x.st.text)] hc11 hc2 m1 m2 szr ?_ ?_ ?_);rfl;rfl
         intro v2 w2 hv2 hb2 hg2 hn2
         have b2:=b5.trans hb2
         clear hg2 hn2))
     all_goals try (exfalso;omega)
     have o3:OwnTxs w2 W1.heap.size v2 (acc++[x.st.text]):=by
      unfold OwnTxs
      rw [hrow.out,hlen.out]
      exact hv2
     clear hv2
     go_roundg f
     case rel=>exact ⟨k+1,_,by go_num,by omega,o3,hacc2,by rw [hlen.out];omega,b2⟩
     case measure=>omega
    ·have hn0 : ¬ (0:Int) ≤ -1:=by omega
     have hacc2:Hid (acc=(itemsS S (l.take (k+1))).map StL.text):=Lib.hid (by rw [hmore.out,hg,Option.toList,List.append_nil];exact hacc.out)
     clear hg hat heach hmore hacc
     go_wp2_with (fail)
     go_roundg f
     case rel=>exact ⟨k+1,acc,by go_num,by omega,o5,hacc2,by omega,b5⟩
     case measure=>omega
end
section
section
variable {P:Program} {ops:Array Oper} {w0:World} {rows:List (Option Nat)} {pres:Pres} {sps:List Sp} {E:Act→Facts→Prop} {i:Nat} {rest:List Oper} {s:Sp} {ss:List Sp} {a:Act} {D:Facts}
def rowPR (g:Nat) (T:TypeId) (ρ:List Value) (_:Value) (F:Foot) (w:World):Prop := ∃ cs,ρ.getD 1 undef = .agg cs∧F g∧Blk w g T cs
theorem rowPR_stab (g:Nat) (T:TypeId) (ρ:List Value) (v:Value):Stab (rowPR g T ρ v):=fun _ _ _ _ hf ha ⟨cs,h0,h1,h2⟩=>⟨cs,h0,hf g h1,(ha.same g h2.lt h1).trans h2⟩
theorem lx_putRow {rt:TypeId} {pos:String} {af:Array Edge} {x y:Operand} (g:Nat) (T:TypeId) (old:Array Value) (hsz:(P.info? T).map (·.size)=some old.size) (hp:(i,some g,fun w=>Blk w g T old)∈pres) (hs:s = .wr (rowPR g T))
 (h : ∃ v1 v2,a.eval x=v1∧a.eval y=v2∧v1 = .pointer (some ⟨g,0,none⟩)∧(∀ w,Far rows w0 w→Have ops pres i D w → ∃ cs:Array Value,v2 = .agg cs∧cs.size=old.size∧cs.all (·.oneCell')=true)∧LxL P ops w0 rows pres sps E (i+1) rest ss a ((i,fun F w => ∃ cs,v2 = .agg cs∧F g∧Blk w g T cs)::D)) :
 LxL P ops w0 rows pres sps E i ({ dst:=none,op := .store T x y,type:=rt,pos:=pos,after:=af,guard:=none }::rest) (s::ss) a D:=by
 obtain ⟨_,_,rfl,rfl,hx,hc,h⟩:=h
 refine lx_wr (some g) _ (rowPR g T) hs hp (by simp [Region.wanted]) (rowPR_stab g T) (fun w hw hh hk=>?_) (fun v=>h)
 obtain ⟨cs,hy,hcs,h1⟩:=hc w hw hh
 unfold doesAt
 exact wp_store_row T x y rfl g cs hx hy T old hk (by rw [hcs];exact hsz) hcs.symm h1 ⟨undef,rfl,⟨rfl,rfl,rfl,by simp,fun k hk2 hn=>setRow_other _ _ _ _ fun e=>hn (by rw [e])⟩,fun F _ h2 _=>⟨cs,hy,h2 g rfl,setRow_heap _ _ _ _ _ _ hk⟩⟩
end
theorem preOk1 {w:World} {T:TypeId} {g i:Nat} {cs:Array Value} (h:Blk w g T cs):PreOk w [(i,some g,fun w=>Blk w g T cs)]:=
 PreOk.cons (PreOk.nil w) (fun q hq=>by simp at hq) (fun k hk=>by injection hk with hk;subst hk;exact h.lt) h fun w' _ hs=>(hs g rfl).trans h
theorem rows1 {i g k:Nat} {p:World→Prop} (h:some k∈rowsOfP [(i,some g,p)]):k=g:=by
 simp [rowsOfP] at h
 exact h
theorem putL11_len : ∀ (l:List Txt) (s:List StL),(putL11 s l).length≤s.length+l.length
 | [],s=>Nat.le_refl _
 | t::l,s=>by
   have h1:=putS_len s t
   have h2:=putL11_len l (putS s t)
   show (putL11 (putS s t) l).length≤_
   rw [List.length_cons]
   omega
theorem zeroS14 (w:World):(zeroValue 29).run Tryz.prog w = .ok (.agg #[.slice none 0 0]) w:=by
 have h:(Tryz.prog.info? 29).map (·.zero)=some (some (.agg #[.slice none 0 0])):=by kernel_rfl
 obtain ⟨i,h1,h2⟩:=Option.map_eq_some_iff.1 h
 simp [zeroValue,typeInfo,h1,h2]
theorem rch_few {S:List StL} {cut ini a:List Txt} (h:RchIs S cut ini true a):a.length≤S.length:=by
 have:=zB4 (zEo h.rise) (m:=S.map StL.id) fun x hx=>isS_mem ((h.mem x).1 hx).2
 rwa [List.length_map] at this
theorem items_ok {S:List StL} (hS:StoOk S) (l:List Txt) : ∀ t∈(itemsS S l).map StL.text,t.length≤5000:=by
 intro t ht
 obtain ⟨y,hy,rfl⟩:=List.mem_map.1 ht
 obtain ⟨n,_,hn⟩:=List.mem_filterMap.1 hy
 obtain ⟨o,ho⟩:=(hS.each y (getS_id hn).1).2
 have:=(zEP ho).2
 omega
theorem txC_one (l:List Txt) : ∀ x∈l,(txC x).length=1:=fun _ _=>rfl
theorem use_nil (k:Nat) : ¬ DocUse (.slice none 0 0) [] k:=by
 rintro (h | ⟨e,he,_⟩)
 ·simp [Value.ownBlock] at h
 ·simp at he
end
section
attribute [local go_sem ↓] ldvI_eq ldvS_eq
def PartIs (S:List StL) (cut ini:List Txt) (L:List StL):Prop := ∃ a,RchIs S cut ini true a∧L=putL11 [] ((itemsS S a).map StL.text)
def PartR (N:Nat) (S:List StL) (cut ini:List Txt) (e:Ending) (w':World):Prop := ∃ vm es,e = .returned (.agg #[vm])∧DocSt w' vm es∧PartIs S cut ini (es.map (·.st)) ∧ ∀ k,DocUse vm es k→N≤k
def docG (N:Nat) (L:List StL) (v:Value) (F:Foot) (w:World):Prop := ∃ vm es,v = .agg #[vm]∧DocSt w vm es∧es.map (·.st)=L∧(∀ k,DocUse vm es k→N≤k) ∧ ∀ k,DocUse vm es k→F k
theorem docG_stab (N:Nat) (L:List StL) (v:Value):Stab (docG N L v):=fun _ _ _ _ hf ha ⟨vm,es,h1,h2,h3,h0,h4⟩=>⟨vm,es,h1,h2.same fun k hk=>ha.same k (h2.lt hk) (h4 k hk),h3,h0,fun k hk=>hf k (h4 k hk)⟩
theorem part_len {S:List StL} {cut ini:List Txt} {L:List StL} (h:PartIs S cut ini L):L.length≤S.length:=by
 obtain ⟨a,h1,rfl⟩:=h
 refine Nat.le_trans (putL11_len _ _) ?_
 rw [List.length_nil,Nat.zero_add,List.length_map]
 exact Nat.le_trans (items_len _ _) (rch_few h1)
set_option maxRecDepth 100000 in
set_option maxHeartbeats 8000000 in
theorem part_calls {w:World} {vm:Value} {es:List DiL} (h:DocSt w vm es) (hes:es.length≤100) (ini cut:List Txt) (hiok : ∀ x∈ini,x.length=32) (hcok : ∀ x∈cut,x.length=32) (hil:ini.length≤100) (vf vc:Value) (hvf:Ids w vf ini) (hvc:Ids w vc cut) :
 Calls Tryz.prog 25 #[.agg #[vm],vf,vc] w fun e w'=>PartR w.heap.size (es.map (·.st)) cut ini e w'∧Below w.heap.size w w':=by
 have hzS:=zeroS14
 obtain ⟨W1,hW1⟩ : ∃ W1,w.alloc (.cells #[vm] 29)=W1:=⟨_,rfl⟩
 have s1:Blk W1 w.heap.size 29 #[vm]:=by rw [←hW1];exact Blk.new _ _ _
 have b1:Below w.heap.size w W1:=by rw [←hW1];exact (Below.refl _ _).alloc (Nat.le_refl _) _
 obtain ⟨W2,hW2⟩ : ∃ W2,W1.alloc (.cells #[.slice none 0 0] 29)=W2:=⟨_,rfl⟩
 have r2:Blk W2 W1.heap.size 29 #[.slice none 0 0]:=by rw [←hW2];exact Blk.new _ _ _
 have bb2:Below W1.heap.size W1 W2:=by rw [←hW2];exact (Below.refl _ _).alloc (Nat.le_refl _) _
 have b2:=bthen b1 b1.size bb2
 have s2:=s1.below bb2 s1.lt
 have hle1:w.heap.size≤W1.heap.size:=b1.size
 have hlt1:W1.heap.size<W2.heap.size:=r2.lt
 have hs1lt:w.heap.size<W1.heap.size:=s1.lt
 have lS2:=zAC s2
 have hre:=Lib.hid (docReach_calls (h.below b2) ini cut hiok hcok (by omega) vf vc (hvf.below b2) (hvc.below b2))
 have hbS:Tryz.prog.built 29 []=some #[.slice none 0 0]:=by kernel_rfl
 have hrb:=fun W=>run_build (P:=Tryz.prog) W _ _ _ hbS
 have hS0:(#[Value.slice none 0 0]:Array Value).size=1:=rfl
 have hS1:(#[Value.slice none 0 0]:Array Value).all (·.oneCell')=true:=by kernel_rfl
 have hszS : ∀ vm:Value,(Tryz.prog.info? 29).map (·.size)=some (#[vm]:Array Value).size:=fun vm=>szDSt
 have hll:(es.map (·.st)).length=es.length:=List.length_map _
 have hok:=h.ok
 have htx0:=fun W (hW:Below w.heap.size w W) (a:List Txt) (haok : ∀ x∈a,x.length=32) (hal:a.length≤1000000) v (hth:Ids W v a)=>docTexts_calls (h.below hW) a haok hal v hth
 have hvone:=h.own
 obtain ⟨S,hS⟩ : ∃ S,es.map (·.st)=S:=⟨_,rfl⟩
 rw [hS] at hre hll hok ⊢
 simp only [hS] at htx0
 obtain ⟨Af,cf,rfl,_⟩:=hvf
 obtain ⟨Ac,cc,rfl,_⟩:=hvc
 obtain ⟨Am,cm,rfl⟩:=zAl hvone
 clear s1 bb2 h hvone hS
 go_enter Tryz.func25,Tryz.ntmps25
 go_upto_region 3 with (first
  | ((with_reducible refine hre.out.mono ?_);rintro e w3 ⟨va,vb,a,b,rfl,ra, -,oa, -,hb3⟩
     obtain ⟨Aa,ca,rfl⟩:=zAl oa)
  | ((with_reducible refine lit_new 29 (.tmp 9) (.tmp 17) #[.slice none 0 0] 1 szDSt hS0 hS1 _ ?_ ?_ ?_ ?_)
     ·first | exact hS0 | rfl
     ·rfl
     ·rfl
     intro w4 hb4 hbl4))
 have haok : ∀ x∈a,x.length=32:=fun x hx=>by
  obtain ⟨y,hy,he⟩:=List.mem_map.1 (isS_mem ((ra.mem x).1 hx).2)
  rw [←he]
  exact (hok.each y hy).ok.1
 have hal:a.length≤es.length:=by have:=rch_few ra;rwa [hll] at this
 have b24:=bthen hb3 hb3.size hbl4
 have b04:=bthen b2 b2.size b24
 have r4:=r2.below b24 r2.lt
 have s4:=s2.below b24 s2.lt
 have oa4:=zAd oa hbl4
 have hPre:=preOk1 (i:=5) r4
 have hle4:W1.heap.size≤w4.heap.size:=Nat.le_of_lt r4.lt
 have hn9 : ¬ w3.heap.size=W1.heap.size:=by have:=hb3.size;omega
 have hfar:=fun W (hf:Far (rowsOfP [(5,some W1.heap.size,fun w=>Blk w W1.heap.size 29 #[.slice none 0 0])]) w4 W)=>b04.trans (hf.below (Nat.le_trans hle1 hle4) fun k hk=>by have:=rows1 hk;omega)
 have hoaF:=fun W (hf:Far (rowsOfP [(5,some W1.heap.size,fun w=>Blk w W1.heap.size 29 #[.slice none 0 0])]) w4 W)=>Far.own hf oa4 fun k hk e=>by have h1:=rows1 e;have h2:=(World.ownsRow.lt oa4 k hk).1;omega
 have l9F:=fun W (hf:Far (rowsOfP [(5,some W1.heap.size,fun w=>Blk w W1.heap.size 29 #[.slice none 0 0])]) w4 W)=>zAC (hf.blk hb4 fun e=>hn9 (rows1 e))
 have l3F:=fun W (hf:Far (rowsOfP [(5,some W1.heap.size,fun w=>Blk w W1.heap.size 29 #[.slice none 0 0])]) w4 W)=>zAC (hf.blk s4 fun e=>by have h1:=rows1 e;omega)
 obtain ⟨FT,hFT⟩ : ∃ FT,(itemsS S a).map StL.text=FT:=⟨_,rfl⟩
 have hFTok : ∀ t∈FT,t.length≤5000:=by rw [←hFT];exact items_ok hok a
 have hFTl:FT.length≤100:=by rw [←hFT,List.length_map];exact Nat.le_trans (items_len _ _) (by omega)
 have hDe : ∀ W,DocSt W (.slice none 0 0) []:=fun W=>⟨World.ownsRow_nil _ _ _ _,(fun e he=>by simp at he),StoOk.nil⟩
 have htx:=fun W (hW:Below w.heap.size w W) (hth:Ids W (.slice Aa a.length ca) a)=>htx0 W hW a haok (by omega) _ hth
 simp only [hFT] at htx
 obtain ⟨LF,hLF⟩ : ∃ LF,putL11 [] FT=LF:=⟨_,rfl⟩
 have hAll : ∀ W (v:Value) (hv:SliceAt W 1 txC v FT),Calls Tryz.prog 49 #[.agg #[.slice none 0 0],v] W fun e w'=>AllR W.heap.size (.slice none 0 0) [] LF e w'∧Below W.heap.size W w':=by
  intro W v hv
  have:=docAll_calls (hDe W) FT hFTok (by rw [List.length_nil];omega) v hv
  rw [←hLF]
  exact this
 have hpart:PartIs S cut ini LF:=⟨a,ra,by rw [hFT,hLF]⟩
 have hpart:=Lib.hid hpart
 clear hre ra oa oa4 s2 s4 r2 hb4 hbl4 hW1 hW2 hFT hLF lS2 hal htx0 hok
 refine zBR 6 [(5,some W1.heap.size,fun w=>Blk w W1.heap.size 29 #[.slice none 0 0])] hPre (by kernel_rfl) (by kernel_rfl) (by kernel_rfl) (by kernel_rfl) ?_
 simp only [exSp]
 iterate 6 apply Exists.intro
 repeat
  first
   | ((with_reducible apply lx_ex)
      ·(go_simp;done)
      apply Exists.intro
      apply And.intro
      ·apply Eq.refl
      apply And.intro
      ·intro W hF hD
       have q0:=l9F W (zBB hF)
       have q1:=l3F W (zBB hF)
       go_simp
       rfl
      simp only [Act.put,zA,zB,zC])
   | ((with_reducible apply lx_pass)
      ·(first | rfl | (go_simp;done))
      ·apply Eq.refl
      simp only [Act.put,zA,zB,zC])
   | ((with_reducible refine lx_new (fun _ v F w=>ownR w4.heap.size 9 1 FT.length (rowsOf txC FT) v F w) rfl ?_ (fun _=>zBL _ _ _ _ _) ?_ ?_)
      ·(go_simp;done)
      ·intro W hF hD
       have q1:=l3F W (zBB hF)
       unfold doesAt Oper.wp execOp
       go_simp
       (with_reducible refine (htx W (hfar W (zBB hF)) (SliceAt.of_own (idsK haok) (hoaF W (zBB hF)))).mono ?_)
       rintro e w' ⟨v,rfl,ho,hb⟩
       exact ⟨hb,zDb hF.size ho⟩
      intro v
      simp only [Act.put,zA,zB,zC])
   | ((with_reducible refine lx_new (fun _ v F w=>docG w4.heap.size LF v F w) rfl ?_ (fun _=>docG_stab _ _) ?_ ?_)
      ·(go_simp;done)
      ·intro W hF hD
       obtain ⟨F1,o1,_⟩:=hD.at 0 rfl (by kernel_rfl)
       have hc:=hAll W _ (SliceAt.of_own (txC_one FT) o1)
       unfold doesAt Oper.wp execOp
       go_simp
       refine hc.mono ?_
       rintro e w' ⟨⟨vm7,es7,rfl,D7,hm7,hu7⟩,hb7⟩
       exact ⟨hb7,fun F f1 f2 f3=>⟨vm7,es7,rfl,D7,hm7,fun k hk=>(hu7 k hk).elim (fun h=>absurd h (use_nil k)) fun h=>Nat.le_trans hF.size h,fun k hk=>(hu7 k hk).elim (fun h=>absurd h (use_nil k)) fun h=>f3 k h (D7.lt hk)⟩⟩
      intro v
      simp only [Act.put,zA,zB,zC])
   | ((with_reducible apply lx_putRow W1.heap.size 29 #[.slice none 0 0] szDSt)
      ·exact List.Mem.head _
      ·apply Eq.refl
      apply Exists.intro
      apply Exists.intro
      apply And.intro
      ·(go_simp;rfl)
      apply And.intro
      ·(go_simp;rfl)
      refine ⟨rfl,fun W hF hD=>?_,?_⟩
      ·obtain ⟨F,vm7,es7,rfl,D7,_⟩:=hD.at 0 rfl (by kernel_rfl)
       exact ⟨#[vm7],rfl,rfl,by simp [D7.one]⟩)
 refine lxP_nil ?_ fun w5 hF5 hD5=>?_
 ·exact List.nodup_nil
 obtain ⟨_,vmF,esF,rfl,hDF,hmF,hnF, -⟩:=hD5 _ (.tail _ (.head _))
 obtain ⟨_,csF,hcsF, -,hbF⟩:=hD5 _ (.head _)
 obtain rfl : #[vmF]=csF:=by injection hcsF
 have b05:=hfar w5 hF5
 have hres:PartR w.heap.size S cut ini (.returned (.agg #[vmF])) w5:=⟨vmF,esF,rfl,hDF,by rw [hmF];exact hpart.out,fun k hk=>Nat.le_trans b04.size (hnF k hk)⟩
 clear hD5 hfar hoaF l9F l3F htx hAll hF5
 go_wp2_with (fail)
 refine bodyPost_ret (results_cell_row rfl _ _ W1.heap.size _ _ _ _ rfl hbF Tryz.underlying29 rfl (hszS _)) rfl ⟨hres,b05⟩
end
end Go.Proofs.YtbcbmjdmlcldjaaGreatDoor
namespace Go.Proofs.YtbcbmjdmlcldjaaGreatDoor
open Go.ChangeShapes Go.WideShapes Go.ChangeAt Go.RowKit
structure HisL where
 seeds:List SdL
 out:Txt
 frm:Txt
 cut:Txt
structure HisOk (w:World) (vs vo vf vc:Value) (h:HisL):Prop where
 seeds:Seeds w vs h.seeds
 out:SliceAt w 1 byC vo h.out
 frm:SliceAt w 1 byC vf h.frm
 cut:SliceAt w 1 byC vc h.cut
theorem HisOk.below {w w':World} {vs vo vf vc:Value} {h:HisL} (hh:HisOk w vs vo vf vc h) (hb:Below w.heap.size w w'):HisOk w' vs vo vf vc h:=⟨hh.seeds.below hb,hh.out.below hb,hh.frm.below hb,hh.cut.below hb⟩
section
variable {H:Type} {enc:TypeId×Value→H} {w:World} {base:Nat} {sp:Nat→Bool} {held:Bool}
end
end Go.Proofs.YtbcbmjdmlcldjaaGreatDoor
namespace Go.Proofs.YtbcbmjdmlcldjaaGreatDoor
open Go.RowKit
section
attribute [local go_sem ↓] ldvI_eq ldvS_eq
theorem built_one (c:UInt8):Tryz.prog.built 53 [(0, .int .u8 c.toNat)]=some (u8s (c::List.replicate 31 0)):=by kernel_rfl
def IdsR (w:World) (n:Nat) (e:Ending) (w':World):Prop := ∃ v r,e = .returned v∧OwnIds w' w.heap.size v r∧(∀ x∈r,x.length=32)∧r.length=n
set_option maxRecDepth 100000 in
set_option maxHeartbeats 4000000 in
theorem ids12_calls (all:List Txt) (haok : ∀ x∈all,x.length=32) (hal:all.length≤1000) (va:Value) (w:World) (hva:Ids w va all) (l:Txt) (hl1000:l.length≤1000) (vl:Value) (hvl:SliceAt w 1 byC vl l) :
 Calls Tryz.prog 15 #[va,vl] w fun e w'=>IdsR w l.length e w'∧Below w.heap.size w w':=by
 obtain ⟨A,cap,rfl,hcap1,hcap2,hat⟩:=hvl
 obtain ⟨Aa,ca,rfl,hca1,hca2,hata⟩:=hva
 go_enter Tryz.func15,Tryz.ntmps15
 go_wp2_with (fail)
 go_loopg [5,6] l.length (fun f vo vi wr => ∃ (k:Nat) (acc:List Txt),vi = .int .i64 k∧k+f=l.length∧OwnIds wr w.heap.size vo acc∧Hid ((∀ x∈acc,x.length=32)∧acc.length=k)∧Below w.heap.size w wr)
 case atStart=>exact ⟨0,[],rfl,by omega,World.ownsRow_nil _ _ _ _,Lib.hid ⟨fun x hx=>by simp at hx,rfl⟩,Below.refl _ _⟩
 case round=>
  obtain ⟨k,acc,rfl,hkf,hown,hacc,hbel⟩:=hrel
  have hbs:=hbel.size
  obtain ⟨Ao,co,rfl⟩:=zAl hown
  cases gk with
  | zero=>
    have hki : ¬ (k:Int)<(l.length:Int):=by omega
    have hke:Hid (k=l.length):=Lib.hid (by omega)
    clear hat hata
    go_wp2_with (fail)
    go_ret
    exact ⟨⟨_,acc,rfl,hown,hacc.out.1,hacc.out.2.trans hke.out⟩,hbel⟩
  | succ f=>
    have hki:(k:Int)<(l.length:Int):=by omega
    have hkl:k<l.length:=by omega
    obtain ⟨ga,oa,rfl,hga,hca⟩:=hat (by omega)
    obtain ⟨c,hc⟩ : ∃ c,l[k]?=some c:=⟨_,List.getElem?_eq_getElem (by omega)⟩
    have hcc:wr.cell? ⟨ga,oa+k,none⟩=some (.int .u8 c.toNat):=by
     have:=zAc (hca k c hc) hga hbel 0 _ rfl
     rwa [Nat.add_zero,Nat.mul_one] at this
    have hc256:c.toNat<256:=c.toNat_lt
    have hwc:IntKind.i64.wrap ((c.toNat:Nat):Int)=(c.toNat:Int):=IntWalk.i64_in _ (by omega)
    have hal2:acc.length≤1000:=by have:=hacc.out.2;omega
    have hAk:acc.length+1≤9223372036854775807:=by omega
    have hAb:(acc.length+1)*32≤140737488355328:=by omega
    have hrb:=built_one c
    have key : ∀ x:Txt,x.length=32→Hid ((x.length=32∧(u8s x).size=32∧(u8s x).size=1*32 ∧ ∀ u∈(u8s x).toList,u.oneCell'=true)∧(acc++[x]).length=acc.length+1∧rowsOf idC (acc++[x])=rowsOf idC acc++(u8s x).toList∧((∀ z∈acc++[x],z.length=32)∧(acc++[x]).length=k+1)):=fun x hx=>Lib.hid (by
     have h32:(u8s x).size=32:=by rw [zAh,hx]
     have hlen:(acc++[x]).length=acc.length+1:=by rw [List.length_append];rfl
     exact ⟨⟨hx,h32,h32,idC_one x⟩,hlen,by rw [zAo,zAp];rfl,fun z hz=>(List.mem_append.1 hz).elim (hacc.out.1 z) fun h=>by rw [List.mem_singleton.1 h];exact hx,by rw [hlen,hacc.out.2]⟩)
    clear hca hat hc
    have hx0:(c::List.replicate 31 (0:UInt8)).length=32:=by simp
    by_cases h0:0<all.length
    ·have h0i : ¬ (all.length:Int)=0:=by omega
     have h0b:((all.length:Int)==0)=false:=by simpa using h0i
     by_cases h200:200≤c.toNat
     ·have h2i:(200:Int)≤(c.toNat:Int):=by omega
      obtain ⟨x,hx⟩ : ∃ x,c::List.replicate 31 (0:UInt8)=x:=⟨_,rfl⟩
      rw [hx] at hrb hx0
      have hk0:=key x hx0
      obtain ⟨⟨_,hx32,hx132,hx1⟩,_⟩:=hk0.out
      clear key hx hata h0
      go_wp2_with (first
       | ((with_reducible refine zAU hrb ?_ ?_);rfl)
       | ((with_reducible refine zAq (.tmp 29) Tryz.idsTy (u8s x) hx32 (by omega) ?_ ?_);rfl)
       | ((with_reducible refine zAn (.tmp 24) (.tmp 30) 1 _ Tryz.idsTy hown (u8s x) hx132 hx1 hAk hAb hbs ?_ ?_ ?_);rfl;rfl
          intro v8 w8 ho8 hb8 hg8 hn8))
      have ho9:OwnIds w8 w.heap.size v8 (acc++[x]):=by unfold OwnIds;rw [hk0.out.2.1,hk0.out.2.2.1];exact ho8
      have hacc9:=Lib.hid hk0.out.2.2.2
      clear hown hacc hk0 ho8
      go_roundg f
      case rel=>exact ⟨k+1,acc++[x],by go_num,by omega,ho9,hacc9,hbel.trans hb8⟩
      case measure=>omega
     ·have h2i : ¬ (200:Int)≤(c.toNat:Int):=by omega
      obtain ⟨m,hm⟩ : ∃ m:Nat,(all.length:Int)-1-(c.toNat:Int)%(all.length:Int)=(m:Int):=by
       refine Int.eq_ofNat_of_zero_le ?_
       have:=Int.emod_lt_of_pos (c.toNat:Int) (show (0:Int)<(all.length:Int) by omega)
       omega
      have hmn:=Int.emod_nonneg (c.toNat:Int) h0i
      have hml:m<all.length:=by omega
      obtain ⟨g3,o3,rfl,hg3,hc3⟩:=hata h0
      obtain ⟨x,hx⟩ : ∃ x,all[m]?=some x:=⟨_,List.getElem?_eq_getElem hml⟩
      have hxi:=haok x (List.mem_of_getElem? hx)
      have hlx:(ldvI ⟨g3,o3+m*32,none⟩).run Tryz.prog wr = .ok (.agg (u8s x)) wr:=zAb (show World.rangeAt wr g3 (o3+m*32) (u8s x).toList from zAc (hc3 m x hx) hg3 hbel) hxi
      have hmi:(m:Int)<(all.length:Int):=by omega
      have hLi:(0:Int)<(all.length:Int):=by omega
      have hk0:=key x hxi
      obtain ⟨⟨_,hx32,hx132,hx1⟩,_⟩:=hk0.out
      clear key hx hc3 hata hrb hx0
      generalize all.length=LN at *
      have hw1:IntKind.i64.wrap ((LN:Int)-1)=(LN:Int)-1:=IntWalk.i64_in _ (by omega)
      have hw2:IntKind.i64.wrap ((c.toNat:Int)%(LN:Int))=(c.toNat:Int)%(LN:Int):=IntWalk.i64_in _ (by have:=Int.emod_lt_of_pos (c.toNat:Int) hLi;omega)
      have hw3:IntKind.i64.wrap ((m:Int))=(m:Int):=IntWalk.i64_in _ (by omega)
      go_wp2_with (first
       | ((with_reducible refine zAq (.tmp 47) Tryz.idsTy (u8s x) hx32 (by omega) ?_ ?_);rfl)
       | ((with_reducible refine zAn (.tmp 32) (.tmp 48) 1 _ Tryz.idsTy hown (u8s x) hx132 hx1 hAk hAb hbs ?_ ?_ ?_);rfl;rfl
          intro v8 w8 ho8 hb8 hg8 hn8))
      have ho9:OwnIds w8 w.heap.size v8 (acc++[x]):=by unfold OwnIds;rw [hk0.out.2.1,hk0.out.2.2.1];exact ho8
      have hacc9:=Lib.hid hk0.out.2.2.2
      clear hown hacc hk0 ho8 hlx hm hw1 hw2 hw3
      go_roundg f
      case rel=>exact ⟨k+1,acc++[x],by go_num,by omega,ho9,hacc9,hbel.trans hb8⟩
      case measure=>omega
    ·obtain rfl:all=[]:=List.length_eq_zero_iff.1 (by omega)
     obtain ⟨x,hx⟩ : ∃ x,c::List.replicate 31 (0:UInt8)=x:=⟨_,rfl⟩
     rw [hx] at hrb hx0
     have hk0:=key x hx0
     obtain ⟨⟨_,hx32,hx132,hx1⟩,_⟩:=hk0.out
     clear key hx hata h0
     go_wp2_with (first
      | ((with_reducible refine zAU hrb ?_ ?_);rfl)
      | ((with_reducible refine zAq (.tmp 29) Tryz.idsTy (u8s x) hx32 (by omega) ?_ ?_);rfl)
      | ((with_reducible refine zAn (.tmp 24) (.tmp 30) 1 _ Tryz.idsTy hown (u8s x) hx132 hx1 hAk hAb hbs ?_ ?_ ?_);rfl;rfl
         intro v8 w8 ho8 hb8 hg8 hn8))
     have ho9:OwnIds w8 w.heap.size v8 (acc++[x]):=by unfold OwnIds;rw [hk0.out.2.1,hk0.out.2.2.1];exact ho8
     have hacc9:=Lib.hid hk0.out.2.2.2
     clear hown hacc hk0 ho8
     go_roundg f
     case rel=>exact ⟨k+1,acc++[x],by go_num,by omega,ho9,hacc9,hbel.trans hb8⟩
     case measure=>omega
end
end Go.Proofs.YtbcbmjdmlcldjaaGreatDoor
