/- Texts of this claim, laid together: DocA, ObjId, StoI, StL, StM, ChkK, His, HisI, HisF, ChkL, ChkQ. -/
import Derived.Test.YtfdfoplmijmnaaaGreatDoorMm
import Derived.Deep.RegionWith
namespace Go.Proofs.YtfdfoplmijmnaaaGreatDoor
open Go.RowKit
attribute [local go_sem ↓] ldvI_eq ldvS_eq
def txC (t:Txt):List Value:=[.string (B t)]
/-- Texts that are put, one behind the other. -/
def putL11 (s:List StL) (l:List Txt):List StL:=l.foldl putS s
theorem putL11_more {s:List StL} {l:List Txt} {k:Nat} {t:Txt} (h:l[k]?=some t):putL11 s (l.take (k+1))=putS (putL11 s (l.take k)) t:=by
 unfold putL11
 rw [List.take_add_one,h,List.foldl_append]
 rfl
/-- What a store uses is what another one does, or lies from B on. -/
def UseOr (B:Nat) (vm:Value) (es:List DiL) (vm':Value) (es':List DiL):Prop := ∀ k,DocUse vm' es' k→DocUse vm es k∨B≤k
theorem UseOr.with_ {B:Nat} {vm vm':Value} {es es':List DiL} (h : ∀ e∈es',OldOr B es e) (hv:vm'=vm ∨ ∀ k,vm'.ownBlock=some k→B≤k):UseOr B vm es vm' es':=by
 intro k hk
 rcases hk with hk | ⟨e,he,hk⟩
 ·rcases hv with rfl | hv
  ·exact .inl (.inl hk)
  ·exact .inr (hv k hk)
 ·rcases h e he with h1 | ⟨h1,h2⟩
  ·exact .inl (.inr ⟨e,h1,hk⟩)
  ·rcases hk with hk | hk
   ·exact .inr (h1 k hk)
   ·exact .inr (h2 k hk)
theorem UseOr.trans {B B':Nat} {vm vm' vm2:Value} {es es' es2:List DiL} (h:UseOr B vm es vm' es') (h':UseOr B' vm' es' vm2 es2) (hB:B≤B'):UseOr B vm es vm2 es2:=fun k hk=>by
 rcases h' k hk with h1 | h1
 ·exact h k h1
 ·exact .inr (Nat.le_trans hB h1)
/-- What All tells. -/
def AllR (B:Nat) (vm:Value) (es:List DiL) (L:List StL) (e:Ending) (w':World):Prop := ∃ vm' es',e = .returned (.agg #[vm'])∧DocSt w' vm' es'∧es'.map (·.st)=L∧UseOr B vm es vm' es'
set_option maxRecDepth 100000 in
set_option maxHeartbeats 8000000 in
theorem docAll_calls {w:World} {vm:Value} {es:List DiL} (h:DocSt w vm es) (l:List Txt) (hlt : ∀ t∈l,t.length≤5000) (hn:es.length+l.length<490000) (v:Value) (hv:SliceAt w 1 txC v l) :
 Calls Tryz.prog 18 #[.agg #[vm],v] w fun e w'=>AllR w.heap.size vm es (putL11 (es.map (·.st)) l) e w'∧Below w.heap.size w w':=by
 obtain ⟨W1,hW1⟩ : ∃ W1,w.alloc (.cells #[vm] 30)=W1:=⟨_,rfl⟩
 have s1:Blk W1 w.heap.size 30 #[vm]:=by rw [←hW1];exact Blk.new _ _ _
 have b1:Below w.heap.size w W1:=by rw [←hW1];exact (Below.refl _ _).alloc (Nat.le_refl _) _
 obtain ⟨W2,hW2⟩ : ∃ W2,W1.alloc (.cells #[.slice none 0 0] 30)=W2:=⟨_,rfl⟩
 have r2:Blk W2 W1.heap.size 30 #[.slice none 0 0]:=by rw [←hW2];exact Blk.new _ _ _
 have bb2:Below W1.heap.size W1 W2:=by rw [←hW2];exact (Below.refl _ _).alloc (Nat.le_refl _) _
 have b2:=bthen b1 b1.size bb2
 have s2:=s1.below bb2 s1.lt
 have hle1:w.heap.size≤W1.heap.size:=b1.size
 have hlt1:w.heap.size<W1.heap.size:=s1.lt
 have hD2:=h.below b2
 obtain ⟨L,hL⟩ : ∃ L,putL11 (es.map (·.st)) l=L:=⟨_,rfl⟩
 rw [hL]
 obtain ⟨S0,hS0⟩ : ∃ S0,es.map (·.st)=S0:=⟨_,rfl⟩
 rw [hS0] at hL
 have hel:es.length=S0.length:=by rw [←hS0,List.length_map]
 rw [hel] at hn
 obtain ⟨B1,hB1⟩ : ∃ B1,W1.heap.size=B1:=⟨_,rfl⟩
 rw [hB1] at r2 hle1 hlt1
 have hszS : ∀ vm:Value,(Tryz.prog.info? 30).map (·.size)=some (#[vm]:Array Value).size:=fun vm=>szDSt
 obtain ⟨A,cap,rfl,hcap1,hcap2,hat⟩:=hv
 have hu0:Hid (UseOr w.heap.size vm es vm es):=Lib.hid fun k hk => .inl hk
 obtain ⟨vm0,hvm0⟩ : ∃ v,v=vm:=⟨_,rfl⟩
 obtain ⟨es0,hes0⟩ : ∃ l,l=es:=⟨_,rfl⟩
 rw [show AllR w.heap.size vm es L=AllR w.heap.size vm0 es0 L by rw [hvm0,hes0]]
 rw [show UseOr w.heap.size vm es vm es=UseOr w.heap.size vm0 es0 vm es by rw [hvm0,hes0]] at hu0
 clear hvm0 hes0
 replace hL:=Lib.hid hL
 have hS0':Hid (es.map (·.st)=putL11 S0 (l.take 0)):=Lib.hid (by rw [hS0];rfl)
 clear hel s1 b1 h bb2
 go_enter Tryz.func18,Tryz.ntmps18
 go_wp2_with (fail)
 try rw [hB1]
 go_loopg [5] l.length (fun f vi wr => ∃ (k:Nat) (vm:Value) (es:List DiL),vi = .int .i64 k∧k+f=l.length∧Blk wr w.heap.size 30 #[vm]∧Blk wr B1 30 #[.slice none 0 0]∧DocSt wr vm es∧Hid (es.map (·.st)=putL11 S0 (l.take k))∧es.length≤S0.length+k∧Hid (UseOr w.heap.size vm0 es0 vm es)∧Below w.heap.size w wr)
 case atStart=>exact ⟨0,vm,es,rfl,by omega,s2,r2,hD2,hS0',by rw [←hS0,List.length_map];omega,hu0,b2⟩
 case round=>
  clear s2 r2 hD2 hS0' b2 hS0 hW1 hW2 hu0
  obtain ⟨k,vm,es,rfl,hkf,hs,hr,hD,hm,hlen,hu,hbel⟩:=hrel
  have hbs:=hbel.size
  cases gk with
  | zero=>
    have hki : ¬ (k:Int)<(l.length:Int):=by omega
    have hke:l.take k=l:=List.take_of_length_le (by omega)
    have hm2:Hid (es.map (·.st)=L):=Lib.hid (by rw [hm.out,hke,hL.out])
    have lS:=run_ldvS hs
    have hnoR:=hD.blk_ne hr (by decide) (by decide) (by decide)
    have hone:(#[vm]:Array Value).all (·.oneCell')=true:=by simp [hD.one]
    clear hat hm hke
    go_wp2_with (first
     | (refine wpList_store_row rfl 30 (.tmp 4) (.tmp 22) rfl B1 #[vm] rfl rfl _ _ hr (hszS _) rfl hone ?_))
    refine bodyPost_ret (results_cell_row rfl _ _ B1 _ _ _ _ rfl (setRow_heap _ _ _ _ _ _ hr) Tryz.underlying30 rfl (hszS _)) rfl ⟨⟨vm,es,rfl,hD.row hnoR _,hm2.out,hu.out⟩,below_setRow hbel hle1 _⟩
  | succ f=>
    have hki:(k:Int)<(l.length:Int):=by omega
    have hkl:k<l.length:=by omega
    obtain ⟨ga,oa,rfl,hga,hca⟩:=hat (by omega)
    obtain ⟨t,ht⟩ : ∃ t,l[k]?=some t:=⟨_,List.getElem?_eq_getElem hkl⟩
    have ht5:=hlt t (List.mem_of_getElem? ht)
    have hct:wr.drew.cell? ⟨ga,oa+k,none⟩=some (.string (B t)):=by
     have:=rangeAt_below (hca k t ht) hga (hbel.drew) 0 _ rfl
     rwa [Nat.add_zero,Nat.mul_one] at this
    have hbd:Below wr.heap.size wr wr.drew:=(Below.refl _ _).drew
    have hsd:=hs.below hbd hs.lt
    have hrd:=hr.below hbd hr.lt
    have lS:=run_ldvS hsd
    have hwi:=Lib.hid (docWith_calls (hD.below hbd) (by omega) t ht5)
    have hmore:Hid (putL11 S0 (l.take (k+1))=putS (es.map (·.st)) t):=Lib.hid (by rw [putL11_more ht,hm.out])
    obtain ⟨pi,hpi⟩ : ∃ pi,putI t=pi:=⟨_,rfl⟩
    obtain ⟨bf,hbf⟩ : ∃ bf,(decO t).isSome=bf:=⟨_,rfl⟩
    have hpl:=putS_len (es.map (·.st)) t
    rw [List.length_map] at hpl
    obtain ⟨PL,hPL⟩ : ∃ PL,putS (es.map (·.st)) t=PL:=⟨_,rfl⟩
    unfold WithR at hwi
    rw [hpi,hbf,hPL] at hwi
    rw [hPL] at hmore hpl
    clear hat hca ht hpi hbf hPL hm hs hr hD
    go_upto_region 4 with (fail)
    go_region_with (first
     | (go_at_call 39;go_must (refine hwi.out.mono ?_);rintro e w7 ⟨⟨vm7,es7,rfl,D7,hmap,hold,hvold⟩,b67⟩
        have hu7:=Lib.hid (hu.out.trans (UseOr.with_ hold hvold) hbs)
        clear hold hvold
        obtain ⟨A7,c7,rfl⟩:=own_form' D7.own
        have hs7:=hsd.below b67 hsd.lt
        have q7:=hs7.cell 0
        have f7:=hs7.frozen 0))
    all_goals
     have b07:=bthen hbel hbs (bthen hbd hbd.size b67)
     have hr7:=hrd.below b67 hrd.lt
     have hnoS:=D7.blk_ne hs7 (by decide) (by decide) (by decide)
     have hs8:=hs7.set_ 0 (.slice A7 es7.length c7)
     have hr8:Blk (w7.setCell ⟨w.heap.size,0,none⟩ (.slice A7 es7.length c7)) B1 30 #[.slice none 0 0]:=(Below.heap_setCell _ _ _ _ (fun e=>by have:B1=w.heap.size:=e;omega)).trans hr7
     have D8:DocSt (w7.setCell ⟨w.heap.size,0,none⟩ (.slice A7 es7.length c7)) (.slice A7 es7.length c7) es7:=D7.same fun k hk=>Below.heap_setCell _ _ _ _ fun e=>hnoS (by have e2:k=w.heap.size:=e;rw [←e2];exact hk)
     have b08:Below w.heap.size w (w7.setCell ⟨w.heap.size,0,none⟩ (.slice A7 es7.length c7)):=below_setCells [.slice A7 es7.length c7] 0 w w7 b07 (Nat.le_refl _)
     have hm8:=Lib.hid (hmap.trans hmore.out.symm)
     have hl8:es7.length≤S0.length+(k+1):=by rw [←hmap,List.length_map] at hpl;omega
     clear hmap hmore hpl hu
     go_wp2_with (fail)
     go_roundg f
     case rel=>exact ⟨k+1,_,es7,by go_num,by omega,hs8,hr8,D8,hm8,hl8,hu7,b08⟩
     case measure=>omega
end Go.Proofs.YtfdfoplmijmnaaaGreatDoor
namespace Go.Proofs.YtfdfoplmijmnaaaGreatDoor
open Go.RowKit
theorem TabK.alloc_ {w:World} (h:TabK w) (o:Obj):TabK (w.alloc o):=h.below ((Below.refl _ _).alloc (Nat.le_refl _) o)
set_option maxRecDepth 100000 in
set_option maxHeartbeats 2000000 in
theorem objId_calls (s:Txt) (hs:s.length≤1000000000) (w:World) (hK:TabK w):Calls Tryz.prog 65 #[.string (B s)] w fun e w'=>e = .returned (.agg (u8s (shaOf s)))∧Below w.heap.size w w':=by
 have hzv:=zeroIdV
 have hzl:(u8s noId).size=32:=by rw [u8s_size,noId_len]
 generalize u8s noId=Z at *
 obtain ⟨W1,hW1⟩ : ∃ W1,w.alloc (.cells Z 35)=W1:=⟨_,rfl⟩
 have hx1:Blk W1 w.heap.size 35 Z:=by rw [←hW1];exact Blk.new _ _ _
 have b1:Below w.heap.size w W1:=by rw [←hW1];exact (Below.refl _ _).alloc (Nat.le_refl _) _
 obtain ⟨W2,hW2⟩ : ∃ W2,W1.alloc (.cells #[.string (B s)] 9)=W2:=⟨_,rfl⟩
 have hb2:Below W1.heap.size W1 W2:=by rw [←hW2];exact (Below.refl _ _).alloc (Nat.le_refl _) _
 have hy2:Blk W2 W1.heap.size 9 #[.string (B s)]:=by rw [←hW2];exact Blk.new _ _ _
 have hx2:=hx1.below hb2 hx1.lt
 have b2:=bthen b1 b1.size hb2
 have hK2:TabK W2:=by rw [←hW2,←hW1];exact (hK.alloc_ _).alloc_ _
 have hst:Strs W2 (.slice (some ⟨W1.heap.size,0,none⟩) 1 1) [s] := .inr ⟨W1.heap.size,0,1,rfl,fun j l hj=>by
  match j,hj with
  | 0,hj=>
    injection hj with hj
    subst hj
    rw [hy2.cell];rfl
  | j+1,hj=>simp at hj,hy2.lt,by simp,by simp⟩
 have hsum:=sum_calls [s] _ W2 hK2 hst (by simp;omega)
 have hfl:[s].flatten=s:=by simp
 rw [hfl] at hsum
 have hsum:=Lib.hid hsum
 have hl:=shaOf_length s
 have hsz:(Tryz.prog.info? 35).map (·.size)=some (u8s (shaOf s)).size:=by rw [u8s_size,hl];exact sz32
 have h32:(u8s (shaOf s)).size=32:=by rw [u8s_size,hl]
 have hone:=u8s_one (shaOf s)
 obtain ⟨D,hD⟩ : ∃ D,Hid (u8s (shaOf s)=D):=⟨_,Lib.hid rfl⟩
 rw [hD.out] at hsum hsz h32 hone
 clear hy2 hK2 hst hfl hl hx1 b1 hb2
 go_enter Tryz.func65,Tryz.ntmps65
 go_wp2_with (first
  | ((with_reducible refine hsum.out.mono ?_);rintro e w3 ⟨rfl,hb3⟩
     have hx3:=hx2.below hb3 hx2.lt
     have b3:=bthen b2 b2.size hb3
     clear hsum hW1 hW2)
  | (refine wpList_store_row rfl 35 (.tmp 2) (.tmp 5) rfl w.heap.size D rfl rfl _ _ hx3 hsz (by rw [hzl,h32]) hone ?_))
 exact bodyPost_ret (results_cell_row rfl _ _ w.heap.size _ _ _ _ rfl (setRow_heap _ _ _ _ _ _ hx3) Tryz.underlying35 rfl hsz) rfl ⟨by rw [hD.out],below_setRow b3 (Nat.le_refl _) _⟩
end Go.Proofs.YtfdfoplmijmnaaaGreatDoor
namespace Go.Proofs.YtfdfoplmijmnaaaGreatDoor
open Go.RowKit
attribute [local go_sem ↓] ldvI_eq ldvO_eq
/-- What Put leaves. -/
def PutAt (w:World) (base p:Nat) (vl:Value) (s':List StL) (w':World):Prop := ∃ vl',StoAt w' base p vl' s'∧Far [some p,vl.ownBlock] w w'∧Newer w vl vl'
set_option maxRecDepth 100000 in
set_option maxHeartbeats 8000000 in
theorem stoPut_calls {w:World} {base p:Nat} {vl:Value} {s:List StL} (hB:base≤w.heap.size) (h:StoAt w base p vl s) (t:Txt) (ht:t.length≤1000000) (hK:TabK w) (hf:s.length<500000) :
 Calls Tryz.prog 42 #[.pointer (some ⟨p,0,none⟩), .string (B t)] w fun e w'=>e = .returned (.tuple #[.agg (u8s (putI t)), .int .i64 (putC t)])∧PutAt w base p vl (putS s t) w':=by
 have hzI:=zeroIdV
 have hrb:=fun W=>run_build (P:=Tryz.prog) W _ _ _ built_zId
 have hZ32:(u8s noId).size=32:=by rw [u8s_size,noId_len]
 have hZone:=u8s_one noId
 obtain ⟨W0,hW0⟩ : ∃ W0,w.alloc (.cells (u8s noId) 35)=W0:=⟨_,rfl⟩
 have z0:Blk W0 w.heap.size 35 (u8s noId):=by rw [←hW0];exact Blk.new _ _ _
 have b0:Below w.heap.size w W0:=by rw [←hW0];exact (Below.refl _ _).alloc (Nat.le_refl _) _
 have hsz : ∀ cs:Array Value,cs.size=32→(Tryz.prog.info? 35).map (·.size)=some cs.size:=fun cs h=>by rw [h];exact sz32
 have hde:=Lib.hid (decode_calls t (by omega) W0)
 have hzo:=zeroObj
 have hz72:=zObj_size
 have hplw:=h.lt
 have hD:=Lib.hid h
 have hn0:(List.replicate 32 (0:UInt8))=noId:=rfl
 cases hd:decO t with
 | none=>
   have hpi:putI t=noId:=by unfold putI;rw [hd];exact hn0
   have hpc:putC t=2:=by unfold putC;rw [hd]
   have hps:putS s t=s:=by unfold putS;rw [hd]
   rw [hpi,hpc,hps]
   rw [hd] at hde
   have hde:Hid (Calls Tryz.prog 64 #[.string (B t)] W0 fun e w'=>e = .returned (.tuple #[.agg zObj, .int .i64 2])∧Below W0.heap.size W0 w'):=hde
   have hzone:zObj.all (·.oneCell')=true:=objC_all zeroO none none 0 0 0 0
   generalize u8s noId=Z at *
   generalize zObj=ZO at *
   clear hd hpi hpc hps hn0
   go_enter Tryz.func42,Tryz.ntmps42
   go_wp2_with (first
    | ((with_reducible refine hde.out.mono ?_);rintro e w1 ⟨rfl,bb1⟩
       have b1:=bthen b0 b0.size bb1
       have z1:=z0.below bb1 z0.lt)
    | ((with_reducible refine lit_new 70 (.tmp 6) (.tmp 17) ZO 72 szObj hz72 hzone _ ?_ ?_ ?_ ?_)
       ·first | exact hz72 | rfl
       ·rfl
       ·rfl
       intro W2 hb2 hbl2
       have b2:=bthen b1 b1.size hbl2
       have z2:=z1.below hbl2 z1.lt)
    | (refine wpList_store_row rfl 35 (.tmp 4) (.tmp 21) rfl w.heap.size Z rfl rfl _ _ z2 (hsz Z hZ32) rfl hZone ?_))
   refine bodyPost_ret (results_row_tmp rfl _ _ w.heap.size _ _ _ _ rfl (setRow_heap _ _ _ _ _ _ z2) Tryz.underlying35 rfl (hsz Z hZ32)) rfl ⟨rfl,?_⟩
   have hb:=below_setRow b2 (Nat.le_refl _) Z
   exact ⟨vl,hD.out.below hb,Far.of_below hb,Newer.refl _ _⟩
 | some o=>
   have hpi:putI t=shaOf t:=by unfold putI;rw [hd]
   have hpc:putC t=0:=by unfold putC;rw [hd]
   have hps:putS s t=if hasK StL.id s (shaOf t) then s else insK StL.id s ⟨shaOf t,t⟩:=by unfold putS;rw [hd]
   have hokP:=h.ok.put t hf
   rw [hpi,hpc]
   rw [hps] at hokP ⊢
   rw [hd] at hde
   have hde:Hid (Calls Tryz.prog 64 #[.string (B t)] W0 fun e w'=>(∃ A1 A2 k1 k2,e = .returned (.tuple #[.agg (objC o (.slice A1 o.ents.length k1) (.slice A2 o.pars.length k2)).toArray, .int .i64 0])∧ObjV w' (.slice A1 o.ents.length k1) (.slice A2 o.pars.length k2) o)∧Below W0.heap.size W0 w'):=Lib.hid (hde.out.mono fun e w' ⟨⟨A1,A2,k1,k2,h1,h2,_⟩,hb⟩=>⟨⟨A1,A2,k1,k2,h1,h2⟩,hb⟩)
   have hid:=fun W (hb:Below w.heap.size w W)=>objId_calls t (by omega) W (hK.below hb)
   have hn32:=shaOf_length t
   have hxok:StitOk ⟨shaOf t,t⟩:=⟨hn32,by show t.length≤_;omega⟩
   obtain ⟨n,hn⟩ : ∃ n,shaOf t=n:=⟨_,rfl⟩
   rw [hn] at hid hn32 hxok hokP ⊢
   have hN32:(u8s n).size=32:=by rw [u8s_size,hn32]
   have hNone:=u8s_one n
   have hsI:(Tryz.prog.info? 35).map (·.size)=some (u8s n).toList.length:=by rw [u8s_lenS,hn32];exact sz32
   have hldn : ∀ W g,Blk W g 35 (u8s n)→(ldvI ⟨g,0,none⟩).run Tryz.prog W = .ok (.agg (u8s n)) W:=fun W g hb=>by
    have:=run_loadVar_mid (P:=Tryz.prog) W g 0 35 (u8s n).toList _ (range_blk hb) Tryz.underlying35 rfl hsI
    rwa [Array.toArray_toList] at this
   have hpl:=fun W (hb:Below w.heap.size w W)=>stoPlace_calls (hD.out.below hb) n hn32
   have hPle:posK StL.id s n≤s.length:=posK_le
   have hZ32':(u8s noId).size=(u8s n).size:=by rw [hZ32,hN32]
   clear hd hpi hpc hps hn0 hn
   cases hh:hasK StL.id s n with
   | true=>
     rw [hh] at hpl hokP
     simp only [if_true] at hokP ⊢
     generalize posK StL.id s n=P at *
     go_enter Tryz.func42,Tryz.ntmps42
     go_wp2_with (first
      | ((with_reducible refine hde.out.mono ?_);rintro e w1 ⟨⟨A1,A2,k1,k2,rfl,hv1⟩,bb1⟩
         have b1:=bthen b0 b0.size bb1
         have z1:=z0.below bb1 z0.lt
         have hc72:(objC o (.slice A1 o.ents.length k1) (.slice A2 o.pars.length k2)).toArray.size=72:=by rw [List.size_toArray,objC_len hv1.ok]
         have hcone:=objC_all o A1 A2 o.ents.length k1 o.pars.length k2)
      | ((with_reducible refine lit_new 70 (.tmp 6) (.tmp 17) (objC o (.slice A1 o.ents.length k1) (.slice A2 o.pars.length k2)).toArray 72 szObj hc72 hcone _ ?_ ?_ ?_ ?_)
         ·first | exact hz72 | rfl
         ·rfl
         ·rfl
         intro W2 hb2 hbl2
         have b2:=bthen b1 b1.size hbl2
         have z2:=z1.below hbl2 z1.lt)
      | ((with_reducible refine (hid _ b2).mono ?_);rintro e w3 ⟨rfl,bb3⟩
         have b3:=bthen b2 b2.size bb3
         have z3:=z2.below bb3 z2.lt)
      | ((with_reducible refine lit_new 35 (.tmp 8) (.tmp 23) (u8s n) 32 sz32 hN32 hNone _ ?_ ?_ ?_ ?_)
         ·first | exact hZ32 | rfl
         ·rfl
         ·rfl
         intro W4 hb4 hbl4
         have b4:=bthen b3 b3.size hbl4
         have z4:=z3.below hbl4 z3.lt
         have ld4:=hldn _ _ hb4)
      | ((with_reducible refine (hpl _ b4).mono ?_);rintro e w5 ⟨rfl,bb5⟩
         have b5:=bthen b4 b4.size bb5
         have z5:=z4.below bb5 z4.lt
         have ld5:=hldn _ _ (hb4.below bb5 hb4.lt))
      | (refine wpList_store_row rfl 35 (.tmp 4) (.tmp 45) rfl w.heap.size (u8s n) rfl rfl _ _ z5 (hsz _ hN32) hZ32' hNone ?_))
     refine bodyPost_ret (results_row_tmp rfl _ _ w.heap.size _ _ _ _ rfl (setRow_heap _ _ _ _ _ _ z5) Tryz.underlying35 rfl (hsz _ hN32)) rfl ⟨rfl,?_⟩
     have hb:=below_setRow b5 (Nat.le_refl _) (u8s n)
     exact ⟨vl,hD.out.below hb,Far.of_below hb,Newer.refl _ _⟩
   | false=>
     rw [hh] at hpl hokP
     simp only [Bool.false_eq_true,if_false] at hokP ⊢
     unfold insK at hokP ⊢
     simp only at hokP ⊢
     generalize posK StL.id s n=P at *
     obtain ⟨s',hs'⟩ : ∃ s',s.take P++[(⟨n,t⟩:StL)]++s.drop P=s':=⟨_,rfl⟩
     rw [hs'] at hokP ⊢
     have HS:=Lib.hid hs'
     clear hs'
     go_enter Tryz.func42,Tryz.ntmps42
     go_upto_region 9 with (first
      | ((with_reducible refine hde.out.mono ?_);rintro e w1 ⟨⟨A1,A2,k1,k2,rfl,hv1⟩,bb1⟩
         have b1:=bthen b0 b0.size bb1
         have z1:=z0.below bb1 z0.lt
         have hc72:(objC o (.slice A1 o.ents.length k1) (.slice A2 o.pars.length k2)).toArray.size=72:=by rw [List.size_toArray,objC_len hv1.ok]
         have hcone:=objC_all o A1 A2 o.ents.length k1 o.pars.length k2)
      | ((with_reducible refine lit_new 70 (.tmp 6) (.tmp 17) (objC o (.slice A1 o.ents.length k1) (.slice A2 o.pars.length k2)).toArray 72 szObj hc72 hcone _ ?_ ?_ ?_ ?_)
         ·first | exact hz72 | rfl
         ·rfl
         ·rfl
         intro W2 hb2 hbl2
         have b2:=bthen b1 b1.size hbl2
         have z2:=z1.below hbl2 z1.lt)
      | ((with_reducible refine (hid _ b2).mono ?_);rintro e w3 ⟨rfl,bb3⟩
         have b3:=bthen b2 b2.size bb3
         have z3:=z2.below bb3 z2.lt)
      | ((with_reducible refine lit_new 35 (.tmp 8) (.tmp 23) (u8s n) 32 sz32 hN32 hNone _ ?_ ?_ ?_ ?_)
         ·first | exact hZ32 | rfl
         ·rfl
         ·rfl
         intro W4 hb4 hbl4
         have b4:=bthen b3 b3.size hbl4
         have z4:=z3.below hbl4 z3.lt
         have hgI:w.heap.size≤w3.heap.size:=b3.size
         have ld4:=hldn _ _ hb4)
      | ((with_reducible refine (hpl _ b4).mono ?_);rintro e w0 ⟨rfl,bb5⟩
         have b5:=bthen b4 b4.size bb5
         have z5:=z4.below bb5 z4.lt
         have hI5:=hb4.below bb5 hb4.lt))
     have hgI0:=z3.lt
     obtain ⟨gI,hgIe⟩ : ∃ gI,w3.heap.size=gI:=⟨_,rfl⟩
     rw [hgIe] at hI5 hgI0 ⊢
     have hD0:=hD.out.below b5
     have hplw2:p<w.heap.size:=hplw
     have hlv0 : ∀ q,vl.ownBlock=some q→q<w.heap.size:=fun q hq=>(World.ownsRow.lt hD.out.own q hq).2
     have hok:=hD.out.ok
     have hB:base≤w0.heap.size:=Nat.le_trans hB b5.size
     replace hD:=Lib.hid hD0
     have hlv : ∀ q,vl.ownBlock=some q→q<w0.heap.size:=fun q hq=>(World.ownsRow.lt hD.out.own q hq).2
     have hPl:=hPle
     have ldn:=fun W (hW:Below w0.heap.size w0 W)=>hldn W gI (hI5.below hW hI5.lt)
     clear hde hid hpl b0 b1 b2 b3 b4 z0 z1 z2 z3 z4 ld4 bb1 bb3 bb5 hv1 hc72 hcone hb2 hbl2 hb4 hbl4 hW0 hD0 hgIe hplw hPle hh hK
     obtain ⟨V,hV⟩ : ∃ V:Nat→Value,V=fun i=>[(.pointer (some ⟨p,0,none⟩)),(.pointer (some ⟨p,0,none⟩)),(.pointer (some ⟨p,0,none⟩)),(.pointer (some ⟨p,0,none⟩)),vl,(.int .i64 P),(.agg (u8s n)),(.string (B t)),(.agg (stitC ⟨n,t⟩).toArray),undef,undef,(.pointer (some ⟨p,0,none⟩)),(.pointer (some ⟨p,0,none⟩)),undef].getD i undef:=⟨_,rfl⟩
     have v0:V 0=(.pointer (some ⟨p,0,none⟩)):=by rw [hV];rfl
     have v1:V 1=(.pointer (some ⟨p,0,none⟩)):=by rw [hV];rfl
     have v2:V 2=(.pointer (some ⟨p,0,none⟩)):=by rw [hV];rfl
     have v3:V 3=(.pointer (some ⟨p,0,none⟩)):=by rw [hV];rfl
     have v4:V 4=vl:=by rw [hV];rfl
     have v5:V 5=(.int .i64 P):=by rw [hV];rfl
     have v6:V 6=(.agg (u8s n)):=by rw [hV];rfl
     have v7:V 7=(.string (B t)):=by rw [hV];rfl
     have v8:V 8=(.agg (stitC ⟨n,t⟩).toArray):=by rw [hV];rfl
     have v11:V 11=(.pointer (some ⟨p,0,none⟩)):=by rw [hV];rfl
     have v12:V 12=(.pointer (some ⟨p,0,none⟩)):=by rw [hV];rfl
     have v13:V 13=undef:=by rw [hV];rfl
     clear hV
     refine wp_region_listed (C:=StPutC w0 base p vl s') (R:=StPutR V w0 base vl ⟨n,t⟩ s') (by kernel_rfl) (by kernel_rfl) (by kernel_rfl) ?_ (StPutC.start w0).drew ?_ ?_
     ·exact sizes_spec (n:=46) (by kernel_rfl)
     ·intro i o listed a w1 ho hi hL
      have hin:=(ready_spec hi).1
      have hsz:listed.size=14:=hL.size
      match i,ho with
      | 0,ho=>
        obtain rfl:=(Option.some.inj ho).symm
        have e0:a.tmps[0]?.getD undef=(.pointer (some ⟨p,0,none⟩)):=(slot_eval a 0).trans (hL.get_old hi (by kernel_rfl))
        have hc:=hL.cls
        refine step_wp rfl rfl ?_
        clear ho hL
        refine wp_val (v:=(.pointer (some ⟨p,0,none⟩))) ?_ ⟨_,rfl,StPutR.mk (by decide) v0.symm,hc.same (by rw [hsz];decide) (by decide),fun _ _ _ h=>h⟩
        clear hi hin hsz v0 v1 v2 v3 v4 v5 v6 v7 v8 v11 v12 v13  hc
        unfold execOp
        go_simp
      | 1,ho=>
        obtain rfl:=(Option.some.inj ho).symm
        have e0:a.tmps[0]?.getD undef=(.pointer (some ⟨p,0,none⟩)):=(slot_eval a 0).trans (hL.get_old hi (by kernel_rfl))
        have hc:=hL.cls
        refine step_wp rfl rfl ?_
        clear ho hL
        refine wp_val (v:=(.pointer (some ⟨p,0,none⟩))) ?_ ⟨_,rfl,StPutR.mk (by decide) v1.symm,hc.same (by rw [hsz];decide) (by decide),fun _ _ _ h=>h⟩
        clear hi hin hsz v0 v1 v2 v3 v4 v5 v6 v7 v8 v11 v12 v13  hc
        unfold execOp
        go_simp
      | 2,ho=>
        obtain rfl:=(Option.some.inj ho).symm
        have e0:a.tmps[33]?.getD undef=(.pointer (some ⟨p,0,none⟩)):=(slot_eval a 33).trans ((StPutR.at_ (hi:=by decide) (hL.get_new (j:=1) hi (by kernel_rfl))).trans v1)
        have hc:=hL.cls
        refine step_wp rfl rfl ?_
        clear ho hL
        refine wp_val (v:=(.pointer (some ⟨p,0,none⟩))) ?_ ⟨_,rfl,StPutR.mk (by decide) v2.symm,hc.same (by rw [hsz];decide) (by decide),fun _ _ _ h=>h⟩
        clear hi hin hsz v0 v1 v2 v3 v4 v5 v6 v7 v8 v11 v12 v13  hc
        unfold execOp
        go_simp
      | 3,ho=>
        obtain rfl:=(Option.some.inj ho).symm
        have e0:a.tmps[34]?.getD undef=(.pointer (some ⟨p,0,none⟩)):=(slot_eval a 34).trans ((StPutR.at_ (hi:=by decide) (hL.get_new (j:=2) hi (by kernel_rfl))).trans v2)
        have hc:=hL.cls
        refine step_wp rfl rfl ?_
        clear ho hL
        refine wp_val (v:=(.pointer (some ⟨p,0,none⟩))) ?_ ⟨_,rfl,StPutR.mk (by decide) v3.symm,hc.same (by rw [hsz];decide) (by decide),fun _ _ _ h=>h⟩
        clear hi hin hsz v0 v1 v2 v3 v4 v5 v6 v7 v8 v11 v12 v13  hc
        unfold execOp
        go_simp
      | 4,ho=>
        obtain rfl:=(Option.some.inj ho).symm
        have e0:a.tmps[35]?.getD undef=(.pointer (some ⟨p,0,none⟩)):=(slot_eval a 35).trans ((StPutR.at_ (hi:=by decide) (hL.get_new (j:=3) hi (by kernel_rfl))).trans v3)
        have hc:=hL.cls
        refine step_wp rfl rfl ?_
        have hL4:=hL.later (j:=10) hi (by kernel_rfl)
        clear ho hL
        refine wp_val (v:=vl) ?_ ⟨_,rfl,StPutR.mk (by decide) v4.symm,hc.same (by rw [hsz];decide) (by decide),fun _ _ _ h=>h⟩
        have hb0:=hc.a_ (hL4)
        have q:=(hD.out.below hb0).c0
        clear hi hin hsz v0 v1 v2 v3 v4 v5 v6 v7 v8 v11 v12 v13  hc
        unfold execOp
        go_simp
      | 5,ho=>
        obtain rfl:=(Option.some.inj ho).symm
        have e0:a.tmps[9]?.getD undef=(.int .i64 P):=(slot_eval a 9).trans (hL.get_old hi (by kernel_rfl))
        have hc:=hL.cls
        refine step_wp rfl rfl ?_
        clear ho hL
        refine wp_val (v:=(.int .i64 P)) ?_ ⟨_,rfl,StPutR.mk (by decide) v5.symm,hc.same (by rw [hsz];decide) (by decide),fun _ _ _ h=>h⟩
        clear hi hin hsz v0 v1 v2 v3 v4 v5 v6 v7 v8 v11 v12 v13  hc
        unfold execOp
        go_simp
      | 6,ho=>
        obtain rfl:=(Option.some.inj ho).symm
        have e0:a.tmps[8]?.getD undef=(.pointer (some ⟨gI,0,none⟩)):=(slot_eval a 8).trans (hL.get_old hi (by kernel_rfl))
        have hc:=hL.cls
        refine step_wp rfl rfl ?_
        have hL8:=hL.later (j:=8) hi (by kernel_rfl)
        have hL9:listed.getD 9 false=false:=hL.later2 hL8 (by kernel_rfl)
        have hL6:listed.getD 10 false=false:=hL.later2 hL9 (by kernel_rfl)
        clear ho hL
        refine wp_val (v:=(.agg (u8s n))) ?_ ⟨_,rfl,StPutR.mk (by decide) v6.symm,hc.same (by rw [hsz];decide) (by decide),fun _ _ _ h=>h⟩
        have hb0:=hc.a_ (hL6)
        have q:=ldn w1 hb0
        clear hi hin hsz v0 v1 v2 v3 v4 v5 v6 v7 v8 v11 v12 v13  hc
        unfold execOp
        go_simp
      | 7,ho=>
        obtain rfl:=(Option.some.inj ho).symm
        have e0:a.tmps[1]?.getD undef=(.string (B t)):=(slot_eval a 1).trans (hL.get_old hi (by kernel_rfl))
        have hc:=hL.cls
        refine step_wp rfl rfl ?_
        clear ho hL
        refine wp_val (v:=(.string (B t))) ?_ ⟨_,rfl,StPutR.mk (by decide) v7.symm,hc.same (by rw [hsz];decide) (by decide),fun _ _ _ h=>h⟩
        clear hi hin hsz v0 v1 v2 v3 v4 v5 v6 v7 v8 v11 v12 v13  hc
        unfold execOp
        go_simp
      | 8,ho=>
        obtain rfl:=(Option.some.inj ho).symm
        have e0:a.tmps[38]?.getD undef=(.agg (u8s n)):=(slot_eval a 38).trans ((StPutR.at_ (hi:=by decide) (hL.get_new (j:=6) hi (by kernel_rfl))).trans v6)
        have e1:a.tmps[39]?.getD undef=(.string (B t)):=(slot_eval a 39).trans ((StPutR.at_ (hi:=by decide) (hL.get_new (j:=7) hi (by kernel_rfl))).trans v7)
        have hc:=hL.cls
        refine step_wp rfl rfl ?_
        clear ho hL
        refine build_step rfl (built_stit ⟨n,t⟩ hxok.1) (parts2 (slot_is e0) (slot_is e1)) ⟨_,rfl,StPutR.mk (by decide) v8.symm,hc.same (by rw [hsz];decide) (by decide),fun _ _ _ h=>h⟩
      | 9,ho=>
        obtain rfl:=(Option.some.inj ho).symm
        have e0:a.tmps[40]?.getD undef=(.agg (stitC ⟨n,t⟩).toArray):=(slot_eval a 40).trans ((StPutR.at_ (hi:=by decide) (hL.get_new (j:=8) hi (by kernel_rfl))).trans v8)
        have hc:=hL.cls
        have hla:=hL.later (j:=10) hi (by kernel_rfl)
        have hb0:=hc.a_ hla
        clear ho hL
        refine step_wp rfl rfl ?_
        refine slice_step rfl Tryz.stitTy (by decide) (stitC_len hxok) (.inl (slot_is e0)) ⟨_,rfl,StPutR.lit (Blk.new _ _ _) hb0.size,?_,fun j u _ h=>StPutR.far (S:=[]) h (Far.of_below ((Below.refl _ _).alloc (Nat.le_refl _) _)) (fun _ _ _=>by simp) (fun _ _ _=>by simp)⟩
        refine StPutC.same ⟨fun _=>hb0.alloc hb0.size _,fun e=>?_,fun e=>?_,?_⟩ (by rw [hsz];decide) (by decide)
        ·rw [hla] at e;cases e
        ·obtain ⟨v',h1,h2,h3,h4⟩:=hc.c_ e
         exact ⟨v',h1.alloc _,World.ownsRow.alloc h2 _,h3,h4.alloc _⟩
        ·exact Nat.le_trans hc.sz (by simp)
      | 10,ho=>
        obtain rfl:=(Option.some.inj ho).symm
        have e0:a.tmps[36]?.getD undef=vl:=(slot_eval a 36).trans ((StPutR.at_ (hi:=by decide) (hL.get_new (j:=4) hi (by kernel_rfl))).trans v4)
        have e1:a.tmps[37]?.getD undef=(.int .i64 P):=(slot_eval a 37).trans ((StPutR.at_ (hi:=by decide) (hL.get_new (j:=5) hi (by kernel_rfl))).trans v5)
        have e2:=hL.get_new (j:=9) (t:=41) hi (by kernel_rfl)
        have hc:=hL.cls
        have hla:listed.getD 10 false=false:=by rw [getD_of_size (by rw [hsz];exact hin)];exact (ready_spec hi).2.1
        have hlb:=hL.later (j:=13) hi (by kernel_rfl)
        have hb0:=hc.a_ hla
        obtain ⟨b,h5,hb5,hge5⟩:=StPutR.litAt e2
        clear ho hL
        refine step_wp rfl rfl ?_
        have hins:=insertStits_calls s hok.ok (by have:=hok.few;omega) vl w1 base P b ⟨n,t⟩ hxok (Nat.le_trans hB hc.sz) (own_below hD.out.own hb0) hPl hb5 (fun e=>by have:=hlv _ e;omega)
        refine call_step rfl (vals := #[vl, .int .i64 P, .slice (some ⟨b,0,none⟩) 1 1]) (map3 (slot_is e0) (slot_is e1) h5) (by go_simp) hins ?_
        rintro e w2 ⟨v',rfl,hown2,hg2,hnw2⟩
        rw [HS.out] at hown2
        have hf2:Far [vl.ownBlock] w1 w2:=Far.of_grown hg2
        refine ⟨_,rfl,_,rfl,StPutR.ins hown2 ((Newer.refl w0 vl).then_ hnw2 hc.sz),?_,fun j u hj h=>StPutR.far h hf2 (fun q hq _ hm=>?_) (fun hj10 k hk hm=>?_)⟩
        ·refine ⟨fun e=>?_,fun _ _=>(Far.of_below hb0).then_ hf2 (fun k hk => .inl hk),fun e=>?_,Nat.le_trans hc.sz hf2.size⟩
         ·rw [getD_set (by rw [hsz];decide),if_pos rfl] at e;cases e
         ·rw [getD_set (by rw [hsz];decide),if_neg (by decide),hlb] at e;cases e
        ·simp only [List.mem_singleton] at hm
         have:=hlv q hm.symm
         omega
        ·subst hj10
         rw [hla] at hj;cases hj
      | 11,ho=>
        obtain rfl:=(Option.some.inj ho).symm
        have e0:a.tmps[32]?.getD undef=(.pointer (some ⟨p,0,none⟩)):=(slot_eval a 32).trans ((StPutR.at_ (hi:=by decide) (hL.get_new (j:=0) hi (by kernel_rfl))).trans v0)
        have hc:=hL.cls
        refine step_wp rfl rfl ?_
        clear ho hL
        refine wp_val (v:=(.pointer (some ⟨p,0,none⟩))) ?_ ⟨_,rfl,StPutR.mk (by decide) v11.symm,hc.same (by rw [hsz];decide) (by decide),fun _ _ _ h=>h⟩
        clear hi hin hsz v0 v1 v2 v3 v4 v5 v6 v7 v8 v11 v12 v13  hc
        unfold execOp
        go_simp
      | 12,ho=>
        obtain rfl:=(Option.some.inj ho).symm
        have e0:a.tmps[43]?.getD undef=(.pointer (some ⟨p,0,none⟩)):=(slot_eval a 43).trans ((StPutR.at_ (hi:=by decide) (hL.get_new (j:=11) hi (by kernel_rfl))).trans v11)
        have hc:=hL.cls
        refine step_wp rfl rfl ?_
        clear ho hL
        refine wp_val (v:=(.pointer (some ⟨p,0,none⟩))) ?_ ⟨_,rfl,StPutR.mk (by decide) v12.symm,hc.same (by rw [hsz];decide) (by decide),fun _ _ _ h=>h⟩
        clear hi hin hsz v0 v1 v2 v3 v4 v5 v6 v7 v8 v11 v12 v13  hc
        unfold execOp
        go_simp
      | 13,ho=>
        obtain rfl:=(Option.some.inj ho).symm
        have e0:a.tmps[44]?.getD undef=(.pointer (some ⟨p,0,none⟩)):=(slot_eval a 44).trans ((StPutR.at_ (hi:=by decide) (hL.get_new (j:=12) hi (by kernel_rfl))).trans v12)
        have e1:=hL.get_new (j:=10) (t:=42) hi (by kernel_rfl)
        have hc:=hL.cls
        have hla:listed.getD 10 false=true:=hL.before hi (by kernel_rfl)
        have hls:listed.getD 13 false=false:=(getD_of_size (by rw [hsz];exact hin)).trans (ready_spec hi).2.1
        have hf0:=hc.b_ hla hls
        obtain ⟨hown2,hnw2⟩:=StPutR.insAt e1
        have hp1:Blk w1 p 96 #[vl]:=hf0.blk hD.out.blk (fun hm=>by simp only [List.mem_singleton] at hm;exact hD.out.ne hm.symm)
        have hvp : ∀ k,(a.eval (.tmp 42)).ownBlock=some k→some k ∉ [some p]:=fun k hk hm=>by
         simp only [List.mem_singleton] at hm
         injection hm with hm
         subst hm
         exact hnw2.ne hD.out.lt hD.out.ne hk
        obtain ⟨A2,c2,hform⟩:=own_form' hown2
        have e2:a.tmps[42]?.getD undef = .slice A2 s'.length c2:=(slot_eval a 42).trans hform
        have c0:w1.cell? ⟨p,0,none⟩=some vl:=by rw [hp1.cell];rfl
        have f0:=hp1.frozen 0
        rw [hform] at hown2 hnw2 hvp
        have hf1:Far [some p] w1 (w1.setCell ⟨p,0,none⟩ (.slice A2 s'.length c2)):=(Far.refl _ _).set_ (p:=⟨p,0,none⟩) (.inl (by simp)) _
        have hown3:=hf1.own hown2 hvp
        have hH : ∀ u:Value,StPutC w0 base p vl s' (listed.setIfInBounds 13 true) (w1.setCell ⟨p,0,none⟩ (.slice A2 s'.length c2)):=fun _=>by
         refine ⟨fun e=>?_,fun _ e=>?_,fun _=>⟨_,hp1.set_ 0 _,hown3,hnw2,(hf0.mono (T:=[some p,vl.ownBlock]) fun k hk=>List.mem_cons_of_mem _ hk).then_ (T:=[some p]) hf1 (fun k hk => .inl (by simp only [List.mem_singleton] at hk;rw [hk];simp))⟩,Nat.le_trans hc.sz hf1.size⟩
         ·rw [getD_set (by rw [hsz];decide),if_neg (by decide),hla] at e;cases e
         ·rw [getD_set (by rw [hsz];decide),if_pos rfl] at e;cases e
        have hK : ∀ j u,listed.getD j false=true→StPutR V w0 base vl ⟨n,t⟩ s' j u w1→StPutR V w0 base vl ⟨n,t⟩ s' j u (w1.setCell ⟨p,0,none⟩ (.slice A2 s'.length c2)):=fun j u _ hju=>StPutR.far hju hf1 (fun q hq _ hm=>by
         simp only [List.mem_singleton] at hm
         injection hm with hm
         have:=hD.out.lt
         omega) (fun hj k hk hm=>by
         rw [hj] at hju
         simp only [List.mem_singleton] at hm
         injection hm with hm
         rw [hm] at hk
         exact (StPutR.insAt hju).2.ne hD.out.lt hD.out.ne hk)
        refine step_wp rfl rfl ?_
        clear hi ho hL hin hc hown2 hnw2 hown3 hvp e1 hform
        refine wp_skip (w':=w1.setCell ⟨p,0,none⟩ (.slice A2 s'.length c2)) ?_ ⟨_,rfl,StPutR.mk (by decide) v13.symm,hH undef,hK⟩
        clear hH hK v0 v1 v2 v3 v4 v5 v6 v7 v8 v11 v12 v13
        unfold execOp
        go_simp
      | (n+14),ho=>exact absurd hin (by simp)
     ·intro a w1 listed hL hall
      have hc:=hL.cls
      obtain ⟨vs,rfl,hR⟩:=hL.frame (by kernel_rfl) (sizes_spec (n:=46) (by kernel_rfl)) hall
      simp only [putAll,Act.put,List.setIfInBounds_toArray,List.set_cons_zero,List.set_cons_succ]
      simp only [Nat.zero_add,Nat.reduceAdd]
      obtain ⟨v',hp9,hown9,hnw9,hfar9⟩:=hc.c_ (hall 13 (by decide))
      clear hR hc hL
      have hgIn:some gI ∉ [some p,vl.ownBlock]:=fun hm=>by
       rcases List.mem_cons.1 hm with h1 | h1
       ·injection h1 with h1
        omega
       ·have h2:=hlv0 gI (List.mem_singleton.1 h1).symm
        omega
      have hgZn:some w.heap.size ∉ [some p,vl.ownBlock]:=fun hm=>by
       rcases List.mem_cons.1 hm with h1 | h1
       ·injection h1 with h1
        omega
       ·have h2:=hlv0 w.heap.size (List.mem_singleton.1 h1).symm
        omega
      have ld9:=hldn w1 gI (hfar9.blk hI5 hgIn)
      have z9:=hfar9.blk z5 hgZn
      go_wp2_with (first
       | (refine wpList_store_row rfl 35 (.tmp 4) (.tmp 45) rfl w.heap.size (u8s n) rfl rfl _ _ z9 (hsz _ hN32) hZ32' hNone ?_))
      refine bodyPost_ret (results_row_tmp rfl _ _ w.heap.size _ _ _ _ rfl (setRow_heap _ _ _ _ _ _ z9) Tryz.underlying35 rfl (hsz _ hN32)) rfl ⟨rfl,?_⟩
      have hf10:Far [some w.heap.size] w1 (w1.setRow w.heap.size (u8s n)):=⟨rfl,rfl,rfl,by simp,fun k _ hk=>setRow_other _ _ _ _ (fun e=>hk (by rw [e];simp))⟩
      have hne1:some p ∉ [some w.heap.size]:=fun hm=>by
       have:=List.mem_singleton.1 hm
       injection this with this
       omega
      have hne2 : ∀ k,v'.ownBlock=some k→some k ∉ [some w.heap.size]:=fun k hk hm=>by
       have h1:=List.mem_singleton.1 hm
       injection h1 with h1
       subst h1
       rcases hnw9 with h2 | h2
       ·have:=hlv0 _ (h2.symm.trans hk)
        omega
       ·have:=h2 _ hk
        have:=z5.lt
        omega
      refine ⟨v',⟨hf10.blk hp9 hne1,hf10.own hown9 hne2,hokP⟩,?_,?_⟩
      ·exact ((Far.of_below b5).then_ hfar9 (fun k hk => .inl hk)).then_ hf10 (fun k hk => .inr (by
        have:=List.mem_singleton.1 hk
        injection this with this
        omega))
      ·rcases hnw9 with h2 | h2
       ·exact .inl h2
       ·exact .inr fun k hk=>Nat.le_trans b5.size (h2 k hk)
end Go.Proofs.YtfdfoplmijmnaaaGreatDoor
namespace Go.Proofs.YtfdfoplmijmnaaaGreatDoor
open Go.RowKit
attribute [local go_sem ↓] ldvI_eq ldvS_eq
end Go.Proofs.YtfdfoplmijmnaaaGreatDoor
namespace Go.Proofs.YtfdfoplmijmnaaaGreatDoor
open Go.RowKit
attribute [local go_sem ↓] ldvI_eq ldvS_eq
/-- A store that is put together out of the document's. -/
def OfR (w:World) (L:List StL) (e:Ending) (w':World):Prop := ∃ p vl,e = .returned (.pointer (some ⟨p,0,none⟩))∧w.heap.size≤p∧StoAt w' w.heap.size p vl L
set_option maxRecDepth 100000 in
set_option maxHeartbeats 8000000 in
theorem of_calls11 {w:World} {vm:Value} {es:List DiL} (hm:DocSt w vm es) (hf:es.length<490000) (hK:TabK w) :
 Calls Tryz.prog 24 #[.agg #[vm]] w fun e w'=>OfR w (es.map (·.st)) e w'∧Below w.heap.size w w':=by
 obtain ⟨W1,hW1⟩ : ∃ W1,w.alloc (.cells #[vm] 30)=W1:=⟨_,rfl⟩
 have s1:Blk W1 w.heap.size 30 #[vm]:=by rw [←hW1];exact Blk.new _ _ _
 have b1:Below w.heap.size w W1:=by rw [←hW1];exact (Below.refl _ _).alloc (Nat.le_refl _) _
 have hlt0:=s1.lt
 have hnw:=Lib.hid (stoNew_calls W1)
 have hzI:=zeroIdV
 have hZ32:(u8s noId).size=32:=by rw [u8s_size,noId_len]
 have hok:=hm.ok
 have heach:=hm.each
 have hmat:=hm.at_
 obtain ⟨L,hL⟩ : ∃ L,es.map (·.st)=L:=⟨_,rfl⟩
 have hLl:L.length=es.length:=by rw [←hL,List.length_map]
 rw [hL] at hok
 have hLk : ∀ (k:Nat) (x:DiL),es[k]?=some x→L[k]?=some x.st:=fun k x hx=>by rw [←hL,List.getElem?_map,hx];rfl
 rw [hL]
 have hLl:=Lib.hid hLl
 have hLk:=Lib.hid hLk
 obtain ⟨A,cap,rfl,hcap1,hcap2,hat⟩:=hmat
 clear hL
 go_enter Tryz.func24,Tryz.ntmps24
 go_wp2_with (first
  | ((with_reducible refine hnw.out.mono ?_);rintro e w2 ⟨rfl,s2,b12⟩))
 have hpl:W1.heap.size<w2.heap.size:=s2.lt
 go_loopw [4] (fun vi wr => ∃ (k:Nat) (vl:Value),vi = .int .i64 k∧k≤es.length∧StoAt wr W1.heap.size W1.heap.size vl (L.take k)∧Below W1.heap.size W1 wr) (fun vi _=>es.length-(intOf vi).toNat)
 case atStart=>exact ⟨0,_,rfl,by omega,by rw [List.take_zero];exact s2,b12⟩
 case round=>
  obtain ⟨k,vl,rfl,hk,hS,hbel⟩:=hrel
  have hbr:=bthen b1 b1.size hbel
  have cr:wr.cell? ⟨w.heap.size,0,none⟩=some (.slice A es.length cap):=(s1.below hbel hlt0).cell 0
  by_cases hlt:k<es.length
  ·have hki:(k:Int)<(es.length:Int):=by omega
   obtain ⟨ga,oa,rfl,hga,hca⟩:=hat (by omega)
   obtain ⟨x,hx⟩ : ∃ x,es[k]?=some x:=⟨_,List.getElem?_eq_getElem hlt⟩
   have hxm:=List.mem_of_getElem? hx
   have hxo:=heach x hxm
   have hxi:=hxo.id
   have hLx:=hLk.out k x hx
   have hIs:=hok.each x.st (List.mem_of_getElem? hLx)
   have htx:=dit_text (rangeAt_below (hca k x hx) hga hbr) hxi
   have hKr:=hK.below hbr
   have htl:=(decO_len hxo.dec).2
   have htk:(L.take k).length<500000:=by have:=hLl.out;rw [List.length_take];omega
   have hpt:=stoPut_calls hbel.size hS x.st.text (by omega) hKr htk
   rw [hIs.putI,hIs.putC,putS_rise hok hLx] at hpt
   have hpt:=Lib.hid hpt
   have hid32:(u8s x.st.id).size=32:=by rw [u8s_size,hxi]
   have hid1:=u8s_one x.st.id
   have heq:=fun W=>run_neq_id W x.st.id x.st.id hxi hxi
   simp only [decide_true,Bool.not_true] at heq
   have hxr:=dit_id (hca k x hx)
   clear hx hat hca heach hLx hIs htk hLk hxo hxm
   go_upto_region 8 with (first
    | ((with_reducible refine hpt.out.mono ?_);rintro e w3 ⟨rfl,vl3,s3,f3,n3⟩
       have hS3 : ∀ k,some k∈[some W1.heap.size,vl.ownBlock]→W1.heap.size≤k:=fun k hk=>by
        simp only [List.mem_cons,List.not_mem_nil,or_false] at hk
        rcases hk with hk | hk
        ·injection hk with hk;omega
        ·exact (World.ownsRow.lt hS.own k hk.symm).1
       have b3:Below W1.heap.size W1 w3:=hbel.trans (f3.below hbel.size hS3))
    | ((with_reducible refine lit_new 35 (.tmp 5) (.tmp 26) (u8s x.st.id) 32 sz32 hid32 hid1 _ ?_ ?_ ?_ ?_)
       ·first | exact hZ32 | rfl
       ·rfl
       ·rfl
       intro W4 i4 hbl4
       have b4:=bthen b3 b3.size hbl4
       have s4:=s3.below hbl4))
   have fI:=fun W (hW:Below W4.heap.size W4 W)=>run_ldvI_at (range_blk (i4.below hW i4.lt)) hxi
   have fX:=fun W (hW:Below W4.heap.size W4 W)=>run_ldvI_at (rangeAt_below hxr hga (bthen b1 b1.size (bthen b4 b4.size hW))) hxi
   have fC : ∀ W,Below W4.heap.size W4 W→W.cell? ⟨w.heap.size,0,none⟩=some (.slice (some ⟨ga,oa,none⟩) es.length cap):=fun W hW=>(s1.below (bthen b4 b4.size hW) hlt0).cell 0
   go_wp2
   refine wp_region_go0 12 (by kernel_rfl) (by kernel_rfl) (by kernel_rfl) (by kernel_rfl) ?_
   simp only [exSp]
   iterate 12 apply Exists.intro
   repeat
    first
     | ((with_reducible apply lx0_ex)
        ·(go_simp;done)
        apply Exists.intro
        apply And.intro
        ·apply Eq.refl
        apply And.intro
        ·intro W hW hD
         have q0:=fI W hW
         have q1:=fX W hW
         have q2:=fC W hW
         have q4:=heq W
         go_simp
         rfl
        simp only [Act.put,List.setIfInBounds_toArray,List.set_cons_zero,List.set_cons_succ])
     | ((with_reducible apply lx0_pass)
        ·(first | rfl | (go_simp;done))
        ·apply Eq.refl
        simp only [Act.put,List.setIfInBounds_toArray,List.set_cons_zero,List.set_cons_succ])
   refine lx0_nil ?_ fun w5 hW5 hD5=>?_
   ·exact List.nodup_nil
   have b5:=bthen b4 b4.size hW5
   have s5:=s4.below hW5
   go_wp2
   go_roundw
   case rel=>exact ⟨k+1,_,by go_num,by omega,s5,b5⟩
   case measure=>simp [intOf];omega
  ·have hki : ¬ (k:Int)<(es.length:Int):=by omega
   obtain rfl:k=es.length:=by omega
   rw [←hLl.out,List.take_length] at hS
   clear hat heach hLk
   go_wp2
   go_ret
   exact ⟨⟨_,vl,rfl,Nat.le_of_lt hlt0,hS.blk,own_down hS.own (Nat.le_of_lt hlt0),hS.ok⟩,hbr⟩
end Go.Proofs.YtfdfoplmijmnaaaGreatDoor
namespace Go.Proofs.YtfdfoplmijmnaaaGreatDoor
open Go.RowKit
attribute [local go_sem ↓] ldvI_eq ldvS_eq
def OfR14 (vr vs:Value) (L:List StL) (e:Ending) (w':World):Prop := ∃ base p vl,e = .returned (.tuple #[.agg #[.pointer (some ⟨p,0,none⟩),vr,vs], .bool true])∧StoAt w' base p vl L
set_option maxRecDepth 100000 in
set_option maxHeartbeats 4000000 in
theorem of14_calls {w:World} {vm:Value} {es:List DiL} (hD:DocSt w vm es) (hf:es.length<490000) (hK:TabK w) (Ar As:Option Addr) (nr ns cr cs:Nat) :
 Calls Tryz.prog 9 #[.agg #[vm, .slice Ar nr cr, .slice As ns cs]] w fun e w'=>OfR14 (.slice Ar nr cr) (.slice As ns cs) (es.map (·.st)) e w'∧Below w.heap.size w w':=by
 obtain ⟨W1,hW1⟩ : ∃ W1,w.alloc (.cells #[vm, .slice Ar nr cr, .slice As ns cs] 41)=W1:=⟨_,rfl⟩
 have s1:Blk W1 w.heap.size 41 #[vm, .slice Ar nr cr, .slice As ns cs]:=by rw [←hW1];exact Blk.new _ _ _
 have b1:Below w.heap.size w W1:=by rw [←hW1];exact (Below.refl _ _).alloc (Nat.le_refl _) _
 obtain ⟨W2,hW2⟩ : ∃ W2,W1.alloc (.cells #[.pointer none, .slice none 0 0, .slice none 0 0] 44)=W2:=⟨_,rfl⟩
 have r2:Blk W2 W1.heap.size 44 #[.pointer none, .slice none 0 0, .slice none 0 0]:=by rw [←hW2];exact Blk.new _ _ _
 have bb2:Below W1.heap.size W1 W2:=by rw [←hW2];exact (Below.refl _ _).alloc (Nat.le_refl _) _
 have b2:=bthen b1 b1.size bb2
 have s2:=s1.below bb2 s1.lt
 have hle1:w.heap.size≤W1.heap.size:=b1.size
 have c1 : ∀ W,Below W2.heap.size W2 W→W.cell? ⟨w.heap.size,1,none⟩=some (.slice Ar nr cr):=fun W hW=>(s2.below hW s2.lt).cell 1
 have c2 : ∀ W,Below W2.heap.size W2 W→W.cell? ⟨w.heap.size,2,none⟩=some (.slice As ns cs):=fun W hW=>(s2.below hW s2.lt).cell 2
 have e0:(ldvS ⟨w.heap.size,0,none⟩).run Tryz.prog W2 = .ok (.agg #[vm]) W2:=run_ldvS_at fun j u hu=>by
  have:=s2.cell 0
  cases j with
  | zero=>rw [Nat.add_zero,this];exact hu
  | succ j=>simp at hu
 have hof:=Lib.hid (of_calls11 (hD.below b2) hf (hK.below b2))
 clear hD hK s1 s2
 go_enter Tryz.func9,Tryz.ntmps9
 go_wp2_with (first
  | ((with_reducible refine hof.out.mono ?_);rintro e w3 ⟨⟨p,vl,rfl,hp,hS3⟩,hb3⟩
     have d1:=c1 w3 hb3
     have d2:=c2 w3 hb3
     have r3:=r2.below hb3 r2.lt
     have hnr:=own_blk_ne hS3.own r3 (by decide))
  | (refine wpList_store_row rfl 44 (.tmp 2) (.tmp 13) rfl W1.heap.size #[.pointer (some ⟨p,0,none⟩), .slice Ar nr cr, .slice As ns cs] rfl rfl _ _ r3 (by kernel_rfl) rfl (by simp [Value.oneCell']) ?_))
 have hS4:=fun cs=>(⟨keep_row hS3.blk (by have:=r2.lt;omega) cs,own_row hS3.own r2.lt cs,hS3.ok⟩:StoAt (w3.setRow W1.heap.size cs) W2.heap.size p vl (es.map (·.st)))
 refine bodyPost_ret (results_row_tmp rfl _ _ W1.heap.size _ _ _ _ rfl (setRow_heap _ _ _ _ _ _ r3) Tryz.underlying44 rfl (by kernel_rfl)) rfl ⟨⟨_,p,vl,rfl,hS4 _⟩,below_setRow (bthen b2 b2.size hb3) hle1 _⟩
theorem Tryz.refTy14 : SliceTy Tryz.prog 26 37 (.agg (refC ⟨[],List.replicate 32 0⟩).toArray) 33 48:=⟨Tryz.underlying26,info_parts (by kernel_rfl),rfl,by omega⟩
def knT14 : Txt:=[3,35]++List.replicate 35 0
theorem kn_dec14 : ∃ o,decO knT14=some o∧o.kind=3∧linksL o=[⟨noId,2⟩]:=⟨_,rfl,rfl,rfl⟩
def knId : Txt:=1::List.replicate 31 0
def knBad : List RefL:=[⟨[98],knId⟩,⟨[97],knId⟩]
theorem kn_fine : fineL []=true:=by kernel_rfl
theorem kn_shal (S:List StL):shalB S []=true:=rfl
theorem kn_whole : wholeN [] [] []=0:=(wholeN_4 kn_fine (kn_shal _) rfl).trans rfl
theorem kn_bad (S:List StL) (sh:List Txt):wholeN S knBad sh=8:=wholeN_1 (by kernel_rfl)
theorem one_is {t:Txt} {o:ObjL} (ho:decO t=some o):StIs ⟨shaOf t,t⟩:=⟨rfl,o,ho⟩
theorem one_put {t:Txt} {o:ObjL} (ho:decO t=some o):putL11 [] [t]=[⟨shaOf t,t⟩]:=by
 show putS [] t=_
 rw [show t=(StL.text ⟨shaOf t,t⟩) from rfl,(one_is ho).putS]
 rfl
theorem one_alone {t:Txt} {o:ObjL} (ho:decO t=some o) (hk:o.kind=3) (hl:linksL o=[⟨noId,2⟩]):wholeN [⟨shaOf t,t⟩] [] []=7:=by
 generalize shaOf t=n
 have hg:getS [⟨n,t⟩] n=some ⟨n,t⟩:=by unfold getS;rw [List.find?_cons];simp
 have hobj:objS [⟨n,t⟩] n=some o:=objS_some hg ho
 refine wholeN_3 kn_fine (kn_shal _) ?_
 show ((rightS [⟨n,t⟩] [] n)&&true)=false
 rw [Bool.and_true,right_some hobj]
 have hc:cutO [] n o=o:=by unfold cutO;rw [if_neg (by simp [inL])]
 rw [hc,hl]
 show (okL [⟨n,t⟩] ⟨noId,2⟩&&true)=false
 rw [Bool.and_true]
 have hkk:kindS [⟨n,t⟩] noId=3∨kindS [⟨n,t⟩] noId=0:=by
  unfold kindS getS
  rw [List.find?_cons]
  cases hb:((⟨n,t⟩:StL).id==noId) with
  | true=>left;simp only [ho,hk]
  | false=>right;rfl
 unfold okL
 rcases hkk with h | h<;>rw [h]<;>rfl
theorem slice_one {W:World} {g:Nat} {t:Txt} (h:Blk W g 9 #[.string (B t)]):SliceAt W 1 txC (.slice (some ⟨g,0,none⟩) 1 1) [t]:=by
 refine ⟨_,1,rfl,by simp,by decide,fun _=>⟨g,0,rfl,h.lt,fun i x hx j u hu=>?_⟩⟩
 have hi:i=0:=by
  have:=(List.getElem?_eq_some_iff.1 hx).1
  simp at this
  exact this
 subst hi
 injection hx with hx
 subst hx
 have hj:j=0:=by
  have:=(List.getElem?_eq_some_iff.1 hu).1
  simp [txC] at this
  exact this
 subst hj
 injection hu with hu
 subst hu
 exact h.cell 0
/-- A slice that was just laid. -/
def sl1F (T:TypeId) (n:Nat) (cs:Array Value) (v:Value) (F:Foot) (w:World):Prop := ∃ g,v = .slice (some ⟨g,0,none⟩) n n∧F g∧Blk w g T cs
theorem sl1F_stab (T:TypeId) (n:Nat) (cs:Array Value) (v:Value):Stab (sl1F T n cs v):=fun _ _ _ _ hf ha ⟨g,h1,h2,h3⟩=>⟨g,h1,hf g h2,(ha.same g h3.lt h2).trans h3⟩
/-- A document's store that was just told. -/
def docF (L:List StL) (v:Value) (F:Foot) (w:World):Prop := ∃ vm es,v = .agg #[vm]∧DocSt w vm es∧es.map (·.st)=L ∧ ∀ k,DocUse vm es k→F k
theorem docF_stab (L:List StL) (v:Value):Stab (docF L v):=fun _ _ _ _ hf ha ⟨vm,es,h1,h2,h3,h4⟩=>⟨vm,es,h1,h2.same fun k hk=>ha.same k (h2.lt hk) (h4 k hk),h3,fun k hk=>hf k (h4 k hk)⟩
/-- A store of ours that was just told. -/
def stoF (L:List StL) (v:Value) (F:Foot) (w:World):Prop := ∃ base p vl,v = .pointer (some ⟨p,0,none⟩)∧StoAt w base p vl L∧F p ∧ ∀ k,vl.ownBlock=some k→F k
theorem stoF_stab (L:List StL) (v:Value):Stab (stoF L v):=fun _ _ _ _ hf ha ⟨base,p,vl,h1,h2,h3,h4⟩=>⟨base,p,vl,h1,⟨(ha.same p h2.lt h3).trans h2.blk,own_same h2.own fun k hk=>ha.same k (World.ownsRow.lt h2.own k hk).2 (h4 k hk),h2.ok⟩,hf p h3,fun k hk=>hf k (h4 k hk)⟩
theorem refs_two {W:World} {g:Nat} {r1 r2:RefL} (h1:(refC r1).length=33) (h2:(refC r2).length=33) (hb:Blk W g 37 ((refC r1).toArray++(refC r2).toArray)):Refs W (.slice (some ⟨g,0,none⟩) 2 2) [r1,r2]:=by
 refine ⟨_,2,rfl,by simp,by decide,fun _=>⟨g,0,rfl,hb.lt,fun i x hx j u hu=>?_⟩⟩
 have hi:i=0∨i=1:=by
  have:=(List.getElem?_eq_some_iff.1 hx).1
  simp at this
  omega
 have hju:=(List.getElem?_eq_some_iff.1 hu).1
 rw [hb.cell]
 rcases hi with rfl | rfl
 ·injection hx with hx
  subst hx
  rw [Array.getElem?_append_left (by rw [List.size_toArray];omega)]
  simpa using hu
 ·injection hx with hx
  subst hx
  rw [Array.getElem?_append_right (by rw [List.size_toArray];omega),List.size_toArray,h1]
  rw [show 0+1*33+j-33=j from by omega]
  simpa using hu
theorem built_repo1 (q:Nat):Tryz.prog.built 44 [(0, .pointer (some ⟨q,0,none⟩))]=some #[.pointer (some ⟨q,0,none⟩), .slice none 0 0, .slice none 0 0]:=by kernel_rfl
theorem built_repo2 (q g n:Nat):Tryz.prog.built 44 [(0, .pointer (some ⟨q,0,none⟩)),(1, .slice (some ⟨g,0,none⟩) n n)]=some #[.pointer (some ⟨q,0,none⟩), .slice (some ⟨g,0,none⟩) n n, .slice none 0 0]:=by kernel_rfl
theorem built_kn : Tryz.prog.built 35 [(0, .int .u8 1)]=some (u8s knId):=by kernel_rfl
theorem built_knr (c:UInt8):Tryz.prog.built 37 [(0, .string ⟨#[c]⟩),(1, .agg (u8s knId))]=some (refC ⟨[c],knId⟩).toArray:=by kernel_rfl
theorem use_nil (k:Nat) : ¬ DocUse (.slice none 0 0) [] k:=by
 rintro (h | ⟨e,he,_⟩)
 ·simp [Value.ownBlock] at h
 ·simp at he
set_option maxRecDepth 100000 in
set_option maxHeartbeats 8000000 in
theorem knows_calls14 (w:World) (hK:TabK w):Calls Tryz.prog 6 #[] w fun e w'=>e = .returned (.bool true)∧Below w.heap.size w w':=by
 have hbS:Tryz.prog.built 30 []=some #[.slice none 0 0]:=by kernel_rfl
 have hrb:=fun W=>run_build (P:=Tryz.prog) W _ _ _ hbS
 have hS0:(#[Value.slice none 0 0]:Array Value).size=1:=rfl
 have hS1:(#[Value.slice none 0 0]:Array Value).all (·.oneCell')=true:=by kernel_rfl
 go_enter Tryz.func6,Tryz.ntmps6
 go_upto_region 2 with (first
  | ((with_reducible refine lit_new 30 (.tmp 1) (.tmp 4) #[.slice none 0 0] 1 szDSt hS0 hS1 _ ?_ ?_ ?_ ?_)
     ·first | exact hS0 | rfl
     ·rfl
     ·rfl
     intro W1 hb1 hbl1))
 have lS : ∀ W,Below W1.heap.size W1 W→(ldvS ⟨w.heap.size,0,none⟩).run Tryz.prog W = .ok (.agg #[.slice none 0 0]) W:=fun W hW=>run_ldvS (hb1.below hW hb1.lt)
 have hcells:madeCells (Value.int .u8 0).cells ((35:Int).toNat*1)=u8s (List.replicate 35 0):=by kernel_rfl
 have hmk : ∀ W:World,(Instr.makeSlice 23 (.int .i64 35) (.int .i64 35)).run Tryz.prog W = .ok (.slice (some ⟨W.heap.size,0,none⟩) 35 35) (W.alloc (.cells (u8s (List.replicate 35 0)) 5)):=fun W=>by
  obtain ⟨it,h1,h2,h3,h4⟩:=info_parts (P:=Tryz.prog) (e:=5) (z := .int .u8 0) (size:=1) (bytes:=1) (by kernel_rfl)
  have:=run_makeSlice (P:=Tryz.prog) W 23 5 it (.int .u8 0) Tryz.underlying23 h1 h2 .i64 .i64 35 35 (by omega) (by omega) (by rw [h3];decide) (by rw [h4];decide) (by decide)
  rw [h3,hcells] at this
  exact this
 have hcv : ∀ W g,Blk W g 5 (u8s (List.replicate 35 0))→(convert 23 9 (.slice (some ⟨g,0,none⟩) 35 35)).run Tryz.prog W = .ok (.string (B (List.replicate 35 0))) W:=fun W g h=>str_of_blk W h
 have hT:knT14=3::35::List.replicate 35 0:=rfl
 obtain ⟨o,ho,hk,hl⟩:=kn_dec14
 have hput:=one_put ho
 have hal:=one_alone ho hk hl
 have hlen:knT14.length≤5000:=by decide
 rw [hT] at hput hal hlen
 clear hcells hT hrb
 have hzl : ¬ 9223372036854775807<2+(List.replicate 35 (0:UInt8)).length:=by simp
 generalize List.replicate 35 (0:UInt8)=ZT at *
 have hDe : ∀ W,DocSt W (.slice none 0 0) []:=fun W=>⟨World.ownsRow_nil _ _ _ _,fun e he=>by simp at he,StoOk.nil⟩
 have hAll : ∀ (W:World) (g:Nat),Blk W g 9 #[.string (B (3::35::ZT))]→Calls Tryz.prog 18 #[.agg #[.slice none 0 0], .slice (some ⟨g,0,none⟩) 1 1] W fun e w'=>AllR W.heap.size (.slice none 0 0) [] [⟨shaOf (3::35::ZT),3::35::ZT⟩] e w'∧Below W.heap.size W w':=fun W g hb=>by
  have:=docAll_calls (hDe W) [3::35::ZT] (by simpa using hlen) (by simp) _ (slice_one hb)
  rwa [show ([]:List DiL).map (·.st)=[] from rfl,hput] at this
 obtain ⟨L,hL⟩ : ∃ L:List StL,[⟨shaOf (3::35::ZT),3::35::ZT⟩]=L:=⟨_,rfl⟩
 have hLl:L.length=1:=by rw [←hL];rfl
 simp only [hL] at hAll hal
 clear hL hput hlen hDe
 refine wp_region_go0 8 (by kernel_rfl) (by kernel_rfl) (by kernel_rfl) (by kernel_rfl) ?_
 simp only [exSp]
 iterate 8 apply Exists.intro
 repeat
  first
   | ((with_reducible apply lx0_ex)
      ·(go_simp;done)
      apply Exists.intro
      apply And.intro
      ·apply Eq.refl
      apply And.intro
      ·intro W hW hD
       have q0:=lS W hW
       first
        | (go_simp
           rfl)
        | (obtain ⟨F,g,rfl,_,hb⟩:=hD.at 0 rfl (by kernel_rfl)
           have q1:=hcv W g hb
           go_simp
           rfl)
      simp only [Act.put,List.setIfInBounds_toArray,List.set_cons_zero,List.set_cons_succ])
   | ((with_reducible apply lx0_pass)
      ·(first | rfl | (go_simp;done))
      ·apply Eq.refl
      simp only [Act.put,List.setIfInBounds_toArray,List.set_cons_zero,List.set_cons_succ])
   | ((with_reducible refine lx0_new (sl1F 5 35 (u8s ZT)) rfl ?_ (sl1F_stab _ _ _) ?_ ?_)
      ·(go_simp;done)
      ·intro W hW hD
       refine does_val (v := .slice (some ⟨W.heap.size,0,none⟩) 35 35) (w':=W.alloc (.cells (u8s ZT) 5)) ?_ ?_
       ·have q:=hmk W
        unfold execOp
        go_simp
        done
       exact ⟨(Below.refl _ _).alloc (Nat.le_refl _) _,fun F f1 f2 f3=>⟨W.heap.size,rfl,f3 _ (Nat.le_refl _) (by rw [size_alloc'];omega),Blk.new _ _ _⟩⟩
      intro v
      simp only [Act.put,List.setIfInBounds_toArray,List.set_cons_zero,List.set_cons_succ])
   | ((with_reducible refine lx0_new (sl1F 9 1 #[.string (B (3::35::ZT))]) rfl ?_ (sl1F_stab _ _ _) ?_ ?_)
      ·(go_simp;done)
      ·intro W hW hD
       unfold doesAt Oper.wp execOp
       go_simp
       exact ⟨(Below.refl _ _).alloc (Nat.le_refl _) _,fun F f1 f2 f3=>⟨W.heap.size,rfl,f3 _ (Nat.le_refl _) (by rw [size_alloc'];omega),Blk.new _ _ _⟩⟩
      intro v
      simp only [Act.put,List.setIfInBounds_toArray,List.set_cons_zero,List.set_cons_succ])
   | ((with_reducible refine lx0_new (docF L) rfl ?_ (docF_stab _) ?_ ?_)
      ·(go_simp;done)
      ·intro W hW hD
       obtain ⟨F,g,rfl,_,hb⟩:=hD.at 0 rfl (by kernel_rfl)
       have hc:=hAll W g hb
       unfold doesAt Oper.wp execOp
       go_simp
       refine hc.mono ?_
       rintro e w' ⟨⟨vm7,es7,rfl,D7,hm7,hu7⟩,hb7⟩
       exact ⟨hb7,fun F f1 f2 f3=>⟨vm7,es7,rfl,D7,hm7,fun k hk=>by
        rcases hu7 k hk with h | h
        ·exact absurd h (use_nil k)
        ·exact f3 k h (D7.lt hk)⟩⟩
      intro v
      simp only [Act.put,List.setIfInBounds_toArray,List.set_cons_zero,List.set_cons_succ])
   | ((with_reducible refine lx0_new (stoF L) rfl ?_ (stoF_stab _) ?_ ?_)
      ·(go_simp;done)
      ·intro W hW hD
       obtain ⟨F,vm7,es7,rfl,D7,hm7,_⟩:=hD.at 0 rfl (by kernel_rfl)
       have h17:es7.length<490000:=by have:=congrArg List.length hm7;rw [List.length_map,hLl] at this;omega
       have hc:=of_calls11 D7 h17 (hK.below (bthen hbl1 hbl1.size hW))
       rw [hm7] at hc
       unfold doesAt Oper.wp execOp
       go_simp
       refine hc.mono ?_
       rintro e w' ⟨⟨p,vl,rfl,hp,hS⟩,hb7⟩
       exact ⟨hb7,fun F f1 f2 f3=>⟨_,p,vl,rfl,hS,f3 p hp hS.lt,fun k hk=>f3 k (World.ownsRow.lt hS.own k hk).1 (World.ownsRow.lt hS.own k hk).2⟩⟩
      intro v
      simp only [Act.put,List.setIfInBounds_toArray,List.set_cons_zero,List.set_cons_succ])
   | (first | (with_reducible apply lx_move') | (with_reducible apply lx_assign')
      ·apply Eq.refl
      apply Exists.intro
      apply And.intro
      ·(go_simp;rfl)
      simp only [Act.put,List.setIfInBounds_toArray,List.set_cons_zero,List.set_cons_succ])
 refine lx0_nil ?_ fun w8 hW8 hD8=>?_
 ·exact List.nodup_nil
 obtain ⟨_,base,p,vl,rfl,hS8,_⟩:=hD8 _ (.head _)
 clear hD8 hmk hcv hAll lS hzl
 have b8:=bthen hbl1 hbl1.size hW8
 obtain ⟨K1,hK1⟩ : ∃ K1,u8s knId=K1:=⟨_,rfl⟩
 have q1:=built_kn
 have q2:=built_knr 98
 have q3:=built_knr 97
 rw [hK1] at q1 q2 q3
 have r33 : ∀ c:UInt8,(refC ⟨[c],knId⟩).length=33:=fun c=>rfl
 obtain ⟨R1,hR1⟩ : ∃ R1:RefL,R1=⟨[98],knId⟩:=⟨_,rfl⟩
 obtain ⟨R2,hR2⟩ : ∃ R2:RefL,R2=⟨[97],knId⟩:=⟨_,rfl⟩
 rw [←hR1] at q2
 rw [←hR2] at q3
 have s1:(refC R1).toArray.size=33:=by rw [hR1];rfl
 have s2:(refC R2).toArray.size=33:=by rw [hR2];rfl
 have hbad:Hid (∀ S sh,wholeN S [R1,R2] sh=8):=Lib.hid fun S sh=>by rw [hR1,hR2];exact kn_bad S sh
 have hbok:Hid (RefsOk [R1,R2]):=Lib.hid (by
  rw [hR1,hR2]
  intro r hr
  rcases List.mem_cons.1 hr with rfl | hr
  ·exact ⟨rfl,by decide⟩
  ·rw [List.mem_singleton.1 hr];exact ⟨rfl,by decide⟩)
 have hrefs:=fun W g (h:Blk W g 37 ((refC R1).toArray++(refC R2).toArray))=>refs_two (by rw [hR1];rfl) (by rw [hR2];rfl) h
 clear hK1 hR1 hR2 r33
 obtain ⟨C1,hC1⟩ : ∃ C1,(refC R1).toArray=C1:=⟨_,rfl⟩
 obtain ⟨C2,hC2⟩ : ∃ C2,(refC R2).toArray=C2:=⟨_,rfl⟩
 rw [hC1] at q2 s1
 rw [hC2] at q3 s2
 simp only [hC1,hC2] at hrefs
 clear hC1 hC2
 have hone:=Lib.hid hal
 have hzero:=Lib.hid kn_whole
 obtain ⟨W9,hW9⟩ : ∃ W9,w8.alloc (.cells (C1++C2) 37)=W9:=⟨_,rfl⟩
 have hb9:Blk W9 w8.heap.size 37 (C1++C2):=by rw [←hW9];exact Blk.new _ _ _
 have hbl9:Below w8.heap.size w8 W9:=by rw [←hW9];exact (Below.refl _ _).alloc (Nat.le_refl _) _
 have b9:=bthen b8 b8.size hbl9
 have hS9:=hS8.below hbl9
 have hr9:=hrefs W9 _ hb9
 have hnw:=Lib.hid (stoNew_calls W9)
 clear hal hrefs hb9
 have rp1:=built_repo1
 have rp2:=built_repo2 p w8.heap.size 2
 have rpp:=built_repo1 p
 have rpn:=built_repo1 W9.heap.size
 clear rp1
 have hL1:(L.length:Int)=1:=by omega
 have hlen9:=fun W (hW:Below W9.heap.size W9 W)=>Lib.hid ((stoLen_calls (hS9.below hW)).mono fun e w' (h:e = .returned (.int .i64 L.length)∧w'=W)=>(⟨by rw [h.1,hL1],h.2▸Below.refl _ _⟩:e = .returned (.int .i64 1)∧Below W.heap.size W w'))
 have hwh2:=fun W (hW:Below W9.heap.size W9 W)=>Lib.hid (chkWhole_calls (hS9.below hW) [] (fun r h=>by simp at h) [] (fun x h=>by simp at h) (.slice none 0 0) (.slice none 0 0) SliceAt.nil SliceAt.nil)
 have hwh3:=fun W (hW:Below W9.heap.size W9 W)=>Lib.hid (chkWhole_calls (hS9.below hW) [R1,R2] hbok.out [] (fun x h=>by simp at h) (.slice (some ⟨w8.heap.size,0,none⟩) 2 2) (.slice none 0 0) (hr9.below hW) SliceAt.nil)
 simp only [hone.out] at hwh2
 simp only [hbad.out] at hwh3
 clear hLl hL1 hone hbad hbok
 go_wp2_with (first
  | ((with_reducible refine lit_build1 q1 ?_ ?_);rfl)
  | ((with_reducible refine lit_build2 q2 ?_ ?_ ?_);rfl;rfl)
  | ((with_reducible refine lit_build2 q3 ?_ ?_ ?_);rfl;rfl)
  | ((with_reducible refine lit_slice2 (.tmp 15) (.tmp 17) Tryz.refTy14 C1 C2 s1 s2 (by omega) ?_ ?_ ?_);rfl;rfl;rw [hW9])
  | ((with_reducible refine hnw.out.mono ?_);rintro e w11 ⟨rfl,hS11,hb11⟩
     have hw1:=Lib.hid (chkWhole_calls hS11 [] (fun r h=>by simp at h) [] (fun x h=>by simp at h) (.slice none 0 0) (.slice none 0 0) SliceAt.nil SliceAt.nil)
     rw [hzero.out] at hw1)
  | ((with_reducible refine lit_build1 rpn ?_ ?_);rfl)
  | ((with_reducible refine hw1.out.mono ?_);rintro e w12 ⟨rfl,hb12⟩
     have c12:=bthen hb11 hb11.size hb12
     have hl12:=hlen9 w12 c12)
  | ((with_reducible refine hl12.out.mono ?_);rintro e w13 ⟨rfl,hb13⟩
     have c13:=bthen c12 c12.size hb13
     have hw2:=hwh2 w13 c13)
  | ((with_reducible refine lit_build1 rpp ?_ ?_);rfl)
  | ((with_reducible refine hw2.out.mono ?_);rintro e w14 ⟨rfl,hb14⟩
     have c14:=bthen c13 c13.size hb14
     have hw3:=hwh3 w14 c14)
  | ((with_reducible refine lit_build2 rp2 ?_ ?_ ?_);rfl;rfl)
  | ((with_reducible refine hw3.out.mono ?_);rintro e w15 ⟨rfl,hb15⟩))
 go_ret
 exact ⟨rfl,bthen b9 b9.size (bthen c14 c14.size hb15)⟩
end Go.Proofs.YtfdfoplmijmnaaaGreatDoor
namespace Go.Proofs.YtfdfoplmijmnaaaGreatDoor
open Go.ChangeShapes Go.WideShapes Go.ChangeAt Go.RowKit
structure HisL where
 seeds:List SdL
 out:Txt
 frm:Txt
 cut:Txt
structure HisOk (w:World) (vs vo vf vc:Value) (h:HisL):Prop where
 seeds:Seeds w vs h.seeds
 out:SliceAt w 1 byC vo h.out
 frm:SliceAt w 1 byC vf h.frm
 cut:SliceAt w 1 byC vc h.cut
theorem HisOk.below {w w':World} {vs vo vf vc:Value} {h:HisL} (hh:HisOk w vs vo vf vc h) (hb:Below w.heap.size w w'):HisOk w' vs vo vf vc h:=⟨hh.seeds.below hb,hh.out.below hb,hh.frm.below hb,hh.cut.below hb⟩
section
variable {H:Type} {enc:TypeId×Value→H} {w:World} {base:Nat} {sp:Nat→Bool} {held:Bool}
set_option maxRecDepth 200000 in
theorem open_his {base0:Nat} {v:Value} {d:DataW H} {p:List MemPlace} (hv:Value.okWide Tryz.prog w .any base0 25 v) (h0:DataW.Trod enc Tryz.prog w base sp held 25 v d p) : ∃ (vs vo vf vc:Value) (h:HisL),v = .agg #[vs,vo,vf,vc]∧HisOk w vs vo vf vc h:=by
 simp only [Value.okWide,Tryz.underlying25] at hv
 obtain ⟨cs0,rfl,hsz,_⟩:=hv
 obtain ⟨fuel,hf0⟩:=h0
 have h4:Tryz.prog.cellsOf 25=4:=by kernel_rfl
 have hl:cs0.toList.length=4:=by rw [Array.length_toList,hsz,h4]
 have hf1:DataW.trod enc Tryz.prog w base sp held fuel 25 cs0.toList=some (d,p):=hf0
 obtain ⟨cs,hcs⟩ : ∃ cs,cs0.toList=cs:=⟨_,rfl⟩
 rw [hcs] at hl hf1
 obtain ⟨ys,n',hn',hy,hlen,hyl,hf⟩:=DataW.trod_struct Tryz.underlying25 hf1
 have hyl:ys.length=4:=hyl
 have h0:=hf 0 _ rfl
 have h1:=hf 1 _ rfl
 have h2:=hf 2 _ rfl
 have h3:=hf 3 _ rfl
 rw [List.getElem?_eq_getElem (show 0<ys.length by omega)] at h0
 rw [List.getElem?_eq_getElem (show 1<ys.length by omega)] at h1
 rw [List.getElem?_eq_getElem (show 2<ys.length by omega)] at h2
 rw [List.getElem?_eq_getElem (show 3<ys.length by omega)] at h3
 have cU:Tryz.prog.cellsOf 5=1:=by kernel_rfl
 have cB:Tryz.prog.cellsOf 23=1:=by kernel_rfl
 have cS:Tryz.prog.cellsOf 22=1:=by kernel_rfl
 obtain ⟨v0,e0,t0⟩:=trod_slice_one (by
  show ((cs.drop 0).take (Tryz.prog.cellsOf 22)).length=1
  rw [cS,List.length_take,List.length_drop];omega) h0
 obtain ⟨v1,e1,t1⟩:=trod_slice_one (by
  show ((cs.drop 1).take (Tryz.prog.cellsOf 23)).length=1
  rw [cB,List.length_take,List.length_drop];omega) h1
 obtain ⟨v2,e2,t2⟩:=trod_slice_one (by
  show ((cs.drop 2).take (Tryz.prog.cellsOf 23)).length=1
  rw [cB,List.length_take,List.length_drop];omega) h2
 obtain ⟨v3,e3,t3⟩:=trod_slice_one (by
  show ((cs.drop 3).take (Tryz.prog.cellsOf 23)).length=1
  rw [cB,List.length_take,List.length_drop];omega) h3
 obtain ⟨l0,hl0,ho0⟩:=open_elems sdC 4 (by omega) (SdOk w) Tryz.underlying22 (by kernel_rfl) (fun y _=>rfl) elem_seed t0
 obtain ⟨l1,hl1,_⟩:=open_elems byC 1 (by omega) (fun _=>True) Tryz.underlying23 cU (fun y _=>rfl) elem_byte t1
 obtain ⟨l2,hl2,_⟩:=open_elems byC 1 (by omega) (fun _=>True) Tryz.underlying23 cU (fun y _=>rfl) elem_byte t2
 obtain ⟨l3,hl3,_⟩:=open_elems byC 1 (by omega) (fun _=>True) Tryz.underlying23 cU (fun y _=>rfl) elem_byte t3
 have e0':(cs.drop 0).take 1=[v0]:=by rw [←cS];exact e0
 have e1':(cs.drop 1).take 1=[v1]:=by rw [←cB];exact e1
 have e2':(cs.drop 2).take 1=[v2]:=by rw [←cB];exact e2
 have e3':(cs.drop 3).take 1=[v3]:=by rw [←cB];exact e3
 refine ⟨v0,v1,v2,v3,⟨l0,l1,l2,l3⟩,?_,⟨⟨hl0,ho0⟩,hl1,hl2,hl3⟩⟩
 have:=chain e0' (m:=1) rfl
 rw [List.drop_zero,chain e1' (m:=2) rfl,chain e2' (m:=3) rfl,chain e3' (m:=4) rfl,List.drop_of_length_le (by omega)] at this
 congr 1
 apply Array.ext'
 rw [hcs,this]
 rfl
end
end Go.Proofs.YtfdfoplmijmnaaaGreatDoor
namespace Go.Proofs.YtfdfoplmijmnaaaGreatDoor
open Go.RowKit
attribute [local go_sem ↓] ldvI_eq ldvS_eq
theorem built_one (c:UInt8):Tryz.prog.built 35 [(0, .int .u8 c.toNat)]=some (u8s (c::List.replicate 31 0)):=by kernel_rfl
/-- What Ids tells: as many ids as there are places. -/
def IdsR (w:World) (n:Nat) (e:Ending) (w':World):Prop := ∃ v r,e = .returned v∧OwnIds w' w.heap.size v r∧(∀ x∈r,x.length=32)∧r.length=n
set_option maxRecDepth 100000 in
set_option maxHeartbeats 4000000 in
theorem ids12_calls (all:List Txt) (haok : ∀ x∈all,x.length=32) (hal:all.length≤1000) (va:Value) (w:World) (hva:Ids w va all) (l:Txt) (hl1000:l.length≤1000) (vl:Value) (hvl:SliceAt w 1 byC vl l) :
 Calls Tryz.prog 8 #[va,vl] w fun e w'=>IdsR w l.length e w'∧Below w.heap.size w w':=by
 obtain ⟨A,cap,rfl,hcap1,hcap2,hat⟩:=hvl
 obtain ⟨Aa,ca,rfl,hca1,hca2,hata⟩:=hva
 go_enter Tryz.func8,Tryz.ntmps8
 go_wp2_with (fail)
 go_loopg [5,6] l.length (fun f vo vi wr => ∃ (k:Nat) (acc:List Txt),vi = .int .i64 k∧k+f=l.length∧OwnIds wr w.heap.size vo acc∧Hid ((∀ x∈acc,x.length=32)∧acc.length=k)∧Below w.heap.size w wr)
 case atStart=>exact ⟨0,[],rfl,by omega,World.ownsRow_nil _ _ _ _,Lib.hid ⟨fun x hx=>by simp at hx,rfl⟩,Below.refl _ _⟩
 case round=>
  obtain ⟨k,acc,rfl,hkf,hown,hacc,hbel⟩:=hrel
  have hbs:=hbel.size
  obtain ⟨Ao,co,rfl⟩:=own_form' hown
  cases gk with
  | zero=>
    have hki : ¬ (k:Int)<(l.length:Int):=by omega
    have hke:Hid (k=l.length):=Lib.hid (by omega)
    clear hat hata
    go_wp2_with (fail)
    go_ret
    exact ⟨⟨_,acc,rfl,hown,hacc.out.1,hacc.out.2.trans hke.out⟩,hbel⟩
  | succ f=>
    have hki:(k:Int)<(l.length:Int):=by omega
    have hkl:k<l.length:=by omega
    obtain ⟨ga,oa,rfl,hga,hca⟩:=hat (by omega)
    obtain ⟨c,hc⟩ : ∃ c,l[k]?=some c:=⟨_,List.getElem?_eq_getElem (by omega)⟩
    have hcc:wr.cell? ⟨ga,oa+k,none⟩=some (.int .u8 c.toNat):=by
     have:=rangeAt_below (hca k c hc) hga hbel 0 _ rfl
     rwa [Nat.add_zero,Nat.mul_one] at this
    have hc256:c.toNat<256:=c.toNat_lt
    have hwc:IntKind.i64.wrap ((c.toNat:Nat):Int)=(c.toNat:Int):=IntWalk.i64_in _ (by omega)
    have hal2:acc.length≤1000:=by have:=hacc.out.2;omega
    have hAk:acc.length+1≤9223372036854775807:=by omega
    have hAb:(acc.length+1)*32≤140737488355328:=by omega
    have hrb:=built_one c
    have key : ∀ x:Txt,x.length=32→Hid ((x.length=32∧(u8s x).size=32∧(u8s x).size=1*32 ∧ ∀ u∈(u8s x).toList,u.oneCell'=true)∧(acc++[x]).length=acc.length+1∧rowsOf idC (acc++[x])=rowsOf idC acc++(u8s x).toList∧((∀ z∈acc++[x],z.length=32)∧(acc++[x]).length=k+1)):=fun x hx=>Lib.hid (by
     have h32:(u8s x).size=32:=by rw [u8s_size,hx]
     have hlen:(acc++[x]).length=acc.length+1:=by rw [List.length_append];rfl
     exact ⟨⟨hx,h32,h32,idC_one x⟩,hlen,by rw [rowsOf_append,rowsOf_one];rfl,fun z hz=>(List.mem_append.1 hz).elim (hacc.out.1 z) fun h=>by rw [List.mem_singleton.1 h];exact hx,by rw [hlen,hacc.out.2]⟩)
    clear hca hat hc
    have hx0:(c::List.replicate 31 (0:UInt8)).length=32:=by simp
    by_cases h0:0<all.length
    ·have h0i : ¬ (all.length:Int)=0:=by omega
     have h0b:((all.length:Int)==0)=false:=by simpa using h0i
     by_cases h200:200≤c.toNat
     ·have h2i:(200:Int)≤(c.toNat:Int):=by omega
      obtain ⟨x,hx⟩ : ∃ x,c::List.replicate 31 (0:UInt8)=x:=⟨_,rfl⟩
      rw [hx] at hrb hx0
      have hk0:=key x hx0
      obtain ⟨⟨_,hx32,hx132,hx1⟩,_⟩:=hk0.out
      clear key hx hata h0
      go_wp2_with (first
       | ((with_reducible refine lit_build1 hrb ?_ ?_);rfl)
       | ((with_reducible refine lit_slice1 (.tmp 29) Tryz.idsTy (u8s x) hx32 (by omega) ?_ ?_);rfl)
       | ((with_reducible refine lit_append_new (.tmp 24) (.tmp 30) 1 _ Tryz.idsTy hown (u8s x) hx132 hx1 hAk hAb hbs ?_ ?_ ?_);rfl;rfl
          intro v8 w8 ho8 hb8 hg8 hn8))
      have ho9:OwnIds w8 w.heap.size v8 (acc++[x]):=by unfold OwnIds;rw [hk0.out.2.1,hk0.out.2.2.1];exact ho8
      have hacc9:=Lib.hid hk0.out.2.2.2
      clear hown hacc hk0 ho8
      go_roundg f
      case rel=>exact ⟨k+1,acc++[x],by go_num,by omega,ho9,hacc9,hbel.trans hb8⟩
      case measure=>omega
     ·have h2i : ¬ (200:Int)≤(c.toNat:Int):=by omega
      obtain ⟨m,hm⟩ : ∃ m:Nat,(all.length:Int)-1-(c.toNat:Int)%(all.length:Int)=(m:Int):=by
       refine Int.eq_ofNat_of_zero_le ?_
       have:=Int.emod_lt_of_pos (c.toNat:Int) (show (0:Int)<(all.length:Int) by omega)
       omega
      have hmn:=Int.emod_nonneg (c.toNat:Int) h0i
      have hml:m<all.length:=by omega
      obtain ⟨g3,o3,rfl,hg3,hc3⟩:=hata h0
      obtain ⟨x,hx⟩ : ∃ x,all[m]?=some x:=⟨_,List.getElem?_eq_getElem hml⟩
      have hxi:=haok x (List.mem_of_getElem? hx)
      have hlx:(ldvI ⟨g3,o3+m*32,none⟩).run Tryz.prog wr = .ok (.agg (u8s x)) wr:=run_ldvI_at (show World.rangeAt wr g3 (o3+m*32) (u8s x).toList from rangeAt_below (hc3 m x hx) hg3 hbel) hxi
      have hmi:(m:Int)<(all.length:Int):=by omega
      have hLi:(0:Int)<(all.length:Int):=by omega
      have hk0:=key x hxi
      obtain ⟨⟨_,hx32,hx132,hx1⟩,_⟩:=hk0.out
      clear key hx hc3 hata hrb hx0
      generalize all.length=LN at *
      have hw1:IntKind.i64.wrap ((LN:Int)-1)=(LN:Int)-1:=IntWalk.i64_in _ (by omega)
      have hw2:IntKind.i64.wrap ((c.toNat:Int)%(LN:Int))=(c.toNat:Int)%(LN:Int):=IntWalk.i64_in _ (by have:=Int.emod_lt_of_pos (c.toNat:Int) hLi;omega)
      have hw3:IntKind.i64.wrap ((m:Int))=(m:Int):=IntWalk.i64_in _ (by omega)
      go_wp2_with (first
       | ((with_reducible refine lit_slice1 (.tmp 47) Tryz.idsTy (u8s x) hx32 (by omega) ?_ ?_);rfl)
       | ((with_reducible refine lit_append_new (.tmp 32) (.tmp 48) 1 _ Tryz.idsTy hown (u8s x) hx132 hx1 hAk hAb hbs ?_ ?_ ?_);rfl;rfl
          intro v8 w8 ho8 hb8 hg8 hn8))
      have ho9:OwnIds w8 w.heap.size v8 (acc++[x]):=by unfold OwnIds;rw [hk0.out.2.1,hk0.out.2.2.1];exact ho8
      have hacc9:=Lib.hid hk0.out.2.2.2
      clear hown hacc hk0 ho8 hlx hm hw1 hw2 hw3
      go_roundg f
      case rel=>exact ⟨k+1,acc++[x],by go_num,by omega,ho9,hacc9,hbel.trans hb8⟩
      case measure=>omega
    ·obtain rfl:all=[]:=List.length_eq_zero_iff.1 (by omega)
     obtain ⟨x,hx⟩ : ∃ x,c::List.replicate 31 (0:UInt8)=x:=⟨_,rfl⟩
     rw [hx] at hrb hx0
     have hk0:=key x hx0
     obtain ⟨⟨_,hx32,hx132,hx1⟩,_⟩:=hk0.out
     clear key hx hata h0
     go_wp2_with (first
      | ((with_reducible refine lit_build1 hrb ?_ ?_);rfl)
      | ((with_reducible refine lit_slice1 (.tmp 29) Tryz.idsTy (u8s x) hx32 (by omega) ?_ ?_);rfl)
      | ((with_reducible refine lit_append_new (.tmp 24) (.tmp 30) 1 _ Tryz.idsTy hown (u8s x) hx132 hx1 hAk hAb hbs ?_ ?_ ?_);rfl;rfl
         intro v8 w8 ho8 hb8 hg8 hn8))
     have ho9:OwnIds w8 w.heap.size v8 (acc++[x]):=by unfold OwnIds;rw [hk0.out.2.1,hk0.out.2.2.1];exact ho8
     have hacc9:=Lib.hid hk0.out.2.2.2
     clear hown hacc hk0 ho8
     go_roundg f
     case rel=>exact ⟨k+1,acc++[x],by go_num,by omega,ho9,hacc9,hbel.trans hb8⟩
     case measure=>omega
/-- A history such as is gone through. -/
def FewH (h:HisL):Prop:=(h.seeds.length≤24 ∧ ∀ x∈h.seeds,x.refs.length≤10∧x.text.length≤300)∧h.out.length≤10∧h.frm.length≤10∧h.cut.length≤10
set_option maxRecDepth 100000 in
set_option maxHeartbeats 4000000 in
theorem named_calls (h:HisL) (hf:FewH h) (vs vo vf vc:Value) (w:World) (hh:HisOk w vs vo vf vc h) :
 Calls Tryz.prog 7 #[.agg #[vs,vo,vf,vc]] w fun e w'=>(∃ v r,e = .returned v∧OwnIds w' w.heap.size v r∧(∀ x∈r,x.length=32)∧r.length≤24)∧Below w.heap.size w w':=by
 obtain ⟨W1,hW1⟩ : ∃ W1,w.alloc (.cells #[vs,vo,vf,vc] 25)=W1:=⟨_,rfl⟩
 have s1:Blk W1 w.heap.size 25 #[vs,vo,vf,vc]:=by rw [←hW1];exact Blk.new _ _ _
 have b1:Below w.heap.size w W1:=by rw [←hW1];exact (Below.refl _ _).alloc (Nat.le_refl _) _
 have c0:W1.cell? ⟨w.heap.size,0,none⟩=some vs:=s1.cell 0
 have hgr:=Lib.hid (grow_calls h.seeds (Nat.le_trans hf.1.1 (by omega)) hf.1.2 vs W1 (hh.seeds.below b1))
 have hsl:=hf.1.1
 clear hh hf s1
 go_enter Tryz.func7,Tryz.ntmps7
 go_wp2_with (first
  | ((with_reducible refine hgr.out.mono ?_);rintro e w2 ⟨⟨vm,es,vi,ids,rfl,hD,hel,hoi,hil,hok,hap⟩,hb2⟩
     have hm1:(#[vm]:Array Value).size=1:=rfl
     have hm2:(#[vm]:Array Value).all (·.oneCell')=true:=by simp [hD.one]
     obtain ⟨Ai,ci,rfl⟩:=own_form' hoi)
  | ((with_reducible refine lit_new 30 (.tmp 3) (.tmp 9) #[vm] 1 szDSt hm1 hm2 _ ?_ ?_ ?_ ?_)
     ·first | exact hm1 | rfl
     ·rfl
     ·rfl
     intro W3 hb3 hbl3))
 go_ret
 exact ⟨⟨_,ids,rfl,own_low' (own_below hoi hbl3) b1.size,hok,Nat.le_trans hil hsl⟩,bthen b1 b1.size (bthen hb2 hb2.size hbl3)⟩
end Go.Proofs.YtfdfoplmijmnaaaGreatDoor
namespace Go.Proofs.YtfdfoplmijmnaaaGreatDoor
open Go.RowKit
attribute [local go_sem ↓] ldvI_eq ldvS_eq ldvT_eq
theorem StoOk.sub {s s':List StL} (h:StoOk s) (hs:s'.Sublist s):StoOk s':=⟨fun x hx=>h.each x (hs.subset hx),h.sorted.sublist hs,Nat.le_trans hs.length_le h.few⟩
theorem DocSt.sub {w w':World} {vm v':Value} {es:List DiL} (h:DocSt w vm es) (p:DiL→Bool) (ho:OwnDits w' 0 v' (es.filter p)) (hs : ∀ k,DocUse vm es k→w'.heap[k]?=w.heap[k]?):DocSt w' v' (es.filter p):=
 ⟨ho,fun e he=>(h.same hs).each e (List.mem_filter.1 he).1,h.ok.sub ((List.filter_sublist).map _)⟩
/-- What Few tells. -/
def Few12R (h:HisL) (w:World) (e:Ending) (w':World):Prop:=(e = .returned (.tuple #[.agg #[.slice none 0 0], .bool false]))∨(∃ vm es,e = .returned (.tuple #[.agg #[vm], .bool true])∧FewH h∧DocSt w' vm es∧es.length≤24)
theorem len_filter_take {α:Type} (p:α→Bool) (l:List α) (k:Nat):((l.take k).filter p).length≤k:=Nat.le_trans (List.length_filter_le _ _) (by rw [List.length_take];exact Nat.min_le_left _ _)
set_option maxRecDepth 100000 in
set_option maxHeartbeats 8000000 in
theorem few12_calls (h:HisL) (vs vo vf vc:Value) (w:World) (hh:HisOk w vs vo vf vc h) :
 Calls Tryz.prog 5 #[.agg #[vs,vo,vf,vc]] w fun e w'=>Few12R h w e w'∧Below w.heap.size w w':=by
 obtain ⟨W1,hW1⟩ : ∃ W1,w.alloc (.cells #[vs,vo,vf,vc] 25)=W1:=⟨_,rfl⟩
 have s1:Blk W1 w.heap.size 25 #[vs,vo,vf,vc]:=by rw [←hW1];exact Blk.new _ _ _
 have b1:Below w.heap.size w W1:=by rw [←hW1];exact (Below.refl _ _).alloc (Nat.le_refl _) _
 obtain ⟨W2,hW2⟩ : ∃ W2,W1.alloc (.cells #[.slice none 0 0] 30)=W2:=⟨_,rfl⟩
 have r2:Blk W2 W1.heap.size 30 #[.slice none 0 0]:=by rw [←hW2];exact Blk.new _ _ _
 have bb2:Below W1.heap.size W1 W2:=by rw [←hW2];exact (Below.refl _ _).alloc (Nat.le_refl _) _
 have b2:=bthen b1 b1.size bb2
 have s2:=s1.below bb2 s1.lt
 have hle1:w.heap.size≤W1.heap.size:=b1.size
 have hlt1:W1.heap.size<W2.heap.size:=r2.lt
 have c0 : ∀ W,Below W2.heap.size W2 W→W.cell? ⟨w.heap.size,0,none⟩=some vs:=fun W hW=>(s2.below hW s2.lt).cell 0
 have c1 : ∀ W,Below W2.heap.size W2 W→W.cell? ⟨w.heap.size,1,none⟩=some vo:=fun W hW=>(s2.below hW s2.lt).cell 1
 have c2 : ∀ W,Below W2.heap.size W2 W→W.cell? ⟨w.heap.size,2,none⟩=some vf:=fun W hW=>(s2.below hW s2.lt).cell 2
 have c3 : ∀ W,Below W2.heap.size W2 W→W.cell? ⟨w.heap.size,3,none⟩=some vc:=fun W hW=>(s2.below hW s2.lt).cell 3
 have c02:=c0 W2 (Below.refl _ _)
 have hfw:Hid (Calls Tryz.prog 21 #[vs, .int .i64 24] W2 fun e w'=>FewB h.seeds 24 e∧Below W2.heap.size W2 w'):=Lib.hid (few_calls11 h.seeds 24 (by omega) vs W2 (hh.seeds.below b2))
 have hgr:=fun (h1:h.seeds.length≤24 ∧ ∀ x∈h.seeds,x.refs.length≤10∧x.text.length≤300) W (hW:Below w.heap.size w W)=>Lib.hid (grow_calls h.seeds (Nat.le_trans h1.1 (by omega)) h1.2 vs W (hh.seeds.below hW))
 have hid:=fun (ids:List Txt) (hok : ∀ x∈ids,x.length=32) (hil:ids.length≤1000) (v:Value) W (hW:Below w.heap.size w W) (hv:Ids W v ids) (ho10:h.out.length≤10)=>Lib.hid (ids12_calls ids hok hil v W hv h.out (by omega) vo (hh.out.below hW))
 have hbS:Tryz.prog.built 30 []=some #[.slice none 0 0]:=by kernel_rfl
 have hrb:=fun W=>run_build (P:=Tryz.prog) W _ _ _ hbS
 have hS0:(#[Value.slice none 0 0]:Array Value).size=1:=rfl
 have hS1:(#[Value.slice none 0 0]:Array Value).all (·.oneCell')=true:=by kernel_rfl
 have hszS : ∀ vm:Value,(Tryz.prog.info? 30).map (·.size)=some (#[vm]:Array Value).size:=fun vm=>szDSt
 obtain ⟨Ao,co,rfl,ho1,ho2,hato⟩:=hh.out
 obtain ⟨Af,cf,rfl,hf1,hf2,hatf⟩:=hh.frm
 obtain ⟨Ac,cc,rfl,hc1,hc2,hatc⟩:=hh.cut
 clear hh hato hatf hatc s1 s2
 obtain ⟨LO,hLO⟩ : ∃ LO,h.out.length=LO:=⟨_,rfl⟩
 obtain ⟨LF,hLF⟩ : ∃ LF,h.frm.length=LF:=⟨_,rfl⟩
 obtain ⟨LC,hLC⟩ : ∃ LC,h.cut.length=LC:=⟨_,rfl⟩
 rw [hLO] at ho1 hid
 rw [hLF] at hf1
 rw [hLC] at hc1
 simp only [hLO] at c1 hW1 ⊢
 simp only [hLF] at c2 hW1 ⊢
 simp only [hLC] at c3 hW1 ⊢
 go_enter Tryz.func5,Tryz.ntmps5
 go_upto_region 2 with (first
  | ((with_reducible refine hfw.out.mono ?_);rintro e w3 ⟨⟨b,rfl,hb⟩,hb3⟩))
 have b3:=bthen b2 b2.size hb3
 have r3:=r2.below hb3 r2.lt
 have d1:=c1 w3 hb3
 have d2:=c2 w3 hb3
 have d3:=c3 w3 hb3
 have d0:=c0 w3 hb3
 clear hfw c02 hW1 hW2
 cases b with
 | false=>
   clear hgr hid c0 c1 c2 c3 hb
   go_wp2_with (first
    | (refine wpList_store_row rfl 30 (.tmp 2) (.tmp 34) rfl W1.heap.size #[.slice none 0 0] rfl rfl _ _ r3 (hszS _) rfl hS1 ?_))
   refine bodyPost_ret (results_row_tmp rfl _ _ W1.heap.size _ _ _ _ rfl (setRow_heap _ _ _ _ _ _ r3) Tryz.underlying30 rfl (hszS _)) rfl ⟨.inl rfl,below_setRow b3 hle1 _⟩
 | true=>
   have hb:=hb rfl
   replace hgr:=hgr hb w3 b3
   by_cases hO:10<LO
   ·have hOi:(10:Int)<(LO:Int):=by omega
    clear hgr hid c0 c1 c2 c3 hb hLO hLF hLC
    go_wp2_with (first
     | (refine wpList_store_row rfl 30 (.tmp 2) (.tmp 34) rfl W1.heap.size #[.slice none 0 0] rfl rfl _ _ r3 (hszS _) rfl hS1 ?_))
    refine bodyPost_ret (results_row_tmp rfl _ _ W1.heap.size _ _ _ _ rfl (setRow_heap _ _ _ _ _ _ r3) Tryz.underlying30 rfl (hszS _)) rfl ⟨.inl rfl,below_setRow b3 hle1 _⟩
   ·have hOi : ¬ (10:Int)<(LO:Int):=by omega
    by_cases hF:10<LF
    ·have hFi:(10:Int)<(LF:Int):=by omega
     clear hgr hid c0 c1 c2 c3 hb hLO hLF hLC
     go_wp2_with (first
      | (refine wpList_store_row rfl 30 (.tmp 2) (.tmp 34) rfl W1.heap.size #[.slice none 0 0] rfl rfl _ _ r3 (hszS _) rfl hS1 ?_))
     refine bodyPost_ret (results_row_tmp rfl _ _ W1.heap.size _ _ _ _ rfl (setRow_heap _ _ _ _ _ _ r3) Tryz.underlying30 rfl (hszS _)) rfl ⟨.inl rfl,below_setRow b3 hle1 _⟩
    ·have hFi : ¬ (10:Int)<(LF:Int):=by omega
     by_cases hC:10<LC
     ·have hCi:(10:Int)<(LC:Int):=by omega
      clear hgr hid c0 c1 c2 c3 hb hLO hLF hLC
      go_wp2_with (first
       | (refine wpList_store_row rfl 30 (.tmp 2) (.tmp 34) rfl W1.heap.size #[.slice none 0 0] rfl rfl _ _ r3 (hszS _) rfl hS1 ?_))
      refine bodyPost_ret (results_row_tmp rfl _ _ W1.heap.size _ _ _ _ rfl (setRow_heap _ _ _ _ _ _ r3) Tryz.underlying30 rfl (hszS _)) rfl ⟨.inl rfl,below_setRow b3 hle1 _⟩
     ·have hCi : ¬ (10:Int)<(LC:Int):=by omega
      have hfin:Hid (∀ (vm:Value) (es:List DiL) (w':World) (e:Ending),e = .returned (.tuple #[.agg #[vm], .bool true])→DocSt w' vm es→es.length≤24→Few12R h w e w'):=Lib.hid fun vm es w' e he h1 h2 => .inr ⟨vm,es,he,⟨hb,by omega,by omega,by omega⟩,h1,h2⟩
      have hsl:=hb.1
      clear hb hLO hLF hLC c0 c2 c3
      go_upto_region 5 with (first
       | ((with_reducible refine hgr.out.mono ?_);rintro e w4 ⟨⟨vm,es,vi,ids,rfl,hD,hel,hoi,hil,hok,hap⟩,hb4⟩
          obtain ⟨Ai,ci,rfl⟩:=own_form' hoi
          obtain ⟨Am,cm,rfl⟩:=own_form' hD.own
          have hm2:(#[Value.slice Am es.length cm]:Array Value).all (·.oneCell')=true:=by simp [Value.oneCell']
          have hm1:(#[Value.slice Am es.length cm]:Array Value).size=1:=rfl)
       | ((with_reducible refine lit_new 30 (.tmp 5) (.tmp 39) #[.slice Am es.length cm] 1 szDSt hm1 hm2 _ ?_ ?_ ?_ ?_)
          ·first | exact hm1 | rfl
          ·rfl
          ·rfl
          intro W5 hb5 hbl5))
      have b4:=bthen b3 b3.size hb4
      have b5:=bthen b4 b4.size hbl5
      have r4:=r3.below hb4 r3.lt
      have r5:=r4.below hbl5 r4.lt
      have hoi5:=own_below hoi hbl5
      have hD5:=hD.below hbl5
      have c15:=c1 W5 (bthen hb3 hb3.size (bthen hb4 hb4.size hbl5))
      have hidc:=fun ho10=>hid ids hok (by omega) _ W5 b5 (SliceAt.of_own (fun e h=>idC_len (hok e h)) hoi5) ho10
      have hids0:Hid (ids.length=ids.length):=Lib.hid rfl
      clear hgr hid c1 d0 d1 d2 d3 r3 r4
      by_cases h0:0<ids.length
      ·have h0b:((ids.length:Int)==0)=false:=by rw [beq_eq_false_iff_ne];omega
       replace hidc:=Lib.hid (hidc (by omega)).out
       go_upto_region 9 with (first
        | ((with_reducible refine hidc.out.mono ?_);rintro e w6 ⟨⟨vg,gone,rfl,hog,hgk, -⟩,hb6⟩
           obtain ⟨Ag,cg,rfl⟩:=own_form' hog)
        | ((with_reducible refine lit_new 30 (.tmp 8) (.tmp 49) #[.slice none 0 0] 1 szDSt hS0 hS1 _ ?_ ?_ ?_ ?_)
           ·first | exact hS0 | rfl
           ·rfl
           ·rfl
           intro W7 hb7 hbl7))
       have hDD:=hD5.below hb6
       have hs6:=hb5.below hb6 hb5.lt
       have r6:=r5.below hb6 r5.lt
       have b6:=bthen b5 b5.size hb6
       have hN1:W1.heap.size<w6.heap.size:=r6.lt
       obtain ⟨N,hN⟩ : ∃ N,w6.heap.size=N:=⟨_,rfl⟩
       rw [hN] at hb7 hbl7 hN1
       have hgone:=SliceAt.of_own (fun e h=>idC_len (hgk e h)) hog
       have hin:=fun W (hW:Below N w6 W) (x:Txt) (hx:x.length=32)=>Lib.hid (in02_calls gone hgk _ x hx W (hgone.below (hN▸hW)))
       obtain ⟨B5,hB5⟩ : ∃ B5,w4.heap.size=B5:=⟨_,rfl⟩
       have hB5N:B5<N:=by rw [←hB5,←hN];exact hs6.lt
       rw [hB5] at hb5 hs6
       obtain ⟨A2,c2',hfe,hm3,hm4,hatm⟩:=hDD.at_
       injection hfe with e1 e2 e3
       subst e1 e3
       have heach:=hDD.each
       have hlen24:es.length≤24:=by omega
       have hL0:OwnDits W7 N (.slice none 0 0) ((es.take 0).filter fun e => !inL gone e.st.id):=by rw [List.take_zero];exact World.ownsRow_nil _ _ _ _
       rw [hN] at hatm
       go_wp2_with (fail)
       clear hog hidc hoi5 hD5 hoi hD r5 c15 hb5 hap b5 b4 hbl5
       go_loopg [9] es.length (fun f vi wr => ∃ (k:Nat) (vL:Value),vi = .int .i64 k∧k+f=es.length∧Blk wr N 30 #[vL]∧OwnDits wr N vL ((es.take k).filter fun e => !inL gone e.st.id)∧Below N w6 wr)
       case atStart=>exact ⟨0,_,rfl,by omega,hb7,hL0,hbl7⟩
       case round=>
        clear hL0 hb7 hbl7
        obtain ⟨k,vL,rfl,hkf,hL,hoL,hbel⟩:=hrel
        have hbel6:Below w6.heap.size w6 wr:=hN▸hbel
        have hsr:=hs6.below hbel6 hs6.lt
        have csr:=hsr.cell 0
        have hNr:N<wr.heap.size:=hL.lt
        cases gk with
        | zero=>
          have hki : ¬ (k:Int)<(es.length:Int):=by omega
          have hke:es.take k=es:=List.take_of_length_le (by omega)
          rw [hke] at hoL
          have hDr:=hDD.below hbel6
          have r7:=r6.below hbel6 r6.lt
          have lL:=run_ldvS hL
          have br:=bthen b6 b6.size hbel6
          have hnoR:=hDr.blk_ne r7 (by decide) (by decide) (by decide)
          have hne7:=own_blk_ne hoL r7 (by decide)
          obtain ⟨AL,cL,rfl⟩:=own_form' hoL
          have hLone:(#[Value.slice AL (es.filter fun e => !inL gone e.st.id).length cL]:Array Value).all (·.oneCell')=true:=by simp [Value.oneCell']
          clear hatm hin heach hke hL
          obtain ⟨fl,hfl⟩ : ∃ fl,(es.filter fun e => !inL gone e.st.id).length=fl:=⟨_,rfl⟩
          have hfl2:=Lib.hid hfl
          rw [hfl] at lL hLone hoL
          clear hfl
          go_wp2_with (first
           | (refine wpList_store_row rfl 30 (.tmp 2) (.tmp 77) rfl W1.heap.size #[.slice AL fl cL] rfl rfl _ _ r7 (hszS _) rfl hLone ?_))
          refine bodyPost_ret (results_row_tmp rfl _ _ W1.heap.size _ _ _ _ rfl (setRow_heap _ _ _ _ _ _ r7) Tryz.underlying30 rfl (hszS _)) rfl ⟨hfin.out _ (es.filter fun e => !inL gone e.st.id) _ _ rfl ((hDr.row hnoR _).sub _ (own_down (own_row hoL hN1 _) (Nat.zero_le _)) fun _ _=>rfl) (Nat.le_trans (List.length_filter_le _ _) hlen24),below_setRow br hle1 _⟩
        | succ f=>
          have hki:(k:Int)<(es.length:Int):=by omega
          have hkl:k<es.length:=by omega
          obtain ⟨ga,oa,rfl,hga,hca⟩:=hatm (by omega)
          obtain ⟨x,hx⟩ : ∃ x,es[k]?=some x:=⟨_,List.getElem?_eq_getElem hkl⟩
          have hxok:=heach x (List.mem_of_getElem? hx)
          have hxi:=hxok.id
          have hxr : ∀ W,Below N w6 W→W.rangeAt ga (oa+k*105) (ditC x):=fun W hW=>by
           rw [←hN] at hW hga
           exact rangeAt_below (hca k x hx) hga hW
          have hl1:=run_ldvI_at (dit_id (hxr wr hbel)) hxi
          have hin1:=hin wr hbel x.st.id hxi
          have hmore:(es.take (k+1)).filter (fun e => !inL gone e.st.id)=(es.take k).filter (fun e => !inL gone e.st.id)++(if inL gone x.st.id=false then [x] else []):=by
           rw [List.take_add_one,hx,List.filter_append]
           congr 1
           simp [List.filter_cons]
          have hacl:=len_filter_take (fun e => !inL gone e.st.id) es k
          obtain ⟨acc,hacc⟩ : ∃ acc,(es.take k).filter (fun e => !inL gone e.st.id)=acc:=⟨_,rfl⟩
          rw [hacc] at hoL hmore hacl
          generalize inL gone x.st.id=bi at *
          have hx105:(ditC x).toArray.size=105:=by rw [List.size_toArray,ditC_len hxok]
          have hx1:(ditC x).toArray.size=1*105:=hx105
          have hxone : ∀ u∈(ditC x).toArray.toList,u.oneCell'=true:=by rw [List.toList_toArray];exact ditC_one hxok
          have ft : ∀ (W:World),Below N w6 W→(ldvT ⟨ga,oa+k*105,none⟩).run Tryz.prog W = .ok (.agg (ditC x).toArray) W:=fun W hW=>run_loadVar_mid (P:=Tryz.prog) W ga (oa+k*105) 72 (ditC x) _ (hxr W hW) Tryz.underlying72 rfl (by rw [ditC_len hxok];exact szDit)
          clear hin heach hx hca hatm hxr hacc hDD
          obtain ⟨XC,hXC⟩ : ∃ XC,(ditC x).toArray=XC:=⟨_,rfl⟩
          rw [hXC] at hx105 hx1 hxone
          simp only [hXC] at ft
          replace hXC:=Lib.hid hXC
          cases bi with
          | true=>
            replace hmore:=Lib.hid (hmore.trans (List.append_nil _))
            clear ft
            go_wp2_with (first
             | ((with_reducible refine hin1.out.mono ?_);rintro e w8 ⟨rfl,hb8⟩))
            have hL8:=hL.below hb8 hL.lt
            have hoL8:=own_below hoL hb8
            have hb68:=hbel.trans (hb8.mono (Nat.le_of_lt hNr))
            clear hl1 hin1 hL hoL csr
            go_roundg f
            case rel=>exact ⟨k+1,vL,by go_num,by omega,hL8,by rw [hmore.out];exact hoL8,hb68⟩
            case measure=>omega
          | false=>
            replace hmore:=Lib.hid hmore
            go_upto_region 14 with (first
             | ((with_reducible refine hin1.out.mono ?_);rintro e w8 ⟨rfl,hb8⟩))
            have hL8:=hL.below hb8 hL.lt
            have hoL8:=own_below hoL hb8
            have hb68:=hbel.trans (hb8.mono (Nat.le_of_lt hNr))
            have hN8:N<w8.heap.size:=hL8.lt
            have hszN:=Nat.le_of_lt hN8
            have hs8:=hsr.below hb8 hsr.lt
            obtain ⟨AL,cL,rfl⟩:=own_form' hoL8
            have hpre:=preOk2 (i:=8) (j:=10) hoL8 hL8 (by decide)
            have hrB:=rows2 (i:=8) (j:=10) (p:=fun w=>World.ownsRow w N 72 105 (.slice AL acc.length cL) acc.length (rowsOf ditC acc)) (q:=fun w=>Blk w N 30 #[.slice AL acc.length cL]) (v := .slice AL acc.length cL) (fun k hk=>(World.ownsRow.lt hoL8 k hk).1) (Nat.le_refl N)
            have hAk:acc.length+1≤9223372036854775807:=by omega
            have hAb:(acc.length+1)*232≤140737488355328:=by omega
            have hwas : ∀ W,Blk W N 30 #[.slice AL acc.length cL]→W.cell? ⟨N,0,none⟩=some (.slice AL acc.length cL):=fun W h=>h.cell 0
            have hscell : ∀ W,Below N w8 W→W.cell? ⟨B5,0,none⟩=some (.slice (some ⟨ga,oa,none⟩) es.length cm):=fun W hW=>(Blk.below hs8 hW hB5N).cell 0
            clear hl1 hin1 hL hoL csr hsr hs8
            refine wp_region_goP 11 [(8,(Value.slice AL acc.length cL).ownBlock,fun w=>World.ownsRow w N 72 105 (.slice AL acc.length cL) acc.length (rowsOf ditC acc)),(10,some N,fun w=>Blk w N 30 #[.slice AL acc.length cL])] hpre (by kernel_rfl) (by kernel_rfl) (by kernel_rfl) (by kernel_rfl) ?_
            simp only [exSp]
            iterate 11 apply Exists.intro
            repeat
             first
              | ((with_reducible apply lx_ex)
                 ·(go_simp;done)
                 apply Exists.intro
                 apply And.intro
                 ·apply Eq.refl
                 apply And.intro
                 ·intro W hF hD
                  first
                   | (have hf:=(far_drew hF).below hszN hrB
                      have q0:=hscell W hf
                      have q1:=ft W (hb68.trans hf)
                      have q2:=hwas W (hD.was 1 rfl (by kernel_rfl))
                      go_simp
                      rfl)
                   | (have hf:=(far_drew hF).below hszN hrB
                      have q0:=hscell W hf
                      have q1:=ft W (hb68.trans hf)
                      go_simp
                      rfl)
                 simp only [Act.put,List.setIfInBounds_toArray,List.set_cons_zero,List.set_cons_succ])
              | ((with_reducible apply lx_pass)
                 ·(first | rfl | (go_simp;done))
                 ·apply Eq.refl
                 simp only [Act.put,List.setIfInBounds_toArray,List.set_cons_zero,List.set_cons_succ])
              | (first | (with_reducible apply lx_move') | (with_reducible apply lx_assign')
                 ·apply Eq.refl
                 apply Exists.intro
                 apply And.intro
                 ·(go_simp;rfl)
                 simp only [Act.put,List.setIfInBounds_toArray,List.set_cons_zero,List.set_cons_succ])
              | ((with_reducible apply lx_slice1 Tryz.ditTy (fun cs=>cs=XC) (by omega))
                 ·apply Eq.refl
                 apply Exists.intro
                 apply And.intro
                 ·(go_simp;rfl)
                 refine ⟨fun W hF hD=>?_,?_⟩
                 ·exact ⟨XC,rfl,hx105,rfl⟩
                 intro v
                 simp only [Act.put,List.setIfInBounds_toArray,List.set_cons_zero,List.set_cons_succ])
              | ((with_reducible apply lx_append1 Tryz.ditTy N (.slice AL acc.length cL) acc.length (rowsOf ditC acc) (fun xs=>xs=rowsOf ditC acc++XC.toList) hAk hAb)
                 ·exact hszN
                 ·first | exact List.Mem.head _ | exact List.Mem.tail _ (List.Mem.head _) | exact List.Mem.tail _ (List.Mem.tail _ (List.Mem.head _)) | exact List.Mem.tail _ (List.Mem.tail _ (List.Mem.tail _ (List.Mem.head _)))
                 ·apply Eq.refl
                 apply Exists.intro
                 apply Exists.intro
                 apply And.intro
                 ·(go_simp;rfl)
                 apply And.intro
                 ·(go_simp;rfl)
                 refine ⟨rfl,fun W hF hD=>?_,?_⟩
                 ·obtain ⟨F,g5,cs,rfl,_,hk5,rfl⟩:=hD.at 0 rfl (by kernel_rfl)
                  exact ⟨g5,_,rfl,hk5,hx105,hxone,rfl⟩
                 intro v
                 simp only [Act.put,List.setIfInBounds_toArray,List.set_cons_zero,List.set_cons_succ])
              | ((with_reducible apply lx_put N 0 #[.slice AL acc.length cL] 30)
                 ·exact (fun _=>by kernel_rfl)
                 ·exact (Nat.zero_lt_one)
                 ·first | exact List.Mem.head _ | exact List.Mem.tail _ (List.Mem.head _) | exact List.Mem.tail _ (List.Mem.tail _ (List.Mem.head _)) | exact List.Mem.tail _ (List.Mem.tail _ (List.Mem.tail _ (List.Mem.head _)))
                 ·apply Eq.refl
                 apply Exists.intro
                 apply Exists.intro
                 apply And.intro
                 ·(go_simp;rfl)
                 apply And.intro
                 ·(go_simp;rfl)
                 refine ⟨rfl,fun W hF hD=>?_,?_⟩
                 ·obtain ⟨F,xs,_,hv,_⟩:=hD.at 0 rfl (by kernel_rfl)
                  obtain ⟨A6,c6,rfl⟩:=own_form' hv
                  exact ⟨_,_,_,rfl⟩)
            refine lxP_nil ?_ fun w9 hF9 hD9=>?_
            ·exact List.nodup_nil
            obtain ⟨_,hg9,hb9⟩:=hD9 _ (.head _)
            obtain ⟨_,xs,rfl,hv9,_⟩:=hD9 _ (.tail _ (.head _))
            have hb69:=hb68.trans (hF9.below hszN hrB)
            clear hD9 hpre hrB hF9 ft hwas hscell hL8 hoL8
            have hkey : ∀ v,World.ownsRow w9 N 72 105 v (acc.length+1) (rowsOf ditC acc++XC.toList)→OwnDits w9 N v (acc++[x]):=fun v h=>by
             unfold OwnDits
             rw [List.length_append,rowsOf_append,rowsOf_one]
             rw [←hXC.out,List.toList_toArray] at h
             exact h
            have hoL9:=hkey _ hv9
            go_wp2_with (fail)
            go_roundg f
            case rel=>exact ⟨k+1,_,by go_num,by omega,hb9,by rw [hmore.out];exact hoL9,hb69⟩
            case measure=>omega
      ·obtain rfl:ids=[]:=List.length_eq_zero_iff.1 (by omega)
       have lS:=run_ldvS hb5
       have hnoR:=hD5.blk_ne r5 (by decide) (by decide) (by decide)
       clear hidc h0 hoi5 c15
       go_wp2_with (first
        | (refine wpList_store_row rfl 30 (.tmp 2) (.tmp 44) rfl W1.heap.size #[.slice Am es.length cm] rfl rfl _ _ r5 (hszS _) rfl hm2 ?_))
       refine bodyPost_ret (results_row_tmp rfl _ _ W1.heap.size _ _ _ _ rfl (setRow_heap _ _ _ _ _ _ r5) Tryz.underlying30 rfl (hszS _)) rfl ⟨hfin.out _ es _ _ rfl (hD5.row hnoR _) (by omega),below_setRow b5 hle1 _⟩
end Go.Proofs.YtfdfoplmijmnaaaGreatDoor
namespace Go.Proofs.YtfdfoplmijmnaaaGreatDoor
open Go.RowKit
def ldvH (p:Addr):Sem Value:=loadVar 25 p
theorem ldvH_eq (p:Addr):loadVar 25 p=ldvH p:=rfl
theorem run_ldvH {w:World} {g:Nat} {a b c d:Value} (h:Blk w g 25 #[a,b,c,d]):(ldvH ⟨g,0,none⟩).run Tryz.prog w = .ok (.agg #[a,b,c,d]) w:=run_loadVar_row w g _ _ _ _ _ h Tryz.underlying25 rfl (by kernel_rfl)
def ldvP (p:Addr):Sem Value:=loadVar 44 p
theorem ldvP_eq (p:Addr):loadVar 44 p=ldvP p:=rfl
theorem run_ldvP {w:World} {g:Nat} {a b c:Value} (h:Blk w g 44 #[a,b,c]):(ldvP ⟨g,0,none⟩).run Tryz.prog w = .ok (.agg #[a,b,c]) w:=run_loadVar_row w g _ _ _ _ _ h Tryz.underlying44 rfl (by kernel_rfl)
def ldvQ (p:Addr):Sem Value:=loadVar 41 p
theorem ldvQ_eq (p:Addr):loadVar 41 p=ldvQ p:=rfl
attribute [local go_sem ↓] ldvI_eq ldvS_eq ldvH_eq ldvP_eq ldvQ_eq
theorem szP14 : (Tryz.prog.info? 44).map (·.size)=some 3:=by kernel_rfl
/-- What Few tells, with one letter for whether it is gone through. -/
def Few12B (h:HisL) (e:Ending) (w':World):Prop := ∃ A n c b,e = .returned (.tuple #[.agg #[.slice A n c], .bool b])∧(b=true → ∃ es,FewH h∧DocSt w' (.slice A n c) es∧es.length≤24)
theorem Few12R.b {h:HisL} {w w':World} {e:Ending} (hr:Few12R h w e w'):Few12B h e w':=by
 rcases hr with rfl | ⟨vm,es,rfl,h1,h2,h3⟩
 ·exact ⟨none,0,0,false,rfl,fun h=>by cases h⟩
 ·obtain ⟨A,c,rfl⟩:=own_form' h2.own
  exact ⟨A,_,c,true,rfl,fun _=>⟨es,h1,h2,h3⟩⟩
end Go.Proofs.YtfdfoplmijmnaaaGreatDoor
namespace Go.Proofs.YtfdfoplmijmnaaaGreatDoor
open Go.RowKit
theorem links_kind14 {t:Txt} {o:ObjL} (h:decO t=some o) : ∀ l∈linksL o,1≤l.kind:=by
 intro l hl
 have henc:=(dec_back h).1
 have hm:mayB o=true:=by
  unfold encO at henc
  split at henc
  ·rename_i hc;exact hc.1
  ·cases henc
 unfold mayB at hm
 unfold linksL at hl
 split at hl
 ·rename_i hk
  rw [if_pos hk,Bool.and_eq_true] at hm
  obtain ⟨e,he,rfl⟩:=List.mem_map.1 hl
  rcases ((ents_fine hm.2).2 e he).2 with h1 | h1
  ·show 1≤e.kind
   rw [h1];decide
  ·show 1≤e.kind
   rw [h1];decide
 ·rename_i hk
  rw [if_neg hk] at hm
  split at hl
  ·rcases List.mem_cons.1 hl with rfl | hl
   ·show (1:Int)≤2
    decide
   ·obtain ⟨p,_,rfl⟩:=List.mem_map.1 hl
    show (1:Int)≤3
    decide
  ·rename_i hk3
   rw [if_neg hk3] at hm
   split at hl
   ·rename_i hk4
    rw [if_pos hk4] at hm
    rw [List.mem_singleton.1 hl]
    simp only [Bool.and_eq_true] at hm
    have:=hm.1.2
    unfold kindB at this
    simp at this
    exact this.1
   ·simp at hl
theorem links_cut {cut:List Txt} {n:Txt} {o:ObjL} {l:LinkL} (h:l∈linksL (cutO cut n o)):l∈linksL o:=by
 unfold cutO at h
 split at h
 ·rename_i hc
  rw [links_three (o:={ o with pars:=[] }) hc.1] at h
  rw [links_three hc.1]
  rw [List.mem_singleton.1 h]
  exact List.mem_cons_self
 ·exact h
theorem links_more {cut cut':List Txt} (hs : ∀ x∈cut,x∈cut') {n:Txt} {o:ObjL} {l:LinkL} (h:l∈linksL (cutO cut' n o)):l∈linksL (cutO cut n o):=by
 by_cases hc:o.kind=3∧inL cut n=true
 ·have hc':o.kind=3∧inL cut' n=true:=⟨hc.1,inL_iff.2 (hs n (inL_iff.1 hc.2))⟩
  unfold cutO at h ⊢
  rw [if_pos hc]
  rw [if_pos hc'] at h
  exact h
 ·have h1:=links_cut h
  unfold cutO
  rw [if_neg hc]
  exact h1
section
variable {S:List StL} {cut cut' ini:List Txt} {n:Txt}
theorem next_obj {y:Txt} (h:y∈nextS S cut n) : ∃ o l,objS S n=some o∧l∈linksL (cutO cut n o)∧l.id=y:=by
 unfold nextS nextO at h
 cases ho:objS S n with
 | none=>rw [ho] at h;simp at h
 | some o=>
   rw [ho] at h
   obtain ⟨l,hl,rfl⟩:=List.mem_map.1 h
   exact ⟨o,l,rfl,hl,rfl⟩
theorem obj_next {o:ObjL} {l:LinkL} (ho:objS S n=some o) (hl:l∈linksL (cutO cut n o)):l.id∈nextS S cut n:=by
 unfold nextS
 rw [ho]
 exact List.mem_map.2 ⟨l,hl,rfl⟩
theorem obj_dec {o:ObjL} (ho:objS S n=some o) : ∃ x,getS S n=some x∧decO x.text=some o:=by
 unfold objS at ho
 cases hg:getS S n with
 | none=>rw [hg] at ho;cases ho
 | some x=>rw [hg] at ho;exact ⟨x,rfl,ho⟩
theorem right_obj (h:rightS S cut n=true) : ∃ o,objS S n=some o ∧ ∀ l∈linksL (cutO cut n o),kindS S l.id=l.kind∧1≤l.kind:=by
 unfold rightS at h
 cases ho:objS S n with
 | none=>rw [ho] at h;cases h
 | some o=>
   rw [ho] at h
   simp only [List.all_eq_true] at h
   obtain ⟨x,_,hd⟩:=obj_dec ho
   refine ⟨o,rfl,fun l hl=>⟨?_,links_kind14 hd l (links_cut hl)⟩⟩
   have:=h l hl
   unfold okL at this
   simpa using this
theorem right_of {o:ObjL} (ho:objS S n=some o) (h : ∀ l∈linksL (cutO cut n o),kindS S l.id=l.kind):rightS S cut n=true:=by
 rw [right_some ho,List.all_eq_true]
 intro l hl
 unfold okL
 simpa using h l hl
theorem kind_there (h:1≤kindS S n) : ∃ x o,getS S n=some x∧decO x.text=some o:=by
 rw [kindS_obj] at h
 cases ho:objS S n with
 | none=>rw [ho] at h;simp at h
 | some o=>
   obtain ⟨x,h1,h2⟩:=obj_dec ho
   exact ⟨x,o,h1,h2⟩
theorem next_more (hs : ∀ x∈cut,x∈cut') {y:Txt} (h:y∈nextS S cut' n):y∈nextS S cut n:=by
 obtain ⟨o,l,ho,hl,rfl⟩:=next_obj h
 exact obj_next ho (links_more hs hl)
theorem Rch.less (hs : ∀ x∈cut,x∈cut') {x:Txt} (h:Rch S cut' ini x):Rch S cut ini x:=fun P h1 h2=>h P h1 fun y z hy hz=>h2 y z hy (next_more hs hz)
theorem right_more (hs : ∀ x∈cut,x∈cut') (h:rightS S cut n=true):rightS S cut' n=true:=by
 obtain ⟨o,ho,hl⟩:=right_obj h
 exact right_of ho fun l h=>(hl l (links_more hs h)).1
/-- What is closed, by what is reached. -/
theorem clos_iff {a b:List Txt} (ha:RchIs S cut ini true a) (hb:RchIs S cut ini false b):closB S cut a b=true ↔ ∀ x,Rch S cut ini x→rightS S cut x=true:=by
 unfold closB
 rw [Bool.and_eq_true,List.isEmpty_iff,List.all_eq_true]
 refine ⟨fun ⟨h1,h2⟩ x hx=>?_,fun h=>⟨?_,fun x hx=>h x ((ha.mem x).1 hx).1⟩⟩
 ·cases hi:isS S x with
  | true=>exact h2 x ((ha.mem x).2 ⟨hx,hi⟩)
  | false=>
    have:=(hb.mem x).2 ⟨hx,hi⟩
    rw [h1] at this
    simp at this
 ·cases b with
  | nil=>rfl
  | cons x b=>
    obtain ⟨h1,h2⟩:=(hb.mem x).1 List.mem_cons_self
    obtain ⟨o,ho,_⟩:=right_obj (h x h1)
    unfold isS at h2
    rw [ho] at h2
    cases h2
theorem whole_zero {refs:List RefL} {sh:List Txt} (h:wholeN S refs sh=0):shalB S sh=true ∧ ∀ x∈S,rightS S sh x.id=true:=by
 unfold wholeN at h
 split at h
 ·simp at h
 ·split at h
  ·simp at h
  ·split at h
   ·simp at h
   ·rename_i h1 h2 h3
    refine ⟨by simpa using h2,fun x hx=>?_⟩
    have h4:(S.map StL.id).all (rightS S sh)=true:=by simpa using h3
    rw [List.all_eq_true] at h4
    exact h4 _ (List.mem_map.2 ⟨x,hx,rfl⟩)
theorem whole_of {sh:List Txt} (h1:shalB S sh=true) (h2 : ∀ x∈S,rightS S sh x.id=true) (hf:fineL []=true):wholeN S [] sh=0:=by
 rw [wholeN_4 hf h1 (List.all_eq_true.2 fun n hn=>by obtain ⟨x,hx,rfl⟩:=List.mem_map.1 hn;exact h2 x hx)]
 rfl
theorem getS_iff (h:StoOk S) {y:StL}:getS S n=some y↔y∈S∧y.id=n:=⟨getS_id,fun ⟨h1,h2⟩=>by rw [←h2];exact getS_self h h1⟩
theorem mem_putS {F:List StL} (hS:StoOk S) (hFS : ∀ y∈F,y∈S) {x:StL} (hx:x∈S) (y:StL):y∈putS F x.text↔y∈F∨y=x:=by
 rw [(hS.each x hx).putS]
 split
 ·rename_i hh
  refine ⟨.inl,fun h=>h.elim id fun e=>?_⟩
  unfold hasK at hh
  obtain ⟨z,hz,hzx⟩:=List.any_eq_true.1 hh
  have h1:=getS_self hS (hFS z hz)
  have h2:=getS_self hS hx
  rw [show z.id=x.id by simpa using hzx,h2] at h1
  rw [e,Option.some.inj h1]
  exact hz
 ·unfold insK
  rw [List.mem_append,List.mem_append,List.mem_singleton]
  constructor
  ·rintro ((h | h) | h)
   ·exact .inl (List.mem_of_mem_take h)
   ·exact .inr h
   ·exact .inl (List.mem_of_mem_drop h)
  ·rintro (h | h)
   ·rw [←List.take_append_drop (posK StL.id F x.id) F] at h
    rcases List.mem_append.1 h with h | h
    ·exact .inl (.inl h)
    ·exact .inr h
   ·exact .inl (.inr h)
theorem mem_putL : ∀ (l:List StL) {F:List StL},StoOk S→(∀ y∈F,y∈S)→(∀ x∈l,x∈S) → ∀ y,y∈putL11 F (l.map StL.text)↔y∈F∨y∈l
 | [],F,_,_,_,y=>by show y∈F↔_;simp
 | x::l,F,hS,hFS,hl,y=>by
   have hx:=hl x List.mem_cons_self
   have ih:=mem_putL l (F:=putS F x.text) hS (fun z hz=>by
    rcases (mem_putS hS hFS hx z).1 hz with h | h
    ·exact hFS z h
    ·rw [h];exact hx) (fun z hz=>hl z (List.mem_cons_of_mem _ hz)) y
   show y∈putL11 (putS F x.text) (l.map StL.text)↔_
   rw [ih,mem_putS hS hFS hx,List.mem_cons]
   constructor
   ·rintro ((h | h) | h)
    ·exact .inl h
    ·exact .inr (.inl h)
    ·exact .inr (.inr h)
   ·rintro (h | h | h)
    ·exact .inl (.inl h)
    ·exact .inl (.inr h)
    ·exact .inr h
/-- The items that stand at some ids. -/
def itemsS (S:List StL) (ids:List Txt):List StL:=ids.filterMap (getS S)
theorem mem_items {ids:List Txt} (hS:StoOk S) {y:StL}:y∈itemsS S ids↔y∈S∧y.id∈ids:=by
 unfold itemsS
 rw [List.mem_filterMap]
 constructor
 ·rintro ⟨n,hn,h⟩
  obtain ⟨h1,h2⟩:=(getS_iff hS).1 h
  exact ⟨h1,by rw [h2];exact hn⟩
 ·rintro ⟨h1,h2⟩
  exact ⟨y.id,h2,getS_self hS h1⟩
theorem mem_union {F:List StL} {ids:List Txt} (hS:StoOk S) (hFS : ∀ y∈F,y∈S) (y:StL):y∈putL11 F ((itemsS S ids).map StL.text)↔y∈F∨(y∈S∧y.id∈ids):=by
 rw [mem_putL _ hS hFS (fun x hx=>((mem_items hS).1 hx).1),mem_items hS]
theorem kind_sub {F:List StL} (hF:StoOk F) (hS:StoOk S) (hFS : ∀ y∈F,y∈S) (h:1≤kindS F n):kindS S n=kindS F n:=by
 obtain ⟨x,o,hx,hd⟩:=kind_there h
 obtain ⟨h1,h2⟩:=(getS_iff hF).1 hx
 have h3:=(getS_iff hS).2 ⟨hFS x h1,h2⟩
 unfold kindS
 rw [hx,h3]
theorem obj_sub {F:List StL} (hF:StoOk F) (hS:StoOk S) (hFS : ∀ y∈F,y∈S) {x:StL} (hx:x∈F):objS F x.id=objS S x.id:=by
 unfold objS
 rw [getS_self hF hx,getS_self hS (hFS x hx)]
/-- A whole repository with more objects that are closed is whole. -/
theorem union_whole {F A:List StL} {L m1 m2:List Txt} (hS:StoOk S) (hF:StoOk F) (hA:StoOk A) (hFS : ∀ y∈F,y∈S) (hAm : ∀ y,y∈A↔y∈F∨(y∈S∧y.id∈m1)) (hf:fineL []=true) (hw:wholeN F [] L=0) (h1:RchIs S L ini true m1) (h2:RchIs S L ini false m2) (hc:closB S L m1 m2=true):wholeN A [] L=0:=by
 obtain ⟨w1,w2⟩:=whole_zero hw
 have hc:=(clos_iff h1 h2).1 hc
 have hAS : ∀ y∈A,y∈S:=fun y hy=>by
  rcases (hAm y).1 hy with h | h
  ·exact hFS y h
  ·exact h.1
 have hFA : ∀ y∈F,y∈A:=fun y hy=>(hAm y).2 (.inl hy)
 refine whole_of ?_ (fun x hx=>?_) hf
 ·unfold shalB at w1 ⊢
  rw [Bool.and_eq_true,List.all_eq_true] at w1 ⊢
  refine ⟨fun n hn=>?_,w1.2⟩
  have h3:=w1.1 n hn
  unfold k3 at h3 ⊢
  have h4:kindS F n=3:=by simpa using h3
  rw [kind_sub hF hA hFA (by rw [h4];decide),h4]
  rfl
 ·rcases (hAm x).1 hx with h | ⟨hxS,hxm⟩
  ·obtain ⟨o,ho,hl⟩:=right_obj (w2 x h)
   rw [obj_sub hF hA hFA h] at ho
   exact right_of ho fun l hll=>by
    obtain ⟨e1,e2⟩:=hl l hll
    rw [kind_sub hF hA hFA (by rw [e1];exact e2),e1]
  ·have hr:=((h1.mem x.id).1 hxm).1
   obtain ⟨o,ho,hl⟩:=right_obj (hc x.id hr)
   have hoA:objS A x.id=some o:=by rw [obj_sub hA hS hAS hx];exact ho
   exact right_of hoA fun l hll=>by
    obtain ⟨e1,e2⟩:=hl l hll
    obtain ⟨u,ou,hu,hdu⟩:=kind_there (S:=S) (n:=l.id) (by rw [e1];exact e2)
    obtain ⟨u1,u2⟩:=(getS_iff hS).1 hu
    have hlr:Rch S L ini l.id:=hr.step (obj_next ho hll)
    have hlm:l.id∈m1:=(h1.mem l.id).2 ⟨hlr,by
     unfold isS objS
     rw [hu]
     simp only [hdu]
     rfl⟩
    have huA:u∈A:=(hAm u).2 (.inr ⟨u1,by rw [u2];exact hlm⟩)
    have:kindS A l.id=kindS S l.id:=by
     unfold kindS
     rw [hu,(getS_iff hA).2 ⟨huA,u2⟩]
    rw [this,e1]
end
end Go.Proofs.YtfdfoplmijmnaaaGreatDoor
