/- Texts of this claim, laid together: DocX, RsJ, DocY, DocZ, DocU, Pick, MkB, MkT. -/
import Derived.Test.YtodebknbchaccaaGreatDoorMi
namespace Go.Proofs.YtodebknbchaccaaGreatDoor
open Go.RowKit
section
def stvS (p:Addr) (v:Value):Sem Unit:=storeVar 34 p v
theorem stvS_eq (p:Addr) (v:Value):storeVar 34 p v=stvS p v:=rfl
def ldvT (p:Addr):Sem Value:=loadVar 98 p
theorem ldvT_eq (p:Addr):loadVar 98 p=ldvT p:=rfl
attribute [local go_sem ↓] ldvI_eq ldvO_eq ldvS_eq ldvT_eq stvI_eq stvS_eq
def OldOr (B:Nat) (es:List DiL) (e:DiL):Prop:=e∈es∨((∀ k,e.ve.ownBlock=some k→B≤k) ∧ ∀ k,e.vp.ownBlock=some k→B≤k)
def WithQ (B:Nat) (vm:Value) (es:List DiL) (L:List StL) (n:Txt) (b:Bool) (e:Ending) (w':World):Prop := ∃ vm' es',e = .returned (.tuple #[.agg #[vm'], .agg (u8s n), .bool b])∧DocSt w' vm' es'∧es'.map (·.st)=L∧(∀ e∈es',OldOr B es e)∧(vm'=vm ∨ ∀ k,vm'.ownBlock=some k→B≤k)
def WithR (w:World) (vm:Value) (es:List DiL) (t:Txt) (e:Ending) (w':World):Prop:=WithQ w.heap.size vm es (putS (es.map (·.st)) t) (putI t) (decO t).isSome e w'
theorem zEn {W:World} {g4 g5:Nat} {vm vz:Value} {n:Txt} {zi:Array Value} (h4:Blk W g4 34 #[vz]) (h5:Blk W g5 28 zi) (hne:g4≠g5) (hn:n.length=32) (hz:zi.size=32) (hv:vm.oneCell'=true) :
 (stvS ⟨g4,0,none⟩ (.agg #[vm])).run Tryz.prog W = .ok () (W.setRow g4 #[vm])∧(stvI ⟨g5,0,none⟩ (.agg (u8s n))).run Tryz.prog (W.setRow g4 #[vm]) = .ok () ((W.setRow g4 #[vm]).setRow g5 (u8s n)) ∧
 ((W.setRow g4 #[vm]).setRow g5 (u8s n)).heap[g4]?=some (.cells #[vm] 34 (0,0))∧((W.setRow g4 #[vm]).setRow g5 (u8s n)).heap[g5]?=some (.cells (u8s n) 28 (0,0)):=by
 have hl:(u8s n).size=32:=by rw [zAh,hn]
 have h5':Blk (W.setRow g4 #[vm]) g5 28 zi:=by
  show (W.setRow g4 #[vm]).heap[g5]?=_
  rw [setRow_other _ _ _ _ (fun e=>hne e.symm)]
  exact h5
 refine ⟨run_storeVar_row W g4 _ _ _ _ h4 szDSt rfl (by simp [hv]),run_storeVar_row _ g5 _ _ _ _ h5' (by rw [hl];exact sz32) (hz.trans hl.symm) (u8s_one n),?_,setRow_heap _ _ _ _ _ _ h5'⟩
 rw [setRow_other _ _ _ _ hne]
 exact setRow_heap _ _ _ _ _ _ h4
theorem acc_bounds {a n:Nat} (h:a≤n+1) (hf:n<490000):a+1≤9223372036854775807∧(a+1)*232≤140737488355328∧(a+1)+1≤9223372036854775807∧((a+1)+1)*232≤140737488355328:=by
 refine ⟨by omega,by omega,by omega,by omega⟩
theorem with_laid {F:World} {base:Nat} {vo:Value} {es:List DiL} {nw:DiL} {x:StL} {p B:Nat} (own:OwnDits F base vo (es.take p++[nw]++es.drop p)) (each : ∀ e∈es,DitOk F e) (hnw:DitOk F nw) (hst:nw.st=x) (hB:(∀ k,nw.ve.ownBlock=some k→B≤k) ∧ ∀ k,nw.vp.ownBlock=some k→B≤k)
 (hins:insK StL.id (es.map (·.st)) x=(es.take p).map (·.st)++[x]++(es.drop p).map (·.st)) (hput:StoOk (insK StL.id (es.map (·.st)) x)) : ∃ es',DocSt F vo es'∧es'.map (·.st)=insK StL.id (es.map (·.st)) x ∧ ∀ e∈es',OldOr B es e:=by
 have hmem : ∀ e∈es.take p++[nw]++es.drop p,DitOk F e:=by
  intro e he
  rcases List.mem_append.1 he with he | he
  ·rcases List.mem_append.1 he with he | he
   ·exact each e (List.mem_of_mem_take he)
   ·rw [List.mem_singleton.1 he];exact hnw
  ·exact each e (List.mem_of_mem_drop he)
 have hmap:(es.take p++[nw]++es.drop p).map (·.st)=insK StL.id (es.map (·.st)) x:=by
  rw [hins,List.map_append,List.map_append,←hst]
  rfl
 exact ⟨_,⟨zAE own (Nat.zero_le _),hmem,by rw [hmap];exact hput⟩,hmap,fun e he=>by
  rcases List.mem_append.1 he with he | he
  ·rcases List.mem_append.1 he with he | he
   ·exact .inl (List.mem_of_mem_take he)
   ·rw [List.mem_singleton.1 he];exact .inr hB
  ·exact .inl (List.mem_of_mem_drop he)⟩
theorem own_named {w:World} {base:Nat} {e:TypeId} {size n:Nat} {v:Value} {xs:List Value} (h:w.ownsRow base e size v n xs) : ∃ A c L,v = .slice A L c:=by
 obtain ⟨A,c,rfl⟩:=zAm h
 exact ⟨A,c,n,rfl⟩
theorem zEg {W:World} {g k:Nat} {t:TypeId} {cs:Array Value} (h:Blk W k t cs) (hne:k≠g) (c:Array Value):Blk (W.setRow g c) k t cs:=by
 show (W.setRow g c).heap[k]?=_
 rw [setRow_other _ _ _ _ hne]
 exact h
theorem zD8 (s:List StL) (n:Txt):hasK StL.id s n=(getS s n).isSome:=by
 unfold hasK getS
 rw [Bool.eq_iff_iff,List.any_eq_true,List.find?_isSome]
theorem less_from {s:List StL} {n:Txt} {x:StL} {k:Nat} (hs:SortedK StL.id s) (hh:hasK StL.id s n=false) (hx:s[k]?=some x):Op.bytesLess n x.id=decide (posK StL.id s n≤k):=by
 have h1:=sorted_at (n:=n) hs hx
 have hm:=hasK_mem hh x (List.mem_of_getElem? hx)
 cases hb:Op.bytesLess x.id n with
 | true=>
   rw [zDO hb]
   rw [hb] at h1
   have:=of_decide_eq_true h1.symm
   symm
   rw [decide_eq_false_iff_not]
   omega
 | false=>
   rw [zCM hb (by simpa using hm)]
   rw [hb] at h1
   have:=of_decide_eq_false h1.symm
   symm
   rw [decide_eq_true_iff]
   omega
end
section
structure ItmOk (p:Pl):Prop where
 base:p.1.base.length=32
 data:p.1.data.length≤5000
 back:p.1.back≤1000000
def ItmsR (n b:Nat) (e:Ending) (w':World):Prop := ∃ v L,e = .returned v∧OwnRits w' b v L∧L.length≤n ∧ ∀ p∈L,ItmOk p
theorem built_dRit (t:Txt):Tryz.prog.built 50 [(3, .string (B t))]=some (ritC (⟨0,0,noId',t⟩,0,0)).toArray:=by kernel_rfl
section
variable {w:World} {g:Nat} {p:Pl}
theorem RitB.setKind (h:RitB w g p) (n:Int):RitB (w.setCell ⟨g,0,none⟩ (.int .i64 n)) g ({ p.1 with kind:=n },p.2):=by
 refine ⟨?_,h.base⟩
 have:=h.blk.set_ 0 (.int .i64 n)
 rwa [List.setIfInBounds_toArray] at this
theorem RitB.setBase (h:RitB w g p) (i:Txt) (hi:i.length=32):RitB (w.setCells g 2 (u8s i).toList) g ({ p.1 with base:=i },p.2):=by
 refine ⟨?_,hi⟩
 have hb:Blk w g 50 ([Value.int .i64 p.1.kind,Value.int .i64 p.1.back]++((u8s p.1.base).toList++[Value.string (B p.1.data), .int .i64 p.2.1, .int .i64 p.2.2])).toArray:=h.blk
 exact Blk.splice (u8s i).toList 2 w _ _ _ hb rfl (by rw [zAT,zAT,h.base,hi])
theorem farSet {S:List (Option Nat)} {w0:World} {i:Nat} {v:Value} (h:Far S w0 w) (hg:some g∈S):Far S w0 (w.setCell ⟨g,i,none⟩ v):=h.set_ (p:=⟨g,i,none⟩) (.inl hg) v
theorem run_stvI15 (h:RitB w g p) (i:Txt) (hi:i.length=32):(stvI ⟨g,2,none⟩ (.agg (u8s i))).run Tryz.prog w = .ok () (w.setCells g 2 (u8s i).toList):=by
 have hs:(u8s i).size=32:=by rw [zAh,hi]
 exact run_storeVar_mid (P:=Tryz.prog) w g 2 28 (u8s i) (h.there 2 _ (by rw [hs];omega)) (by rw [hs];exact sz32) (u8s_one i)
end
def bldR15 (fs:Array (Nat×Value)):Sem Value:=Instr.build 50 fs
theorem bldR15_eq (fs:Array (Nat×Value)):Instr.build 50 fs=bldR15 fs:=rfl
theorem run_bldR15 (t:Txt) (W:World):(bldR15 #[(3, .string (B t))]).run Tryz.prog W = .ok (.agg (ritC (⟨0,0,noId',t⟩,0,0)).toArray) W:=run_build (P:=Tryz.prog) W _ _ _ (built_dRit t)
def zDitA : Array Value:=((u8s noId).toList ++ .string (B [])::objC zeroO (.slice none 0 0) (.slice none 0 0)).toArray
theorem zDitA_size : zDitA.size=105:=by kernel_rfl
theorem zeroDitT (W:World):(zeroValue 98).run Tryz.prog W = .ok (.agg zDitA) W:=by
 have h:(Tryz.prog.info? 98).map (·.zero)=some (some (.agg zDitA)):=by kernel_rfl
 obtain ⟨i,h1,h2⟩:=Option.map_eq_some_iff.1 h
 simp [zeroValue,typeInfo,h1,h2]
theorem run_ldvTr {w:World} {g o:Nat} {e:DiL} (h:w.rangeAt g o (ditC e)) (hl:(ditC e).length=105):(ldvT ⟨g,o,none⟩).run Tryz.prog w = .ok (.agg (ditC e).toArray) w:=run_loadVar_mid w g o 98 (ditC e) _ h Tryz.underlying98 rfl (by rw [hl];exact szDit)
attribute [local go_sem ↓] ldvI_eq ldvT_eq zDs stvI_eq bldR15_eq
set_option maxRecDepth 100000 in
set_option maxHeartbeats 16000000 in
theorem items16_calls {w:World} {vm:Value} {es:List DiL} (hD:DocSt w vm es) (l:List ThgL) (hl:l.length≤1000) (hraw : ∀ x∈l,x.raw.length≤5000) (vl:Value) (hvl:SliceAt w 4 thgC vl l) (ts:List Txt) (htl:ts.length≤1000000) (hts : ∀ t∈ts,t.length≤4096) (vt:Value) (hvt:Txs w vt ts) :
 Calls Tryz.prog 36 #[vl,vt, .agg #[vm]] w fun e w'=>ItmsR l.length w.heap.size e w'∧Below w.heap.size w w':=by
 obtain ⟨W1,hW1⟩ : ∃ W1,w.alloc (.cells #[vm] 34)=W1:=⟨_,rfl⟩
 have s1:Blk W1 w.heap.size 34 #[vm]:=by rw [←hW1];exact Blk.new _ _ _
 have b1:Below w.heap.size w W1:=by rw [←hW1];exact (Below.refl _ _).alloc (Nat.le_refl _) _
 have hle1:=b1.size
 have heach:=hD.each
 have hSok:=hD.ok
 have hfew:=hD.few
 obtain ⟨A,cap,rfl,hcap1,hcap2,hat⟩:=hD.at_
 have cS:=fun W (hW:Below W1.heap.size W1 W)=>(show W.cell? ⟨w.heap.size,0,none⟩=some (.slice A es.length cap) from (s1.below hW s1.lt).cell 0)
 have hszT:(Tryz.prog.info? 98).map (·.size)=some zDitA.size:=by rw [zDitA_size];exact szDit
 obtain ⟨Al,cl,rfl,hl1,hl2,hatl⟩:=hvl
 obtain ⟨At,ct,rfl,ht1,ht2,htat⟩:=hvt
 have h37z:(ritC zRit).toArray.size=37:=zBO (by kernel_rfl)
 have hzT:=zeroDitT
 clear s1 hD
 go_enter Tryz.func36,Tryz.ntmps36
 go_wp2_with (fail)
 go_loopg [7,8,9] l.length (fun f v7 v8 v9 wr => ∃ (va vb:Value) (L:List Pl) (T:List Txt),va=v7∧vb=v8∧v9 = .int .i64 T.length∧T.length+f=l.length∧OwnRits wr W1.heap.size va L∧OwnTxs wr W1.heap.size vb T∧Hid (L.length=T.length)∧(∀ p∈L,ItmOk p)∧(∀ t∈T,t.length≤4096)∧Below W1.heap.size W1 wr)
 case atStart=>exact ⟨_,_,[],[],rfl,rfl,rfl,by simp,World.ownsRow_nil _ _ _ _,World.ownsRow_nil _ _ _ _,Lib.hid rfl,(fun p hp=>by simp at hp),(fun t ht=>by simp at ht),Below.refl _ _⟩
 case round=>
  obtain ⟨va,vb,L,T,rfl,rfl,rfl,hkf,o7,o8,hLT,hLok,hTok,hbel⟩:=hrel
  clear hW1
  have hbs:=hbel.size
  have hb0:=bthen b1 hle1 hbel
  obtain ⟨A7,c7,rfl⟩:=zAm o7
  obtain ⟨A8,c8,rfl⟩:=zAm o8
  by_cases hgo:T.length<l.length
  ·have hki:(T.length:Int)<(l.length:Int):=by omega
   by_cases hn:0<ts.length
   ·have hni:(0:Int)<(ts.length:Int):=by omega
    obtain ⟨f,rfl⟩ : ∃ f,gk=f+1:=⟨gk-1,by omega⟩
    obtain ⟨gl,ol,rfl,hgl,hcl⟩:=hatl (by omega)
    obtain ⟨gt,ot,rfl,hgt,hct⟩:=htat (by omega)
    obtain ⟨x,hx⟩ : ∃ x,l[T.length]?=some x:=⟨_,List.getElem?_eq_getElem hgo⟩
    have hxr:=hraw x (List.mem_of_getElem? hx)
    have hxk:=x.kind.toNat_lt
    have hxt:=x.text.toNat_lt
    have hxb:=x.back.toNat_lt
    obtain ⟨K,hK⟩ : ∃ K,x.kind.toNat=K:=⟨_,rfl⟩
    obtain ⟨C,hC⟩ : ∃ C,x.text.toNat=C:=⟨_,rfl⟩
    obtain ⟨D,hDk⟩ : ∃ D,x.back.toNat=D:=⟨_,rfl⟩
    have hr:=fun W (hW:Below w.heap.size w W)=>zAb (hcl T.length x hx) hgl hW
    have cK : ∀ W,Below w.heap.size w W→W.cell? ⟨gl,ol+T.length*4,none⟩=some (.int .u8 (K:Int)):=fun W hW=>by have:=hr W hW 0 _ rfl;rw [Nat.add_zero] at this;rw [this,←hK];rfl
    have cC : ∀ W,Below w.heap.size w W→W.cell? ⟨gl,ol+T.length*4+1,none⟩=some (.int .u8 (C:Int)):=fun W hW=>by rw [hr W hW 1 _ rfl,←hC];rfl
    have cD : ∀ W,Below w.heap.size w W→W.cell? ⟨gl,ol+T.length*4+2,none⟩=some (.int .u8 (D:Int)):=fun W hW=>by rw [hr W hW 2 _ rfl,←hDk];rfl
    have cR : ∀ W,Below w.heap.size w W→W.cell? ⟨gl,ol+T.length*4+3,none⟩=some (.string (B x.raw)):=fun W hW=>hr W hW 3 _ rfl
    have hQl:C%ts.length<ts.length:=Nat.mod_lt _ hn
    obtain ⟨t,ht⟩ : ∃ t,ts[C%ts.length]?=some t:=⟨_,List.getElem?_eq_getElem hQl⟩
    have htm:=hts t (List.mem_of_getElem? ht)
    have ct0:=(zAb (hct _ t ht) hgt hb0) 0 _ rfl
    rw [Nat.add_zero,Nat.mul_one] at ct0
    have q1:(C:Int)%(ts.length:Int)=((C%ts.length:Nat):Int):=by simp
    have q1':(C:Int).tmod (ts.length:Int)=((C%ts.length:Nat):Int):=rfl
    have q2:((C%ts.length:Nat):Int)<(ts.length:Int):=by omega
    generalize C%ts.length=Q at *
    have cK0:=cK wr hb0
    have cC0:=cC wr hb0
    have hbd:=run_bldR15 t
    have h37:(ritC (⟨0,0,noId',t⟩,0,0)).toArray.size=37:=zBO (by kernel_rfl)
    have hone:=ritC_all (⟨0,0,noId',t⟩,0,0)
    have hR3 : ∀ W g,Blk W g 50 (ritC (⟨0,0,noId',t⟩,0,0)).toArray→RitB W g (⟨0,0,noId',t⟩,0,0):=fun W g h=>⟨h,zA5⟩
    have hp0:ItmOk (⟨0,0,noId',t⟩,0,0):=⟨zA5,by show t.length≤_;omega,by simp⟩
    obtain ⟨CX,hCX⟩ : ∃ CX,(ritC (⟨0,0,noId',t⟩,0,0)).toArray=CX:=⟨_,rfl⟩
    rw [hCX] at h37 hone
    simp only [hCX] at hbd hR3
    generalize ((⟨0,0,noId',t⟩,0,0):Pl)=p0 at *
    have hR3:=Lib.hid hR3
    clear hCX hr hx hcl hct ht hatl htat
    go_upto_region 8 with (first
     | ((with_reducible refine lit_new 50 (.tmp 11) (.tmp 37) CX 37 szRit h37 hone _ ?_ ?_ ?_ ?_)
        ·first | exact h37 | exact h37z | rfl
        ·rfl
        ·rfl
        intro w3 hk3 hb3))
    all_goals try (exfalso;omega)
    have r3:=hR3.out _ _ hk3
    have hgsz:W1.heap.size≤wr.heap.size:=hbs
    have n7 : ∀ k,(Value.slice A7 L.length c7).ownBlock=some k→some k ∉ [some wr.heap.size]:=fun k hk hm=>by have h1:=(World.ownsRow.lt o7 k hk).2;rw [List.mem_singleton.1 hm |> Option.some.inj] at h1;omega
    have n8 : ∀ k,(Value.slice A8 T.length c8).ownBlock=some k→some k ∉ [some wr.heap.size]:=fun k hk hm=>by have h1:=(World.ownsRow.lt o8 k hk).2;rw [List.mem_singleton.1 hm |> Option.some.inj] at h1;omega
    have w7o:=zAf o7 hb3
    have w8o:=zAf o8 hb3
    have b13:Below W1.heap.size W1 w3:=hbel.trans (hb3.mono hbs)
    have hsz3:=b13.size
    have hgs:some wr.heap.size∈[some wr.heap.size]:=List.mem_singleton.2 rfl
    have F1 : ∀ W,Far [some wr.heap.size] w3 W→Below W1.heap.size W1 W:=fun W hf=>b13.trans (hf.below hsz3 fun k hk=>by rw [List.mem_singleton.1 hk |> Option.some.inj];omega)
    have F0 : ∀ W,Far [some wr.heap.size] w3 W→Below w.heap.size w W:=fun W hf=>bthen b1 hle1 (F1 W hf)
    have f3:Far [some wr.heap.size] w3 w3:=Far.refl _ _
    have cK3:=cK w3 (F0 w3 f3)
    clear hR3 hk3 hb3 hbd h37 hone cK0 cC0 ct0 o7 o8 cC q1 q1' q2 hQl
    (try simp only [Act.put,zA,zB,zC])
    obtain ⟨C1,hC1⟩ : ∃ C1,(decide (K%3=1)&&decide (0<T.length))=C1:=⟨_,rfl⟩
    go_cut [48] from 38 to 48 (fun s48 wx=>s48 = .bool C1∧wx=w3)
    case first=>
     by_cases h1:K%3=1
     ·have e1:((K:Int)%3==1)=true:=by simp;omega
      have e2:((K:Int).tmod 3==1)=true:=by rw [show (K:Int).tmod 3=((K%3:Nat):Int) from rfl];simp;omega
      have hC2:Hid (C1=decide (0<T.length)):=Lib.hid (by rw [←hC1];simp [h1])
      clear h1 hC1 hxk
      by_cases h0:0<T.length
      ·have h0i:(0:Int)<(T.length:Int):=by omega
       go_wp2_with (fail)
       all_goals try (exfalso;omega)
       go_meet
       case rel=>exact ⟨by rw [hC2.out];simp [h0],rfl⟩
      ·have h0i : ¬ (0:Int)<(T.length:Int):=by omega
       go_wp2_with (fail)
       all_goals try (exfalso;omega)
       go_meet
       case rel=>exact ⟨by rw [hC2.out];simp [h0],rfl⟩
     ·have e1:((K:Int)%3==1)=false:=by simp;omega
      have e2:((K:Int).tmod 3==1)=false:=by rw [show (K:Int).tmod 3=((K%3:Nat):Int) from rfl];simp;omega
      have hC2:Hid (C1=false):=Lib.hid (by rw [←hC1];simp [h1])
      clear h1 hC1 hxk
      go_wp2_with (fail)
      all_goals try (exfalso;omega)
      go_meet
      case rel=>exact ⟨by rw [hC2.out],rfl⟩
    case rest=>
    obtain ⟨rfl,rfl⟩:=hcut
    rename World=>w3
    go_upto_if 48 with (fail)
    go_cut [] from 49 to 69 (fun wx => ∃ p,RitB wx wr.heap.size p∧ItmOk p∧Far [some wr.heap.size] w3 wx)
    case first=>
     cases C1 with
     | false=>
       clear hC1
       go_wp2_with (fail)
       go_meet
       case rel=>exact ⟨p0,r3,hp0,f3⟩
     | true=>
       simp only [Bool.and_eq_true,decide_eq_true_eq] at hC1
       obtain ⟨_,h0⟩:=hC1
       have k0:=r3.kind
       have k1:=r3.fr 0
       go_upto_region 10 with (fail)
       have r4:=r3.setKind 1
       have f4:=farSet (i:=0) (v := .int .i64 1) f3 hgs
       generalize w3.setCell ⟨wr.heap.size,0,none⟩ (.int .i64 1)=w4 at *
       have hml:=Nat.mod_lt D h0
       have e3:(D:Int)%(T.length:Int)=((D%T.length:Nat):Int):=by simp
       have e4:(D:Int).tmod (T.length:Int)=((D%T.length:Nat):Int):=rfl
       generalize D%T.length=E at *
       have q1:IntKind.i64.wrap (1+(E:Int))=((1+E:Nat):Int):=by rw [IntWalk.i64_in _ (by omega)];omega
       have q0 : ¬ (T.length:Int)=0:=by omega
       have q0':((T.length:Int)==0)=false:=beq_eq_false_iff_ne.2 (by omega)
       have cD4:=cD w4 (F0 w4 f4)
       have m0:=r4.back
       have m1:=r4.fr 1
       clear k0 k1
       go_upto_region 11 with (fail)
       have r5:=r4.setBack (1+(E:Int))
       have f5:=farSet (i:=1) (v := .int .i64 (1+(E:Int))) f4 hgs
       generalize w4.setCell ⟨wr.heap.size,1,none⟩ (.int .i64 (1+(E:Int)))=w5 at *
       have m2:w5.cell? ⟨wr.heap.size,1,none⟩=some (.int .i64 (1+(E:Int))):=r5.back
       have hJ:T.length-(1+E)<T.length:=by omega
       obtain ⟨u,hu⟩ : ∃ u,T[T.length-(1+E)]?=some u:=⟨_,List.getElem?_eq_getElem hJ⟩
       have hum:=hTok u (List.mem_of_getElem? hu)
       obtain ⟨A',c',he,_,_,hat8⟩:=OwnTxs.txs (f5.own w8o n8)
       injection he with he1 _ he3
       subst he1
       subst he3
       obtain ⟨g8,o8,rfl,_,hc8⟩:=hat8 h0
       have c8u:=hc8 _ u hu 0 _ rfl
       rw [Nat.add_zero,Nat.mul_one] at c8u
       clear m0 m1 q1 e3 e4 hat8 hc8 cD4
       have hw5:IntKind.i64.wrap ((T.length:Int)-(1+(E:Int)))=((T.length-(1+E):Nat):Int):=by rw [IntWalk.i64_in _ (by omega)];omega
       have hJi:((T.length-(1+E):Nat):Int)<(T.length:Int):=by omega
       generalize T.length-(1+E)=J at *
       clear hu
       go_wp2_with (first
        | ((with_reducible refine (zDo u t (by omega) (by omega) _).mono ?_);rintro e w6 ⟨⟨d,rfl,hd⟩,hb6⟩
           have r6:=r5.below hb6
           have m3:=r6.data
           have m4:=r6.fr 34))
       all_goals try (exfalso;omega)
       go_meet
       case rel=>exact ⟨_,r6.setData d,⟨hp0.base,by show d.length≤_;omega,by show 1+(E:Int)≤_;omega⟩,farSet (f5.more hb6) hgs⟩
    case rest=>
    rename World=>w7
    obtain ⟨p7,r7,hp7,f7⟩:=hcut
    clear r3 hp0 f3 cK3 hC1
    have cK7:=cK w7 (F0 w7 f7)
    have cS7:=cS w7 (F1 w7 f7)
    obtain ⟨C2,hC2⟩ : ∃ C2,(decide (K%3=2)&&decide (0<es.length))=C2:=⟨_,rfl⟩
    go_upto_region 12 with (fail)
    go_cut [82] from 70 to 82 (fun s82 wx=>s82 = .bool C2∧wx=w7)
    case first=>
     by_cases h1:K%3=2
     ·have e1:((K:Int)%3==2)=true:=by simp;omega
      have e2:((K:Int).tmod 3==2)=true:=by rw [show (K:Int).tmod 3=((K%3:Nat):Int) from rfl];simp;omega
      have hC3:Hid (C2=decide (0<es.length)):=Lib.hid (by rw [←hC2];simp [h1])
      clear h1 hC2 hxk
      by_cases h0:0<es.length
      ·have h0i:(0:Int)<(es.length:Int):=by omega
       go_wp2_with (fail)
       all_goals try (exfalso;omega)
       go_meet
       case rel=>exact ⟨by rw [hC3.out];simp [h0],rfl⟩
      ·have h0i : ¬ (0:Int)<(es.length:Int):=by omega
       go_wp2_with (fail)
       all_goals try (exfalso;omega)
       go_meet
       case rel=>exact ⟨by rw [hC3.out];simp [h0],rfl⟩
     ·have e1:((K:Int)%3==2)=false:=by simp;omega
      have e2:((K:Int).tmod 3==2)=false:=by rw [show (K:Int).tmod 3=((K%3:Nat):Int) from rfl];simp;omega
      have hC3:Hid (C2=false):=Lib.hid (by rw [←hC2];simp [h1])
      clear h1 hC2 hxk
      go_wp2_with (fail)
      all_goals try (exfalso;omega)
      go_meet
      case rel=>exact ⟨by rw [hC3.out],rfl⟩
    case rest=>
    obtain ⟨rfl,rfl⟩:=hcut
    rename World=>w7
    go_upto_if 82 with (fail)
    go_cut [] from 83 to 105 (fun wx => ∃ p,RitB wx wr.heap.size p∧ItmOk p∧Far [some wr.heap.size] w3 wx)
    case first=>
     cases C2 with
     | false=>
       clear hC2
       go_wp2_with (fail)
       go_meet
       case rel=>exact ⟨p7,r7,hp7,f7⟩
     | true=>
       simp only [Bool.and_eq_true,decide_eq_true_eq] at hC2
       obtain ⟨_,h0⟩:=hC2
       obtain ⟨gd,od,rfl,hgd,hcd⟩:=hat h0
       have hml:=Nat.mod_lt D h0
       have e3:(D:Int)%(es.length:Int)=((D%es.length:Nat):Int):=by simp
       have e4:(D:Int).tmod (es.length:Int)=((D%es.length:Nat):Int):=rfl
       have e5:IntKind.i64.wrap (D:Int)=(D:Int):=by rw [IntWalk.i64_in _ (by omega)]
       generalize D%es.length=E at *
       have q0 : ¬ (es.length:Int)=0:=by omega
       have q0':((es.length:Int)==0)=false:=beq_eq_false_iff_ne.2 (by omega)
       have q3:(E:Int)<(es.length:Int):=by omega
       have hes : ¬ es=[]:=List.ne_nil_of_length_pos h0
       obtain ⟨y,hy⟩ : ∃ y,es[E]?=some y:=⟨_,List.getElem?_eq_getElem hml⟩
       have hyo:=heach y (List.mem_of_getElem? hy)
       have hyl:=zDr hyo
       have hysz:(ditC y).toArray.size=zDitA.size:=by rw [List.size_toArray,hyl,zDitA_size]
       have hy1:(ditC y).toArray.all (·.oneCell')=true:=all_oneCell_toArray (ditC_one hyo)
       have b07:=F0 w7 f7
       have b17:=F1 w7 f7
       have hsz7:=b17.size
       have hyt:y.st.text.length≤4096:=by
        obtain ⟨o,ho⟩:=(hSok.each y.st (List.mem_map.2 ⟨y,List.mem_of_getElem? hy,rfl⟩)).2
        exact (zB1 ho).2
       have cY:=fun W (hW:Below w7.heap.size w7 W)=>run_ldvTr (zAb (hcd E y hy) hgd (bthen b07 b07.size hW)) hyl
       have rY : ∀ W g,Blk W g 98 (ditC y).toArray→W.rangeAt g 0 (ditC y):=fun W g hb=>by have:=zAj hb;rwa [List.toList_toArray] at this
       obtain ⟨YC,hYC⟩ : ∃ YC,(ditC y).toArray=YC:=⟨_,rfl⟩
       rw [hYC] at hysz hy1
       simp only [hYC] at cY rY
       clear hYC hy hcd hyl hat
       go_upto_region 13 with (fail)
       refine zAw 16 (by kernel_rfl) (by kernel_rfl) (by kernel_rfl) (by kernel_rfl) ?_
       simp only [exSp]
       iterate 16 apply Exists.intro
       repeat
        first
         | ((with_reducible apply lx0_ex)
            ·(go_simp;done)
            apply Exists.intro
            apply And.intro
            ·apply Eq.refl
            apply And.intro
            ·intro W hW hD
             have q4:=cS W (b17.trans (hW.mono hsz7))
             have q5:=cD W (bthen b07 b07.size hW)
             have q6:=cY W hW
             go_simp
             rfl
            simp only [Act.put,zA,zB,zC])
         | ((with_reducible apply zAZ)
            ·(first | rfl | (go_simp;done))
            ·apply Eq.refl
            simp only [Act.put,zA,zB,zC])
         | ((with_reducible apply lx_al 98 zDitA hzT)
            ·apply Eq.refl
            intro v
            simp only [Act.put,zA,zB,zC])
         | ((with_reducible apply lx_st' 14 98 zDitA hszT (by kernel_rfl))
            ·exact rfl
            ·apply Eq.refl
            apply Exists.intro
            apply Exists.intro
            apply And.intro
            ·(go_simp;rfl)
            apply And.intro
            ·(go_simp;rfl)
            refine ⟨?_,fun W hW hD=>?_,?_⟩
            ·first | exact List.Mem.head _ | exact List.Mem.tail _ (List.Mem.head _) | exact List.Mem.tail _ (List.Mem.tail _ (List.Mem.head _)) | exact List.Mem.tail _ (List.Mem.tail _ (List.Mem.tail _ (List.Mem.head _)))
            ·exact ⟨YC,rfl,hysz,hy1⟩)
       refine lx0_nil ?_ fun w5 hW5 hD5=>?_
       ·exact (by simp [stsOf])
       obtain ⟨_,g12,cs,rfl,hcs,hg1,_,hg2⟩:=hD5 _ (.head _)
       obtain rfl:YC=cs:=by injection hcs
       clear hcs hD5 cY
       have r8:=r7.below hW5
       have f8:=f7.more hW5
       have k0:=r8.kind
       have k1:=r8.fr 0
       go_upto_region 15 with (fail)
       have r9:=r8.setKind 2
       have f9:=farSet (i:=0) (v := .int .i64 2) f8 hgs
       have hg1:w7.heap.size≤g12:=hg1
       have n12 : ¬ g12=wr.heap.size:=fun e=>by have:=r7.blk.lt;omega
       have f89:Far [some wr.heap.size] w5 (w5.setCell ⟨wr.heap.size,0,none⟩ (.int .i64 2)):=farSet (Far.refl _ _) hgs
       have y9:=f89.blk hg2 (fun hm=>n12 (Option.some.inj (List.mem_singleton.1 hm)))
       generalize w5.setCell ⟨wr.heap.size,0,none⟩ (.int .i64 2)=w9 at *
       have ldy:=zAi (dit_id (rY _ _ y9)) hyo.id
       have sty:=run_stvI15 r9 y.st.id hyo.id
       clear k0 k1 hg2 r8 f89
       go_upto_region 16 with (fail)
       have r10:=r9.setBase y.st.id hyo.id
       have f910:Far [some wr.heap.size] w9 (w9.setCells wr.heap.size 2 (u8s y.st.id).toList):=Far.cells (.inl hgs) _ _ _ (Far.refl _ _)
       have f10:=f9.trans f910
       have y10:=f910.blk y9 (fun hm=>n12 (Option.some.inj (List.mem_singleton.1 hm)))
       generalize w9.setCells wr.heap.size 2 (u8s y.st.id).toList=w10 at *
       have ty:=zCm (rY _ _ y10) hyo.id
       rw [Nat.zero_add] at ty
       clear ldy sty y9 f910
       go_wp2_with (first
        | ((with_reducible refine (zDo y.st.text t (by omega) (by omega) _).mono ?_);rintro e w11 ⟨⟨d,rfl,hd⟩,hb11⟩
           have r11:=r10.below hb11
           have m3:=r11.data
           have m4:=r11.fr 34))
       all_goals try (exfalso;omega)
       go_meet
       case rel=>exact ⟨_,r11.setData d,⟨hyo.id,by show d.length≤_;omega,hp7.back⟩,farSet (f10.more hb11) hgs⟩
    case rest=>
    rename World=>w12
    obtain ⟨p12,r12,hp12,f12⟩:=hcut
    have cR12:=cR w12 (F0 w12 f12)
    clear r7 hp7 cK7 cS7 hC2 f7 hat
    go_upto_region 17 with (fail)
    go_cut [111] from 106 to 111 (fun s111 wx=>s111 = .bool (!decide (x.raw=[]))∧wx=w12)
    case first=>
     by_cases hr0:x.raw=[]
     ·have hre:(x.raw==[])=true:=by simp [hr0]
      have hre2:x.raw.isEmpty=true:=by simp [hr0]
      have hC3:Hid ((!decide (x.raw=[]))=false):=Lib.hid (by simp [hr0])
      clear hr0
      go_wp2_with (fail)
      all_goals try (exfalso;omega)
      go_meet
      case rel=>exact ⟨by rw [hC3.out],rfl⟩
     ·have hre:(x.raw==[])=false:=by simp [hr0]
      have hre2:x.raw.isEmpty=false:=by simp [hr0]
      have hC3:Hid ((!decide (x.raw=[]))=true):=Lib.hid (by simp [hr0])
      clear hr0
      go_wp2_with (fail)
      all_goals try (exfalso;omega)
      go_meet
      case rel=>exact ⟨by rw [hC3.out],rfl⟩
    case rest=>
    obtain ⟨rfl,rfl⟩:=hcut
    rename World=>w12
    obtain ⟨C3,hC3⟩ : ∃ C3,(!decide (x.raw=[]))=C3:=⟨_,rfl⟩
    rw [hC3]
    clear hC3
    go_upto_if 111 with (fail)
    go_cut [] from 112 to 117 (fun wx => ∃ p,RitB wx wr.heap.size p∧ItmOk p∧Far [some wr.heap.size] w3 wx)
    case first=>
     cases C3 with
     | false=>
       go_wp2_with (fail)
       go_meet
       case rel=>exact ⟨p12,r12,hp12,f12⟩
     | true=>
       have m3:=r12.data
       have m4:=r12.fr 34
       go_wp2_with (fail)
       all_goals try (exfalso;omega)
       go_meet
       case rel=>exact ⟨_,r12.setData x.raw,⟨hp12.base,hxr,hp12.back⟩,farSet f12 hgs⟩
    case rest=>
    rename World=>w14
    obtain ⟨p,r14,hp14,f14⟩:=hcut
    have o7:=f14.own w7o n7
    have o8:=f14.own w8o n8
    have b14:=F1 w14 f14
    have hsz14:=b14.size
    have ldr:=r14.load
    have h37:(ritC p).toArray.size=37:=zBO hp14.base
    have h371:(ritC p).toArray.size=1*37:=h37
    have hone : ∀ u∈(ritC p).toArray.toList,u.oneCell'=true:=by rw [List.toList_toArray];exact ritC_one p
    obtain ⟨CP,hCP⟩ : ∃ CP,(ritC p).toArray=CP:=⟨_,rfl⟩
    rw [hCP] at ldr h37 h371 hone
    have hrow : ∀ (W:World) (v:Value),W.ownsRow W1.heap.size 50 37 v (L.length+1) (rowsOf ritC L++CP.toList)→OwnRits W W1.heap.size v (L++[p]):=fun W v h=>by
     rw [←hCP,List.toList_toArray] at h
     unfold OwnRits
     rw [List.length_append,List.length_singleton,zAo,zAx]
     exact h
    have hrow:=Lib.hid hrow
    have hL1:=hLT.out
    have m1:L.length+1≤9223372036854775807:=by omega
    have m2:(L.length+1)*80≤140737488355328:=by omega
    have m3:T.length+1≤9223372036854775807:=by omega
    have m4:(T.length+1)*16≤140737488355328:=by omega
    have hc1:(#[Value.string (B t)]:Array Value).size=1*1:=rfl
    have hc2 : ∀ u∈(#[Value.string (B t)]:Array Value).toList,u.oneCell'=true:=by intro u hu;rw [show u = .string (B t) by simpa using hu];rfl
    have hlen:Hid ((T++[t]).length=T.length+1):=Lib.hid (by rw [List.length_append];rfl)
    have hLT2:Hid ((L++[p]).length=(T++[t]).length):=Lib.hid (by rw [List.length_append,List.length_append];simp;exact hL1)
    have hLok2:Hid (∀ q∈L++[p],ItmOk q):=Lib.hid (fun q hq=>by
     rcases List.mem_append.1 hq with hq | hq
     ·exact hLok q hq
     ·rw [List.mem_singleton.1 hq];exact hp14)
    have hTok2:Hid (∀ q∈T++[t],q.length≤4096):=Lib.hid (fun q hq=>by
     rcases List.mem_append.1 hq with hq | hq
     ·exact hTok q hq
     ·rw [List.mem_singleton.1 hq];exact htm)
    clear hCP hL1 r14 hp14 f14 hp12 r12 f12 F0 F1 cK cD cR cR12 w7o w8o hLok hTok n7 n8
    go_wp2_with (first
     | ((with_reducible refine zAN (.tmp 119) Tryz.ritTy CP h37 (by omega) ?_ ?_);rfl)
     | (at_builtin
        (with_reducible refine zAl (.tmp 118) (.tmp 120) 1 _ Tryz.ritTy o7 CP h371 hone m1 m2 hsz14 ?_ ?_ ?_);rfl;rfl
        intro v16 w16 hv16 hb16 hg16 hn16
        clear hn16
        have o8':=World.ownsRow.kept o8 hg16 (zB8 o8 o7 (by decide))
        have b16:=b14.trans hb16
        have hsz16:=b16.size)
     | (at_builtin
        (with_reducible refine zAl (.tmp 122) (.tmp 124) 1 _ Tryz.txTy o8' #[.string (B t)] hc1 hc2 m3 m4 hsz16 ?_ ?_ ?_);rfl;rfl
        intro v17 w17 hv17 hb17 hg17 hn17
        clear hn17
        have o7':=World.ownsRow.kept hv16 hg17 (zB8 hv16 o8' (by decide))
        have b17:=b16.trans hb17))
    all_goals try (exfalso;omega)
    go_roundg f
    case rel=>exact ⟨_,_,L++[p],T++[t],rfl,rfl,by rw [hlen.out];go_num,by rw [hlen.out];omega,hrow.out _ _ o7',OwnTxs.more hv17,hLT2,hLok2.out,hTok2.out,b17⟩
    case measure=>omega
   ·have hni : ¬ (0:Int)<(ts.length:Int):=by omega
    have hle:L.length≤l.length:=by rw [hLT.out];omega
    clear hat hatl htat
    go_wp2_with (fail)
    all_goals try (exfalso;omega)
    go_ret
    exact ⟨⟨_,L,rfl,zAE o7 hle1,hle,hLok⟩,hb0⟩
  ·have hki : ¬ (T.length:Int)<(l.length:Int):=by omega
   have hle:L.length≤l.length:=by rw [hLT.out];omega
   clear hat hatl htat
   go_wp2_with (fail)
   all_goals try (exfalso;omega)
   go_ret
   exact ⟨⟨_,L,rfl,zAE o7 hle1,hle,hLok⟩,hb0⟩
end
section
attribute [local go_sem ↓] ldvI_eq ldvO_eq ldvS_eq ldvT_eq stvI_eq stvS_eq
set_option maxRecDepth 100000 in
set_option maxHeartbeats 16000000 in
theorem docWith_none {w:World} {vm:Value} {es:List DiL} (h:DocSt w vm es) (hf:es.length<490000) (t:Txt) (ht:t.length≤5000) (hd:decO t=none) :
 Calls Tryz.prog 35 #[.agg #[vm], .string (B t)] w fun e w'=>WithR w vm es t e w'∧Below w.heap.size w w':=by
 have hzI:=zeroIdV
 have hzo:=zeroObj
 have hz72:=zAu
 have hrb:=fun W=>run_build (P:=Tryz.prog) W _ _ _ zCc
 have hZ32:(u8s noId).size=32:=by rw [zAh,zAc]
 have hZone:=u8s_one noId
 have hszI : ∀ cs:Array Value,cs.size=32→(Tryz.prog.info? 28).map (·.size)=some cs.size:=fun cs h=>by rw [h];exact sz32
 obtain ⟨W1,hW1⟩ : ∃ W1,w.alloc (.cells #[vm] 34)=W1:=⟨_,rfl⟩
 have s1:Blk W1 w.heap.size 34 #[vm]:=by rw [←hW1];exact Blk.new _ _ _
 have b1:Below w.heap.size w W1:=by rw [←hW1];exact (Below.refl _ _).alloc (Nat.le_refl _) _
 obtain ⟨W2,hW2⟩ : ∃ W2,W1.alloc (.cells #[.slice none 0 0] 34)=W2:=⟨_,rfl⟩
 have r2:Blk W2 W1.heap.size 34 #[.slice none 0 0]:=by rw [←hW2];exact Blk.new _ _ _
 have bb2:Below W1.heap.size W1 W2:=by rw [←hW2];exact (Below.refl _ _).alloc (Nat.le_refl _) _
 obtain ⟨W3,hW3⟩ : ∃ W3,W2.alloc (.cells (u8s noId) 28)=W3:=⟨_,rfl⟩
 have i3:Blk W3 W2.heap.size 28 (u8s noId):=by rw [←hW3];exact Blk.new _ _ _
 have bb3:Below W2.heap.size W2 W3:=by rw [←hW3];exact (Below.refl _ _).alloc (Nat.le_refl _) _
 have s2:=s1.below bb2 s1.lt
 have s3:=s2.below bb3 s2.lt
 have r3:=r2.below bb3 r2.lt
 have b2:=bthen b1 b1.size bb2
 have b3:=bthen b2 b2.size bb3
 have hl1:=s1.lt
 have hl2:=r2.lt
 have hvm:vm.oneCell'=true:=by
  obtain ⟨A,cap,rfl,_⟩:=h.at_
  rfl
 have hde:=zBs t ht W3
 have hn0:(List.replicate 32 (0:UInt8))=noId:=rfl
 unfold WithR
 rw [hd]
 have hpi:putI t=noId:=by unfold putI;rw [hd];exact hn0
 have hps : ∀ s,putS s t=s:=fun s=>by unfold putS;rw [hd]
 rw [hpi,hps]
 rw [hd] at hde
 have hde:Hid (Calls Tryz.prog 24 #[.string (B t)] W3 fun e w'=>e = .returned (.tuple #[.agg zObj, .bool false])∧Below W3.heap.size W3 w'):=hde
 have hzone:zObj.all (·.oneCell')=true:=zAz zeroO none none 0 0 0 0
 have hst:=h
 clear h hd hpi hps hn0
 generalize zObj=ZO at *
 go_enter Tryz.func35,Tryz.ntmps35
 go_wp2_with (first
  | ((with_reducible refine hde.out.mono ?_);rintro e w4 ⟨rfl,hb4⟩
     have b4:=bthen b3 b3.size hb4
     have s4:=s3.below hb4 s3.lt
     have r4:=r3.below hb4 r3.lt
     have i4:=i3.below hb4 i3.lt)
  | ((with_reducible refine lit_new 74 (.tmp 7) (.tmp 17) ZO 72 szObj hz72 hzone _ ?_ ?_ ?_ ?_)
     ·first | exact hz72 | rfl
     ·rfl
     ·rfl
     intro W5 hb5 hbl5
     have b5:=bthen b4 b4.size hbl5
     have s5:=s4.below hbl5 s4.lt
     have r5:=r4.below hbl5 r4.lt
     have i5:=i4.below hbl5 i4.lt
     have l5:=zAF s5
     obtain ⟨t1,t2,t3,t4⟩:=zEn (n:=noId) r5 i5 (by omega) zAc hZ32 hvm))
 have bF:=zAa (zAa b5 (Nat.le_of_lt hl1) #[vm]) (Nat.le_of_lt (Nat.lt_of_lt_of_le hl1 (Nat.le_of_lt hl2))) (u8s noId)
 refine bodyPost_ret (zBh rfl _ _ W1.heap.size W2.heap.size _ _ _ _ _ _ _ _ rfl t3 rfl t4 Tryz.underlying34 rfl szDSt Tryz.underlying28 rfl (hszI _ hZ32)) rfl ⟨⟨vm,es,rfl,hst.below bF,rfl,fun e he => .inl he, .inl rfl⟩,bF⟩
set_option maxRecDepth 100000 in
set_option maxHeartbeats 16000000 in
theorem docWith_hit {w:World} {vm:Value} {es:List DiL} (h:DocSt w vm es) (hf:es.length<490000) (t:Txt) (ht:t.length≤5000) {o:ObjL} (hd:decO t=some o) {y:StL} (hG:getS (es.map (·.st)) (shaOf t)=some y) :
 Calls Tryz.prog 35 #[.agg #[vm], .string (B t)] w fun e w'=>WithR w vm es t e w'∧Below w.heap.size w w':=by
 have hzI:=zeroIdV
 have hzo:=zeroObj
 have hz72:=zAu
 have hrb:=fun W=>run_build (P:=Tryz.prog) W _ _ _ zCc
 have hZ32:(u8s noId).size=32:=by rw [zAh,zAc]
 have hZone:=u8s_one noId
 have hszI : ∀ cs:Array Value,cs.size=32→(Tryz.prog.info? 28).map (·.size)=some cs.size:=fun cs h=>by rw [h];exact sz32
 obtain ⟨W1,hW1⟩ : ∃ W1,w.alloc (.cells #[vm] 34)=W1:=⟨_,rfl⟩
 have s1:Blk W1 w.heap.size 34 #[vm]:=by rw [←hW1];exact Blk.new _ _ _
 have b1:Below w.heap.size w W1:=by rw [←hW1];exact (Below.refl _ _).alloc (Nat.le_refl _) _
 obtain ⟨W2,hW2⟩ : ∃ W2,W1.alloc (.cells #[.slice none 0 0] 34)=W2:=⟨_,rfl⟩
 have r2:Blk W2 W1.heap.size 34 #[.slice none 0 0]:=by rw [←hW2];exact Blk.new _ _ _
 have bb2:Below W1.heap.size W1 W2:=by rw [←hW2];exact (Below.refl _ _).alloc (Nat.le_refl _) _
 obtain ⟨W3,hW3⟩ : ∃ W3,W2.alloc (.cells (u8s noId) 28)=W3:=⟨_,rfl⟩
 have i3:Blk W3 W2.heap.size 28 (u8s noId):=by rw [←hW3];exact Blk.new _ _ _
 have bb3:Below W2.heap.size W2 W3:=by rw [←hW3];exact (Below.refl _ _).alloc (Nat.le_refl _) _
 have s2:=s1.below bb2 s1.lt
 have s3:=s2.below bb3 s2.lt
 have r3:=r2.below bb3 r2.lt
 have b2:=bthen b1 b1.size bb2
 have b3:=bthen b2 b2.size bb3
 have hl1:=s1.lt
 have hl2:=r2.lt
 have hvm:vm.oneCell'=true:=by
  obtain ⟨A,cap,rfl,_⟩:=h.at_
  rfl
 have hde:=zBs t ht W3
 have hn0:(List.replicate 32 (0:UInt8))=noId:=rfl
 unfold WithR
 rw [hd]
 obtain ⟨n,hnn⟩ : ∃ n,shaOf t=n:=⟨_,rfl⟩
 rw [hnn] at hG
 have hn:n.length=32:=by rw [←hnn];exact zAQ _
 have hpi:putI t=n:=by unfold putI;rw [hd];exact hnn
 have hps : ∀ s,putS s t=if hasK StL.id s n then s else insK StL.id s ⟨n,t⟩:=fun s=>by unfold putS;rw [hd];simp only [hnn]
 rw [hpi,hps,zD8]
 rw [hd] at hde
 have hde:Hid (Calls Tryz.prog 24 #[.string (B t)] W3 fun e w'=>(∃ A1 A2 k1 k2,e = .returned (.tuple #[.agg (objC o (.slice A1 o.ents.length k1) (.slice A2 o.pars.length k2)).toArray, .bool true])∧ObjV w' (.slice A1 o.ents.length k1) (.slice A2 o.pars.length k2) o∧OwnEnts w' W3.heap.size (.slice A1 o.ents.length k1) o.ents∧OwnIds w' W3.heap.size (.slice A2 o.pars.length k2) o.pars)∧Below W3.heap.size W3 w'):=hde.mono fun e w' ⟨⟨A1,A2,k1,k2,h1,h2,h4⟩,h3⟩=>⟨⟨A1,A2,k1,k2,h1,h2,h4⟩,h3⟩
 have hsum : ∀ W,Calls Tryz.prog 23 #[.string (B t)] W fun e w'=>e = .returned (.agg (u8s n))∧Below W.heap.size W w':=fun W=>by
  have:=zD2 t W (by omega)
  rwa [hnn] at this
 have hn32:(u8s n).size=32:=by rw [zAh,hn]
 have hnone:=u8s_one n
 have hst:=h
 have hatn:=fun (W:World) (hW:Below w.heap.size w W)=>zBv (h.below hW) n hn
 unfold AtR at hatn
 have hh:=zD8 (es.map (·.st)) n
 rw [hG] at hh ⊢
 have hat2:Hid (∀ W,Below w.heap.size w W→Calls Tryz.prog 34 #[.agg #[vm], .agg (u8s n)] W fun e w'=>(∃ k:Nat,e = .returned (.int .i64 k))∧Below W.heap.size W w'):=fun W hW=>(hatn W hW).mono fun e w' ⟨h1,h2⟩=>by
  rcases h1 with ⟨k,x,he,_,hx⟩ | ⟨_,hx⟩
  ·exact ⟨⟨k,he⟩,h2⟩
  ·rw [hG] at hx;cases hx
 simp only [Option.isSome_some,if_true]
 clear h hd hpi hps hn0 hatn hh hG hnn
 have hzone:zObj.all (·.oneCell')=true:=zAz zeroO none none 0 0 0 0
 generalize zObj=ZO at *
 go_enter Tryz.func35,Tryz.ntmps35
 go_wp2_with (first
  | ((with_reducible refine hde.out.mono ?_);rintro e w4 ⟨⟨A1,A2,k1,k2,rfl,hov,hoe,hop⟩,hb4⟩
     have b4:=bthen b3 b3.size hb4
     have s4:=s3.below hb4 s3.lt
     have r4:=r3.below hb4 r3.lt
     have i4:=i3.below hb4 i3.lt
     have hc72:(objC o (.slice A1 o.ents.length k1) (.slice A2 o.pars.length k2)).toArray.size=72:=by rw [List.size_toArray,zAC hov.ok]
     have hcone:=zAz o A1 A2 o.ents.length k1 o.pars.length k2)
  | ((with_reducible refine lit_new 74 (.tmp 7) (.tmp 17) (objC o (.slice A1 o.ents.length k1) (.slice A2 o.pars.length k2)).toArray 72 szObj hc72 hcone _ ?_ ?_ ?_ ?_)
     ·first | exact hz72 | rfl
     ·rfl
     ·rfl
     intro W5 hb5 hbl5
     have b5:=bthen b4 b4.size hbl5
     have s5:=s4.below hbl5 s4.lt
     have r5:=r4.below hbl5 r4.lt
     have i5:=i4.below hbl5 i4.lt)
  | ((with_reducible refine (hsum _).mono ?_);rintro e w6 ⟨rfl,hb6⟩
     have b6:=bthen b5 b5.size hb6
     have s6:=s5.below hb6 s5.lt
     have r6:=r5.below hb6 r5.lt
     have i6:=i5.below hb6 i5.lt)
  | ((with_reducible refine lit_new 28 (.tmp 9) (.tmp 24) (u8s n) 32 sz32 hn32 hnone _ ?_ ?_ ?_ ?_)
     ·rfl
     ·rfl
     ·rfl
     intro W7 n7 hbl7
     have b7:=bthen b6 b6.size hbl7
     have s7:=s6.below hbl7 s6.lt
     have r7:=r6.below hbl7 r6.lt
     have i7:=i6.below hbl7 i6.lt
     have l7:=zAF s7
     have ln7:=zAi (zAj n7) hn)
  | ((with_reducible refine (hat2.out W7 b7).mono ?_);rintro e w8 ⟨⟨k,rfl⟩,hb8⟩
     have b8:=bthen b7 b7.size hb8
     have s8:=s7.below hb8 s7.lt
     have r8:=r7.below hb8 r7.lt
     have i8:=i7.below hb8 i7.lt
     have n8:=n7.below hb8 n7.lt
     have hk0:(0:Int)≤(k:Int):=by omega))
 all_goals try (exfalso;omega)
 obtain ⟨V,hV⟩ : ∃ V,w8.drew=V:=⟨_,rfl⟩
 have bV:Below w.heap.size w V:=by rw [←hV];exact b8.drew
 have r9:Blk V W1.heap.size 34 #[.slice none 0 0]:=by rw [←hV];exact r8
 have i9:Blk V W2.heap.size 28 (u8s noId):=by rw [←hV];exact i8
 have n9:Blk V w6.heap.size 28 (u8s n):=by rw [←hV];exact n8
 have s9:Blk V w.heap.size 34 #[vm]:=by rw [←hV];exact s8
 have hW36:w.heap.size<W3.heap.size:=s3.lt
 have x4:=hb4.size
 have x5:=hbl5.size
 have x6:=hb6.size
 have hr3:=r3.lt
 have hne4:w6.heap.size≠W1.heap.size:=by omega
 obtain ⟨t1,t2,t3,t4⟩:=zEn (n:=n) (vm:=vm) r9 i9 (by omega) hn hZ32 hvm
 have v1:=zAF s9
 have v2:=zAi (zAj n9) hn
 have v3:=zAi (zAj (zEg n9 hne4 #[vm])) hn
 have bF:=zAa (zAa bV (Nat.le_of_lt hl1) #[vm]) (Nat.le_of_lt (Nat.lt_of_lt_of_le hl1 (Nat.le_of_lt hl2))) (u8s n)
 clear s1 s2 s3 s4 s5 s6 s7 s8 r2 r3 r4 r5 r6 r7 r8 i3 i4 i5 i6 i7 i8 n7 n8 l7 ln7
 go_region
 go_wp2
 refine bodyPost_ret (zBh rfl _ _ W1.heap.size W2.heap.size _ _ _ _ _ _ _ _ rfl t3 rfl t4 Tryz.underlying34 rfl szDSt Tryz.underlying28 rfl (hszI _ hn32)) rfl ⟨⟨vm,es,rfl,hst.below bF,rfl,fun e he => .inl he, .inl rfl⟩,bF⟩
end
section
attribute [local go_sem ↓] ldvI_eq ldvO_eq ldvS_eq ldvT_eq stvI_eq stvS_eq
set_option maxRecDepth 100000 in
set_option maxHeartbeats 16000000 in
theorem docWith_new {w:World} {vm:Value} {es:List DiL} (h:DocSt w vm es) (hf:es.length<490000) (t:Txt) (ht:t.length≤5000) {o:ObjL} (hd:decO t=some o) (hG:getS (es.map (·.st)) (shaOf t)=none) :
 Calls Tryz.prog 35 #[.agg #[vm], .string (B t)] w fun e w'=>WithR w vm es t e w'∧Below w.heap.size w w':=by
 have hzI:=zeroIdV
 have hzo:=zeroObj
 have hz72:=zAu
 have hrb:=fun W=>run_build (P:=Tryz.prog) W _ _ _ zCc
 have hZ32:(u8s noId).size=32:=by rw [zAh,zAc]
 have hZone:=u8s_one noId
 have hszI : ∀ cs:Array Value,cs.size=32→(Tryz.prog.info? 28).map (·.size)=some cs.size:=fun cs h=>by rw [h];exact sz32
 obtain ⟨W1,hW1⟩ : ∃ W1,w.alloc (.cells #[vm] 34)=W1:=⟨_,rfl⟩
 have s1:Blk W1 w.heap.size 34 #[vm]:=by rw [←hW1];exact Blk.new _ _ _
 have b1:Below w.heap.size w W1:=by rw [←hW1];exact (Below.refl _ _).alloc (Nat.le_refl _) _
 obtain ⟨W2,hW2⟩ : ∃ W2,W1.alloc (.cells #[.slice none 0 0] 34)=W2:=⟨_,rfl⟩
 have r2:Blk W2 W1.heap.size 34 #[.slice none 0 0]:=by rw [←hW2];exact Blk.new _ _ _
 have bb2:Below W1.heap.size W1 W2:=by rw [←hW2];exact (Below.refl _ _).alloc (Nat.le_refl _) _
 obtain ⟨W3,hW3⟩ : ∃ W3,W2.alloc (.cells (u8s noId) 28)=W3:=⟨_,rfl⟩
 have i3:Blk W3 W2.heap.size 28 (u8s noId):=by rw [←hW3];exact Blk.new _ _ _
 have bb3:Below W2.heap.size W2 W3:=by rw [←hW3];exact (Below.refl _ _).alloc (Nat.le_refl _) _
 have s2:=s1.below bb2 s1.lt
 have s3:=s2.below bb3 s2.lt
 have r3:=r2.below bb3 r2.lt
 have b2:=bthen b1 b1.size bb2
 have b3:=bthen b2 b2.size bb3
 have hl1:=s1.lt
 have hl2:=r2.lt
 have hvm:vm.oneCell'=true:=by
  obtain ⟨A,cap,rfl,_⟩:=h.at_
  rfl
 have hde:=zBs t ht W3
 have hn0:(List.replicate 32 (0:UInt8))=noId:=rfl
 unfold WithR
 rw [hd]
 obtain ⟨n,hnn⟩ : ∃ n,shaOf t=n:=⟨_,rfl⟩
 rw [hnn] at hG
 have hn:n.length=32:=by rw [←hnn];exact zAQ _
 have hpi:putI t=n:=by unfold putI;rw [hd];exact hnn
 have hps : ∀ s,putS s t=if hasK StL.id s n then s else insK StL.id s ⟨n,t⟩:=fun s=>by unfold putS;rw [hd];simp only [hnn]
 rw [hpi,hps,zD8]
 rw [hd] at hde
 have hde:Hid (Calls Tryz.prog 24 #[.string (B t)] W3 fun e w'=>(∃ A1 A2 k1 k2,e = .returned (.tuple #[.agg (objC o (.slice A1 o.ents.length k1) (.slice A2 o.pars.length k2)).toArray, .bool true])∧ObjV w' (.slice A1 o.ents.length k1) (.slice A2 o.pars.length k2) o∧OwnEnts w' W3.heap.size (.slice A1 o.ents.length k1) o.ents∧OwnIds w' W3.heap.size (.slice A2 o.pars.length k2) o.pars)∧Below W3.heap.size W3 w'):=hde.mono fun e w' ⟨⟨A1,A2,k1,k2,h1,h2,h4⟩,h3⟩=>⟨⟨A1,A2,k1,k2,h1,h2,h4⟩,h3⟩
 have hsum : ∀ W,Calls Tryz.prog 23 #[.string (B t)] W fun e w'=>e = .returned (.agg (u8s n))∧Below W.heap.size W w':=fun W=>by
  have:=zD2 t W (by omega)
  rwa [hnn] at this
 have hn32:(u8s n).size=32:=by rw [zAh,hn]
 have hnone:=u8s_one n
 have hst:=h
 have hatn:=fun (W:World) (hW:Below w.heap.size w W)=>zBv (h.below hW) n hn
 unfold AtR at hatn
 have hh:=zD8 (es.map (·.st)) n
 rw [hG] at hh ⊢
 have hat2:Hid (∀ W,Below w.heap.size w W→Calls Tryz.prog 34 #[.agg #[vm], .agg (u8s n)] W fun e w'=>e = .returned (.int .i64 (-1))∧Below W.heap.size W w'):=fun W hW=>(hatn W hW).mono fun e w' ⟨h1,h2⟩=>by
  rcases h1 with ⟨k,x,he,_,hx⟩ | ⟨he,_⟩
  ·rw [hG] at hx;cases hx
  ·exact ⟨he,h2⟩
 have hh:hasK StL.id (es.map (·.st)) n=false:=hh
 simp only [Option.isSome_none,Option.isSome_some,Bool.false_eq_true,if_false]
 have hfew:=h.few
 have heach:=h.each
 have hok:=h.ok
 have hput:StoOk (insK StL.id (es.map (·.st)) ⟨n,t⟩):=by
  have:=hok.put t (by rw [List.length_map];omega)
  rwa [hps,hh] at this
 have hhh:=Lib.hid hh
 obtain ⟨A,cap,rfl,hcap1,hcap2,hat⟩:=h.at_
 obtain ⟨p,hp⟩ : ∃ p,posK StL.id (es.map (·.st)) n=p:=⟨_,rfl⟩
 have hpl:p≤es.length:=by rw [←hp,←List.length_map (f:=(·.st))];exact posK_le
 have hins:insK StL.id (es.map (·.st)) ⟨n,t⟩=(es.take p).map (·.st)++[⟨n,t⟩]++(es.drop p).map (·.st):=by
  unfold insK
  rw [show posK StL.id (es.map (·.st)) (StL.id ⟨n,t⟩)=p from hp,List.map_take,List.map_drop]
 have hless:Hid (∀ (k:Nat) (x:DiL),es[k]?=some x→Op.bytesLess n x.st.id=decide (p≤k)):=fun k x hx=>by
  have:=less_from (s:=es.map (·.st)) (k:=k) hok.sorted hhh.out (by rw [List.getElem?_map,hx];rfl)
  rwa [hp] at this
 replace hins:=Lib.hid hins
 replace hput:=Lib.hid hput
 replace hok:=Lib.hid hok
 have hdd:=Lib.hid hd
 clear h hd hpi hps hn0 hatn hh hG hnn hhh hp hst
 have hzone:zObj.all (·.oneCell')=true:=zAz zeroO none none 0 0 0 0
 generalize zObj=ZO at *
 go_enter Tryz.func35,Tryz.ntmps35
 go_wp2_with (first
  | ((with_reducible refine hde.out.mono ?_);rintro e w4 ⟨⟨A1,A2,k1,k2,rfl,hov,hoe,hop⟩,hb4⟩
     have b4:=bthen b3 b3.size hb4
     have s4:=s3.below hb4 s3.lt
     have r4:=r3.below hb4 r3.lt
     have i4:=i3.below hb4 i3.lt
     have hc72:(objC o (.slice A1 o.ents.length k1) (.slice A2 o.pars.length k2)).toArray.size=72:=by rw [List.size_toArray,zAC hov.ok]
     have hcone:=zAz o A1 A2 o.ents.length k1 o.pars.length k2)
  | ((with_reducible refine lit_new 74 (.tmp 7) (.tmp 17) (objC o (.slice A1 o.ents.length k1) (.slice A2 o.pars.length k2)).toArray 72 szObj hc72 hcone _ ?_ ?_ ?_ ?_)
     ·first | exact hz72 | rfl
     ·rfl
     ·rfl
     intro W5 hb5 hbl5
     have b5:=bthen b4 b4.size hbl5
     have s5:=s4.below hbl5 s4.lt
     have r5:=r4.below hbl5 r4.lt
     have i5:=i4.below hbl5 i4.lt)
  | ((with_reducible refine (hsum _).mono ?_);rintro e w6 ⟨rfl,hb6⟩
     have b6:=bthen b5 b5.size hb6
     have s6:=s5.below hb6 s5.lt
     have r6:=r5.below hb6 r5.lt
     have i6:=i5.below hb6 i5.lt)
  | ((with_reducible refine lit_new 28 (.tmp 9) (.tmp 24) (u8s n) 32 sz32 hn32 hnone _ ?_ ?_ ?_ ?_)
     ·rfl
     ·rfl
     ·rfl
     intro W7 n7 hbl7
     have b7:=bthen b6 b6.size hbl7
     have s7:=s6.below hbl7 s6.lt
     have r7:=r6.below hbl7 r6.lt
     have i7:=i6.below hbl7 i6.lt
     have l7:=zAF s7
     have ln7:=zAi (zAj n7) hn)
  | ((with_reducible refine (hat2.out W7 b7).mono ?_);rintro e w8 ⟨rfl,hb8⟩
     have b8:=bthen b7 b7.size hb8
     have s8:=s7.below hb8 s7.lt
     have r8:=r7.below hb8 r7.lt
     have i8:=i7.below hb8 i7.lt
     have n8:=n7.below hb8 n7.lt))
 all_goals try (exfalso;omega)
 have x4:=hb4.size
 have x5:=hbl5.size
 have x6:=hb6.size
 have x7:=hbl7.size
 have x8:=hb8.size
 have hr3:=r3.lt
 obtain ⟨nw,hnw⟩ : ∃ nw:DiL,nw=⟨⟨n,t⟩,o, .slice A1 o.ents.length k1, .slice A2 o.pars.length k2⟩:=⟨_,rfl⟩
 have hoe8:=zAf hoe (bthen hbl5 hbl5.size (bthen hb6 hb6.size (bthen hbl7 hbl7.size hb8)))
 have hop8:=zAf hop (bthen hbl5 hbl5.size (bthen hb6 hb6.size (bthen hbl7 hbl7.size hb8)))
 have hnwok:DitOk w8 nw:=by
  rw [hnw]
  exact ⟨hdd.out,hn,hov.ok,zAE hoe8 (Nat.zero_le _),zAE hop8 (Nat.zero_le _)⟩
 have hbd:Tryz.prog.built 98 [(0, .agg (u8s n)),(1, .string (B t)),(2, .agg (objC o (.slice A1 o.ents.length k1) (.slice A2 o.pars.length k2)).toArray)]=some (ditC nw).toArray:=by
  have:=built_dit nw hnwok
  rw [hnw] at this ⊢
  exact this
 have hnw105:(ditC nw).toArray.size=105:=by rw [List.size_toArray,zDr hnwok]
 have hnw1:(ditC nw).toArray.size=1*105:=hnw105
 have hnwone : ∀ u∈(ditC nw).toArray.toList,u.oneCell'=true:=by rw [List.toList_toArray];exact ditC_one hnwok
 have h1000:105≤1000:=by decide
 have hi3:=i3.lt
 have hne4:w6.heap.size≠W1.heap.size:=by omega
 have hg4:W1.heap.size<w8.heap.size:=by omega
 have hg5:W2.heap.size<w8.heap.size:=by omega
 clear x4 x5 x6 x7 x8
 have hnwB:Hid ((∀ k,nw.ve.ownBlock=some k→w.heap.size≤k) ∧ ∀ k,nw.vp.ownBlock=some k→w.heap.size≤k):=Lib.hid (by
  rw [hnw]
  exact ⟨fun k hk=>Nat.le_trans b3.size (World.ownsRow.lt hoe8 k hk).1,fun k hk=>Nat.le_trans b3.size (World.ownsRow.lt hop8 k hk).1⟩)
 have hnwmk : ∀ F,OwnEnts F W3.heap.size (.slice A1 o.ents.length k1) o.ents→OwnIds F W3.heap.size (.slice A2 o.pars.length k2) o.pars→DitOk F nw:=fun F h1 h2=>by
  rw [hnw]
  exact ⟨hdd.out,hn,hov.ok,zAE h1 (Nat.zero_le _),zAE h2 (Nat.zero_le _)⟩
 have heach0:=Lib.hid heach
 have hnst:Hid (nw.st=⟨n,t⟩):=by rw [hnw];rfl
 obtain ⟨NC,hNC⟩ : ∃ NC,(ditC nw).toArray=NC:=⟨_,rfl⟩
 have o8:=hb5.below (bthen hb6 hb6.size (bthen hbl7 hbl7.size hb8)) hb5.lt
 obtain ⟨OC,hOC⟩ : ∃ OC,(objC o (.slice A1 o.ents.length k1) (.slice A2 o.pars.length k2)).toArray=OC:=⟨_,rfl⟩
 rw [hOC] at hbd o8 hc72 hcone ⊢
 rw [hNC] at hbd hnw105 hnw1 hnwone
 have hNC:=Lib.hid hNC
 have szO:(Tryz.prog.info? 74).map (·.size)=some OC.size:=by rw [hc72];exact szObj
 have fn:=fun (W:World) (hW:Below w8.heap.size w8 W)=>zAi (zAj (n8.below hW n8.lt)) hn
 have fo : ∀ (W:World),Below w8.heap.size w8 W→(ldvO ⟨w4.heap.size,0,none⟩).run Tryz.prog W = .ok (.agg OC) W:=fun W hW=>run_loadVar_row (P:=Tryz.prog) W w4.heap.size _ _ _ _ _ (o8.below hW o8.lt) Tryz.underlying74 rfl szO
 have fs : ∀ (W:World),Below w8.heap.size w8 W→W.cell? ⟨w.heap.size,0,none⟩=some (.slice A es.length cap):=fun W hW=>(s8.below hW s8.lt).cell 0
 replace heach:=fun x hx=>(heach x hx).below b8
 have hat8:0<es.length → ∃ g o,A=some ⟨g,o,none⟩∧g<w8.heap.size ∧ ∀ i x,es[i]?=some x→w8.rangeAt g (o+i*105) (ditC x):=fun h0=>by
  obtain ⟨g,o,e1,e2,e3⟩:=hat h0
  exact ⟨g,o,e1,Nat.lt_of_lt_of_le e2 b8.size,fun i x hx=>zAb (e3 i x hx) e2 b8⟩
 clear hOC hnw hat hc72 hcone hzone hde hsum s1 s2 s3 s4 s5 s6 s7 r2 r4 r5 r6 r7 i3 i4 i5 i6 i7 n7 l7 ln7 hb5 hW1 hW2 hW3
 go_loopw [10,11,12] (fun vo vd vi wr => ∃ k:Nat,vi = .int .i64 k∧k≤es.length∧vd = .bool (decide (p<k))∧OwnDits wr w8.heap.size vo (accL es nw p k)∧Below w8.heap.size w8 wr) (fun _ _ vi _=>es.length-(intOf vi).toNat)
 case atStart=>exact ⟨0,rfl,by omega,rfl,by rw [show accL es nw p 0=[] from rfl];exact World.ownsRow_nil _ _ _ _,Below.refl _ _⟩
 case round=>
  obtain ⟨k,rfl,hk,rfl,hown,hbel⟩:=hrel
  by_cases hlt:k<es.length
  ·have hki:(k:Int)<(es.length:Int):=by omega
   obtain ⟨ga,oa,rfl,hga,hca⟩:=hat8 (by omega)
   obtain ⟨x,hx⟩ : ∃ x,es[k]?=some x:=⟨_,List.getElem?_eq_getElem hlt⟩
   have hxok:=heach x (List.mem_of_getElem? hx)
   have hxid:=hxok.id
   have hle:=hless.out k x hx
   have hxr:=dit_id (hca k x hx)
   have hsI:(Tryz.prog.info? 28).map (·.size)=some (u8s x.st.id).toList.length:=by rw [zAW,hxid];exact sz32
   have hsN:(Tryz.prog.info? 28).map (·.size)=some (u8s n).toList.length:=by rw [zAW,hn];exact sz32
   have hcl:=fun W=>refLess_calls n x.st.id hn hxid W
   rw [hle] at hcl
   have hx105:(ditC x).toArray.size=105:=by rw [List.size_toArray,zDr hxok]
   have hx1:(ditC x).toArray.size=1*105:=hx105
   have hxone : ∀ u∈(ditC x).toArray.toList,u.oneCell'=true:=by rw [List.toList_toArray];exact ditC_one hxok
   have ft : ∀ (W:World),Below w8.heap.size w8 W→(ldvT ⟨ga,oa+k*105,none⟩).run Tryz.prog W = .ok (.agg (ditC x).toArray) W:=fun W hW=>run_loadVar_mid (P:=Tryz.prog) W ga (oa+k*105) 98 (ditC x) _ (zAb (hca k x hx) hga hW) Tryz.underlying98 rfl (by rw [zDr hxok];exact szDit)
   obtain ⟨XC,hXC⟩ : ∃ XC,(ditC x).toArray=XC:=⟨_,rfl⟩
   rw [hXC] at hx105 hx1 hxone
   simp only [hXC] at ft
   have hXC:=Lib.hid hXC
   have hal:=acc_len es nw p k
   obtain ⟨m1,m2,m3,m4⟩:=acc_bounds hal hf
   have szr:=hbel.size
   rcases Nat.lt_trichotomy p k with hc | hc | hc
   ·--STOP1
    have hd1:decide (p<k)=true:=decide_eq_true hc
    have hd2:decide (p≤k)=true:=decide_eq_true (by omega)
    rw [hd1]
    rw [hd2] at hcl
    have hxh:=Lib.hid hx
    clear hx hca hat8 hle hd1 hd2 hless
    go_wp2
    refine zAg (C:=fun W=>Below wr.heap.size wr W) (by kernel_rfl) (by kernel_rfl) (Below.refl _ _).drew ?_
    repeat
     first
      | ((with_reducible refine zAs ?_ ?_)
         ·(go_simp;done)
         apply Exists.intro
         refine ⟨fun W hW=>?_,?_⟩
         ·have hW8:=bthen hbel hbel.size hW
          first
           | exact zAA _ _ rfl ga (oa+k*105) rfl (u8s x.st.id).toList _ (zAb hxr hga hW8) Tryz.underlying28 rfl hsI rfl
           | exact zAA _ _ rfl w6.heap.size 0 rfl (u8s n).toList _ (zAj (n8.below hW8 n8.lt)) Tryz.underlying28 rfl hsN rfl
           | (have q0:=fs W hW8
              have hkeep:=zCO hW (hcl W)
              rw [←Array.toArray_toList (xs:=u8s x.st.id),←Array.toArray_toList (xs:=u8s n)] at hkeep
              go_simp
              first
               | rfl
               | (with_reducible exact hkeep))
         simp only [Act.put,zA,zB,zC])
      | ((with_reducible refine zAk ?_ ?_)
         ·(first | rfl | (go_simp;done))
         simp only [Act.put,zA,zB,zC])
    with_reducible refine wpQuiet_nil ?_
    intro w9 hW9
    have own9:=zAf hown hW9
    have b9:=bthen hbel hbel.size hW9
    have sz9:=b9.size
    have fn9:=fn w9 b9
    have fo9:=fo w9 b9
    have fs9:=fs w9 b9
    have ft9:=ft w9 b9
    go_wp2_with (first
     | ((with_reducible refine zAN (.tmp 63) Tryz.ditTy XC hx105 h1000 ?_ ?_);rfl)
     | (at_builtin
        (with_reducible refine zAl (.tmp 58) (.tmp 64) 1 _ Tryz.ditTy own9 XC hx1 hxone m1 m2 sz9 ?_ ?_ ?_);rfl;rfl
        intro v2 w2 hv2 hb2 hg2 hn2
        have bb2:=b9.trans hb2
        clear hg2 hn2))
    all_goals try (exfalso;omega)
    have o3:OwnDits w2 w8.heap.size v2 (accL es nw p (k+1)):=by
     rw [←hXC.out] at hv2
     rw [acc_behind hxh.out hc]
     exact OwnDits.more hv2
    go_roundw
    case rel=>exact ⟨k+1,by go_num,by omega,by rw [show decide (p<k+1)=true from decide_eq_true (by omega)],o3,bb2⟩
    case measure=>simp [intOf];omega
   ·--STOP2
    have hd1:decide (p<k)=false:=decide_eq_false (by omega)
    have hd2:decide (p≤k)=true:=decide_eq_true (by omega)
    rw [hd1]
    rw [hd2] at hcl
    have hxh:=Lib.hid hx
    clear hx hca hat8 hle hd1 hd2 hless
    go_wp2
    refine zAg (C:=fun W=>Below wr.heap.size wr W) (by kernel_rfl) (by kernel_rfl) (Below.refl _ _).drew ?_
    repeat
     first
      | ((with_reducible refine zAs ?_ ?_)
         ·(go_simp;done)
         apply Exists.intro
         refine ⟨fun W hW=>?_,?_⟩
         ·have hW8:=bthen hbel hbel.size hW
          first
           | exact zAA _ _ rfl ga (oa+k*105) rfl (u8s x.st.id).toList _ (zAb hxr hga hW8) Tryz.underlying28 rfl hsI rfl
           | exact zAA _ _ rfl w6.heap.size 0 rfl (u8s n).toList _ (zAj (n8.below hW8 n8.lt)) Tryz.underlying28 rfl hsN rfl
           | (have q0:=fs W hW8
              have hkeep:=zCO hW (hcl W)
              rw [←Array.toArray_toList (xs:=u8s x.st.id),←Array.toArray_toList (xs:=u8s n)] at hkeep
              go_simp
              first
               | rfl
               | (with_reducible exact hkeep))
         simp only [Act.put,zA,zB,zC])
      | ((with_reducible refine zAk ?_ ?_)
         ·(first | rfl | (go_simp;done))
         simp only [Act.put,zA,zB,zC])
    with_reducible refine wpQuiet_nil ?_
    intro w9 hW9
    have own9:=zAf hown hW9
    have b9:=bthen hbel hbel.size hW9
    have sz9:=b9.size
    have fn9:=fn w9 b9
    have fo9:=fo w9 b9
    have fs9:=fs w9 b9
    have ft9:=ft w9 b9
    go_wp2_with (first
     | ((with_reducible refine lit_build3 hbd ?_ ?_ ?_ ?_);rfl;rfl;rfl)
     | ((with_reducible refine zAN (.tmp 55) Tryz.ditTy NC hnw105 h1000 ?_ ?_);rfl)
     | (at_builtin
        (with_reducible refine zAl (.tmp 51) (.tmp 56) 1 _ Tryz.ditTy own9 NC hnw1 hnwone m1 m2 sz9 ?_ ?_ ?_);rfl;rfl
        intro v1 w1 hv1 hb1 hg1 hn1
        have bb1:=b9.trans hb1
        clear hg1 hn1
        have szb1:=bb1.size
        have fn1:=fn w1 bb1
        have fo1:=fo w1 bb1
        have fs1:=fs w1 bb1
        have ft1:=ft w1 bb1)
     | ((with_reducible refine zAN (.tmp 63) Tryz.ditTy XC hx105 h1000 ?_ ?_);rfl)
     | (at_builtin
        (with_reducible refine zAl (.tmp 58) (.tmp 64) 1 _ Tryz.ditTy hv1 XC hx1 hxone m3 m4 szb1 ?_ ?_ ?_);rfl;rfl
        intro v2 w2 hv2 hb2 hg2 hn2
        have bb2:=bb1.trans hb2
        clear hg2 hn2))
    all_goals try (exfalso;omega)
    have o3:OwnDits w2 w8.heap.size v2 (accL es nw p (k+1)):=by
     subst hc
     rw [←hXC.out] at hv2
     rw [←hNC.out] at hv2
     rw [acc_at hxh.out]
     have:(accL es nw p p++[nw]).length=(accL es nw p p).length+1:=by simp
     refine OwnDits.more ?_
     rw [this,zAo,zAx]
     have e:(ditC nw).toArray.toList=ditC nw:=List.toList_toArray
     rw [e] at hv2
     exact hv2
    go_roundw
    case rel=>exact ⟨k+1,by go_num,by omega,by rw [show decide (p<k+1)=true from decide_eq_true (by omega)],o3,bb2⟩
    case measure=>simp [intOf];omega
   ·--STOP3
    have hd1:decide (p<k)=false:=decide_eq_false (by omega)
    have hd2:decide (p≤k)=false:=decide_eq_false (by omega)
    rw [hd1]
    rw [hd2] at hcl
    have hxh:=Lib.hid hx
    clear hx hca hat8 hle hd1 hd2 hless
    go_wp2
    refine zAg (C:=fun W=>Below wr.heap.size wr W) (by kernel_rfl) (by kernel_rfl) (Below.refl _ _).drew ?_
    repeat
     first
      | ((with_reducible refine zAs ?_ ?_)
         ·(go_simp;done)
         apply Exists.intro
         refine ⟨fun W hW=>?_,?_⟩
         ·have hW8:=bthen hbel hbel.size hW
          first
           | exact zAA _ _ rfl ga (oa+k*105) rfl (u8s x.st.id).toList _ (zAb hxr hga hW8) Tryz.underlying28 rfl hsI rfl
           | exact zAA _ _ rfl w6.heap.size 0 rfl (u8s n).toList _ (zAj (n8.below hW8 n8.lt)) Tryz.underlying28 rfl hsN rfl
           | (have q0:=fs W hW8
              have hkeep:=zCO hW (hcl W)
              rw [←Array.toArray_toList (xs:=u8s x.st.id),←Array.toArray_toList (xs:=u8s n)] at hkeep
              go_simp
              first
               | rfl
               | (with_reducible exact hkeep))
         simp only [Act.put,zA,zB,zC])
      | ((with_reducible refine zAk ?_ ?_)
         ·(first | rfl | (go_simp;done))
         simp only [Act.put,zA,zB,zC])
    with_reducible refine wpQuiet_nil ?_
    intro w9 hW9
    have own9:=zAf hown hW9
    have b9:=bthen hbel hbel.size hW9
    have sz9:=b9.size
    have fn9:=fn w9 b9
    have fo9:=fo w9 b9
    have fs9:=fs w9 b9
    have ft9:=ft w9 b9
    go_wp2_with (first
     | ((with_reducible refine zAN (.tmp 63) Tryz.ditTy XC hx105 h1000 ?_ ?_);rfl)
     | (at_builtin
        (with_reducible refine zAl (.tmp 58) (.tmp 64) 1 _ Tryz.ditTy own9 XC hx1 hxone m1 m2 sz9 ?_ ?_ ?_);rfl;rfl
        intro v2 w2 hv2 hb2 hg2 hn2
        have bb2:=b9.trans hb2
        clear hg2 hn2))
    all_goals try (exfalso;omega)
    have o3:OwnDits w2 w8.heap.size v2 (accL es nw p (k+1)):=by
     rw [←hXC.out] at hv2
     rw [acc_before hxh.out hc]
     exact OwnDits.more hv2
    go_roundw
    case rel=>exact ⟨k+1,by go_num,by omega,by rw [show decide (p<k+1)=false from decide_eq_false (by omega)],o3,bb2⟩
    case measure=>simp [intOf];omega
  ·have hki : ¬ (k:Int)<(es.length:Int):=by omega
   obtain rfl:k=es.length:=by omega
   have hal:=acc_len es nw p es.length
   obtain ⟨m1,m2,m3,m4⟩:=acc_bounds hal hf
   clear hal
   have szr:=hbel.size
   have fn9:=fn wr hbel
   have fo9:=fo wr hbel
   have fs9:=fs wr hbel
   by_cases hc:p<es.length
   ·--STOP4
    have hd1:decide (p<es.length)=true:=decide_eq_true hc
    rw [hd1]
    have hOl:=hown
    rw [acc_end hc] at hOl
    have hOl:=Lib.hid hOl
    go_wp2
    obtain ⟨A',cap',RL,rfl⟩:=own_named hOl.out
    obtain ⟨V,hV⟩ : ∃ V,wr.drew=V:=⟨_,rfl⟩
    have bV8:Below w8.heap.size w8 V:=by rw [←hV];exact Below.drew hbel
    have bV:Below w.heap.size w V:=bthen b8 b8.size bV8
    have ownV:OwnDits V w8.heap.size (.slice A' RL cap') (es.take p++[nw]++es.drop p):=by
     rw [←hV]
     exact zAf hOl.out (Below.refl _ _).drew
    have r9:=r8.below bV8 r8.lt
    have i9:=i8.below bV8 i8.lt
    have n9:=n8.below bV8 n8.lt
    obtain ⟨t1,t2,t3,t4⟩:=zEn (n:=n) (vm := .slice A' RL cap') r9 i9 (Nat.ne_of_lt hl2) hn hZ32 rfl
    have v2:=zAi (zAj n9) hn
    have v3:=zAi (zAj (zEg n9 hne4 #[.slice A' RL cap'])) hn
    have hbs:=fun W=>run_build (P:=Tryz.prog) W _ _ _ (built_docSt A' RL cap')
    have bF1:=zAa bV (Nat.le_of_lt hl1) #[.slice A' RL cap']
    have bF:=zAa bF1 (Nat.le_of_lt (Nat.lt_of_lt_of_le hl1 (Nat.le_of_lt hl2))) (u8s n)
    have ownF:=own_row (own_row ownV (g:=W1.heap.size) hg4 #[.slice A' RL cap']) (g:=W2.heap.size) hg5 (u8s n)
    have oeF:=own_row (own_row (zAf hoe8 bV8) (g:=W1.heap.size) hr3 #[.slice A' RL cap']) (g:=W2.heap.size) hi3 (u8s n)
    have opF:=own_row (own_row (zAf hop8 bV8) (g:=W1.heap.size) hr3 #[.slice A' RL cap']) (g:=W2.heap.size) hi3 (u8s n)
    have hnwF:DitOk ((V.setRow W1.heap.size #[.slice A' RL cap']).setRow W2.heap.size (u8s n)) nw:=hnwmk _ oeF opF
    obtain ⟨es',hd1,hd2,hd3⟩:=with_laid ownF (fun e he=>(heach0.out e he).below bF) hnwF hnst.out hnwB.out hins.out hput.out
    have hd1:=Lib.hid hd1
    have hd2:=Lib.hid hd2
    have hd3:=Lib.hid (And.intro hd3 (Or.inr (fun k hk=>Nat.le_trans b8.size (World.ownsRow.lt ownF k hk).1):(Value.slice A' RL cap' = .slice A es.length cap) ∨ ∀ k,(Value.slice A' RL cap').ownBlock=some k→w.heap.size≤k))
    clear ownV ownF oeF opF hnwF hOl hown heach0 hnwok hins hput hnst hNC hbd fn fo fs s8 r8 i8 n8 o8 r9 i9 n9 hnwmk hoe8 hop8 hoe hop hov
    go_region
    go_wp2
    refine bodyPost_ret (zBh rfl _ _ W1.heap.size W2.heap.size _ _ _ _ _ _ _ _ rfl t3 rfl t4 Tryz.underlying34 rfl szDSt Tryz.underlying28 rfl (hszI _ hn32)) rfl ⟨⟨_,es',rfl,hd1.out,hd2.out,hd3.out⟩,bF⟩
   ·--STOP5
    obtain rfl:p=es.length:=by omega
    have hd1:decide (es.length<es.length)=false:=decide_eq_false (Nat.lt_irrefl _)
    rw [hd1]
    clear hd1 hc hpl hat8 hless hlt
    go_wp2_with (first
     | ((with_reducible refine lit_build3 hbd ?_ ?_ ?_ ?_);rfl;rfl;rfl)
     | ((with_reducible refine zAN (.tmp 72) Tryz.ditTy NC hnw105 h1000 ?_ ?_);rfl)
     | (at_builtin
        (with_reducible refine zAl (.tmp 68) (.tmp 73) 1 _ Tryz.ditTy hown NC hnw1 hnwone m1 m2 szr ?_ ?_ ?_);rfl;rfl
        intro v1 w1 hv1 hb1 hg1 hn1
        have bb1:=hbel.trans hb1
        clear hg1 hn1
        have szb1:=bb1.size
        have fn1:=fn w1 bb1
        have fo1:=fo w1 bb1
        have fs1:=fs w1 bb1))
    have hOl:OwnDits w1 w8.heap.size v1 (es.take es.length++[nw]++es.drop es.length):=by
     rw [←acc_last]
     rw [←hNC.out] at hv1
     exact OwnDits.more hv1
    have hOl:=Lib.hid hOl
    obtain ⟨A',cap',RL,rfl⟩:=own_named hOl.out
    obtain ⟨V,hV⟩ : ∃ V,w1.drew=V:=⟨_,rfl⟩
    have bV8:Below w8.heap.size w8 V:=by rw [←hV];exact Below.drew bb1
    have bV:Below w.heap.size w V:=bthen b8 b8.size bV8
    have ownV:OwnDits V w8.heap.size (.slice A' RL cap') (es.take es.length++[nw]++es.drop es.length):=by
     rw [←hV]
     exact zAf hOl.out (Below.refl _ _).drew
    have r9:=r8.below bV8 r8.lt
    have i9:=i8.below bV8 i8.lt
    have n9:=n8.below bV8 n8.lt
    obtain ⟨t1,t2,t3,t4⟩:=zEn (n:=n) (vm := .slice A' RL cap') r9 i9 (Nat.ne_of_lt hl2) hn hZ32 rfl
    have v2:=zAi (zAj n9) hn
    have v3:=zAi (zAj (zEg n9 hne4 #[.slice A' RL cap'])) hn
    have hbs:=fun W=>run_build (P:=Tryz.prog) W _ _ _ (built_docSt A' RL cap')
    have bF1:=zAa bV (Nat.le_of_lt hl1) #[.slice A' RL cap']
    have bF:=zAa bF1 (Nat.le_of_lt (Nat.lt_of_lt_of_le hl1 (Nat.le_of_lt hl2))) (u8s n)
    have ownF:=own_row (own_row ownV (g:=W1.heap.size) hg4 #[.slice A' RL cap']) (g:=W2.heap.size) hg5 (u8s n)
    have oeF:=own_row (own_row (zAf hoe8 bV8) (g:=W1.heap.size) hr3 #[.slice A' RL cap']) (g:=W2.heap.size) hi3 (u8s n)
    have opF:=own_row (own_row (zAf hop8 bV8) (g:=W1.heap.size) hr3 #[.slice A' RL cap']) (g:=W2.heap.size) hi3 (u8s n)
    have hnwF:DitOk ((V.setRow W1.heap.size #[.slice A' RL cap']).setRow W2.heap.size (u8s n)) nw:=hnwmk _ oeF opF
    obtain ⟨es',hd1,hd2,hd3⟩:=with_laid ownF (fun e he=>(heach0.out e he).below bF) hnwF hnst.out hnwB.out hins.out hput.out
    have hd1:=Lib.hid hd1
    have hd2:=Lib.hid hd2
    have hd3:=Lib.hid (And.intro hd3 (Or.inr (fun k hk=>Nat.le_trans b8.size (World.ownsRow.lt ownF k hk).1):(Value.slice A' RL cap' = .slice A es.length cap) ∨ ∀ k,(Value.slice A' RL cap').ownBlock=some k→w.heap.size≤k))
    clear ownV ownF oeF opF hnwF hOl hown heach0 hnwok hins hput hnst hNC hbd fn fo fs s8 r8 i8 n8 o8 r9 i9 n9 hnwmk hoe8 hop8 hoe hop hov
    go_region
    go_wp2
    refine bodyPost_ret (zBh rfl _ _ W1.heap.size W2.heap.size _ _ _ _ _ _ _ _ rfl t3 rfl t4 Tryz.underlying34 rfl szDSt Tryz.underlying28 rfl (hszI _ hn32)) rfl ⟨⟨_,es',rfl,hd1.out,hd2.out,hd3.out⟩,bF⟩
theorem zDq {w:World} {vm:Value} {es:List DiL} (h:DocSt w vm es) (hf:es.length<490000) (t:Txt) (ht:t.length≤5000) :
 Calls Tryz.prog 35 #[.agg #[vm], .string (B t)] w fun e w'=>WithR w vm es t e w'∧Below w.heap.size w w':=by
 cases hd:decO t with
 | none=>exact docWith_none h hf t ht hd
 | some o=>
   cases hG:getS (es.map (·.st)) (shaOf t) with
   | none=>exact docWith_new h hf t ht hd hG
   | some y=>exact docWith_hit h hf t ht hd hG
end
section
def DocUse (vm:Value) (es:List DiL) (k:Nat):Prop:=vm.ownBlock=some k ∨ ∃ e∈es,e.ve.ownBlock=some k∨e.vp.ownBlock=some k
section
variable {w w':World} {vm vm':Value} {es es':List DiL} {k g B:Nat}
theorem DocSt.lt (h:DocSt w vm es) (hk:DocUse vm es k):k<w.heap.size:=by
 rcases hk with hk | ⟨e,he,hk | hk⟩
 ·exact (World.ownsRow.lt h.own k hk).2
 ·exact (World.ownsRow.lt (h.each e he).oe k hk).2
 ·exact (World.ownsRow.lt (h.each e he).op k hk).2
theorem DocSt.same (h:DocSt w vm es) (hs : ∀ k,DocUse vm es k→w'.heap[k]?=w.heap[k]?):DocSt w' vm es:=
 ⟨zCk h.own fun k hk=>hs k (.inl hk),fun e he=>⟨(h.each e he).dec,(h.each e he).id,(h.each e he).ok,zCk (h.each e he).oe fun k hk=>hs k (.inr ⟨e,he, .inl hk⟩),zCk (h.each e he).op fun k hk=>hs k (.inr ⟨e,he, .inr hk⟩)⟩,h.ok⟩
theorem DocSt.far {S:List (Option Nat)} (h:DocSt w vm es) (hf:Far S w w') (hn : ∀ k,some k∈S → ¬ DocUse vm es k):DocSt w' vm es:=h.same fun k hk=>hf.block k (h.lt hk) fun e=>hn k e hk
theorem DocSt.grown {row:Option Nat} (h:DocSt w vm es) (hf:w.grownBy w' row) (hn : ∀ k,row=some k → ¬ DocUse vm es k):DocSt w' vm es:=h.same fun k hk=>hf.block k (h.lt hk) fun e=>hn k e.symm hk
theorem DocSt.blk_ne {T:TypeId} {cs:Array Value} (h:DocSt w vm es) (hb:Blk w g T cs) (h1:98≠T) (h2:181≠T) (h3:28≠T) : ¬ DocUse vm es g:=by
 rintro (hk | ⟨e,he,hk | hk⟩)
 ·exact zAD h.own hb h1 hk.symm
 ·exact zAD (h.each e he).oe hb h2 hk.symm
 ·exact zAD (h.each e he).op hb h3 hk.symm
theorem DocSt.row (h:DocSt w vm es) (hn : ¬ DocUse vm es g) (cs:Array Value):DocSt (w.setRow g cs) vm es:=h.same fun k hk=>setRow_other _ _ _ _ fun e=>hn (e▸hk)
def Apart (v vm:Value) (es:List DiL):Prop := ∀ k,v.ownBlock=some k → ¬ DocUse vm es k
theorem Apart.with_ {v:Value} {ids:List Txt} (h:Apart v vm es) (hv:OwnIds w B v ids) (hv':OwnIds w' B v ids) (hd:DocSt w' vm' es') (ho : ∀ e∈es',OldOr w.heap.size es e):Apart v vm' es':=by
 intro k hk hu
 have hlt:=(World.ownsRow.lt hv k hk).2
 rcases hu with hu | ⟨e,he,hu⟩
 ·exact own_ne hv' hd.own (by decide) k hk hu
 ·rcases ho e he with h1 | ⟨h1,h2⟩
  ·exact h k hk (.inr ⟨e,h1,hu⟩)
  ·rcases hu with hu | hu
   ·have:=h1 k hu;omega
   ·have:=h2 k hu;omega
theorem Apart.newer {v v':Value} (h:Apart v vm es) (hd:DocSt w vm es) (hn:Newer w v v'):Apart v' vm es:=by
 intro k hk hu
 rcases hn with hn | hn
 ·exact h k (hn▸hk) hu
 ·have:=hn k hk
  have:=hd.lt hu
  omega
end
theorem putS_len (s:List StL) (t:Txt):(putS s t).length≤s.length+1:=by
 unfold putS
 split
 ·omega
 ·split
  ·omega
  ·rename_i hh
   rw [putS_eq s (by simpa using hh)]
   exact putK_len
end
section
attribute [local go_sem ↓] ldvI_eq ldvS_eq stvI_eq
def PickR (e:Ending):Prop := ∃ x b,e = .returned (.tuple #[.agg (u8s x), .bool b])∧x.length=32
def pickP (S:List StL) (kind:Int) (x:Txt):Bool:=(kindS S x==kind)||(kind==0)||((kind==9)&&decide (kindS S x<3))
def pickL (S:List StL) (ids:List Txt) (kind:Int):List Txt:=ids.filter (pickP S kind)
def pickF (S:List StL) (ids:List Txt) (n:Nat) (kind:Int):Option Txt:=if (pickL S ids kind).length=0 then none else (pickL S ids kind)[(pickL S ids kind).length-1-n%(pickL S ids kind).length]?
def pickVal (r:Option Txt):Value:=match r with
 | some x => .tuple #[.agg (u8s x), .bool true]
 | none => .tuple #[.agg (u8s noId), .bool false]
theorem pickL_more {S:List StL} {ids:List Txt} {kind:Int} {k:Nat} {x:Txt} (h:ids[k]?=some x):pickL S (ids.take (k+1)) kind=pickL S (ids.take k) kind++if pickP S kind x=true then [x] else []:=by
 unfold pickL
 rw [List.take_add_one,h,List.filter_append]
 congr 1
 show ([x]:List Txt).filter _=_
 rw [List.filter_cons,List.filter_nil]
theorem pickF_len {S:List StL} {ids:List Txt} {n:Nat} {kind:Int} {x:Txt} (hok : ∀ y∈ids,y.length=32) (h:pickF S ids n kind=some x):x.length=32:=by
 unfold pickF at h
 split at h
 ·cases h
 ·exact hok x (List.mem_filter.1 (List.mem_of_getElem? h)).1
set_option maxRecDepth 100000 in
set_option maxHeartbeats 8000000 in
theorem pickF_calls {w:World} {vm:Value} {es:List DiL} (h:DocSt w vm es) (ids:List Txt) (hok : ∀ x∈ids,x.length=32) (hil:ids.length≤1000) (vi:Value) (hi:Ids w vi ids) (n:Nat) (hn:n≤100000) (kind:Int) :
 Calls Tryz.prog 91 #[.agg #[vm],vi, .int .i64 n, .int .i64 kind] w fun e w'=>e = .returned (pickVal (pickF (es.map (·.st)) ids n kind))∧Below w.heap.size w w':=by
 have hzI:=zeroIdV
 have hrb:=fun W=>run_build (P:=Tryz.prog) W _ _ _ zCc
 have hZ32:(u8s noId).size=32:=by rw [zAh,zAc]
 have hZone:=u8s_one noId
 obtain ⟨W1,hW1⟩ : ∃ W1,w.alloc (.cells #[vm] 34)=W1:=⟨_,rfl⟩
 have s1:Blk W1 w.heap.size 34 #[vm]:=by rw [←hW1];exact Blk.new _ _ _
 have b1:Below w.heap.size w W1:=by rw [←hW1];exact (Below.refl _ _).alloc (Nat.le_refl _) _
 obtain ⟨W2,hW2⟩ : ∃ W2,W1.alloc (.cells (u8s noId) 28)=W2:=⟨_,rfl⟩
 have z2:Blk W2 W1.heap.size 28 (u8s noId):=by rw [←hW2];exact Blk.new _ _ _
 have bb2:Below W1.heap.size W1 W2:=by rw [←hW2];exact (Below.refl _ _).alloc (Nat.le_refl _) _
 have s2:=s1.below bb2 s1.lt
 have b2:=bthen b1 b1.size bb2
 have hsz:(Tryz.prog.info? 28).map (·.size)=some (u8s noId).size:=by rw [hZ32];exact sz32
 have hle:=b1.size
 have hle2:=b2.size
 have hkc:=fun (x:Txt) (hx:x.length=32) W (hW:Below W2.heap.size W2 W)=>zCj (h.below (bthen b2 b2.size hW)) x hx
 have l2:=fun W (hW:Below W2.heap.size W2 W)=>zAF (s2.below hW s2.lt)
 have hmr:=fun {k:Nat} {x:Txt} (h:ids[k]?=some x)=>pickL_more (S:=es.map (·.st)) (kind:=kind) h
 have hfe:pickL (es.map (·.st)) (ids.take ids.length) kind=pickL (es.map (·.st)) ids kind:=by rw [List.take_length]
 obtain ⟨R,hR⟩ : ∃ R,Hid (pickVal (pickF (es.map (·.st)) ids n kind)=R):=⟨_,Lib.hid rfl⟩
 rw [hR.out]
 have hRR:=hR.out
 unfold pickF at hRR
 replace hRR:=Lib.hid hRR
 clear hR
 obtain ⟨A,cap,rfl,hcap1,hcap2,hat⟩:=hi
 clear h
 obtain ⟨Z,hZ⟩ : ∃ Z,u8s noId=Z:=⟨_,rfl⟩
 rw [hZ] at z2 hW2 hsz hZ32 hZone hrb hzI
 have hZ:=Lib.hid hZ
 go_enter Tryz.func91,Tryz.ntmps91
 go_wp2
 go_loopw [10,11] (fun vo vi wr => ∃ (k:Nat) (acc:List Txt),vi = .int .i64 k∧k≤ids.length∧acc.length≤k∧Hid (∀ x∈acc,x.length=32)∧Hid (acc=pickL (es.map (·.st)) (ids.take k) kind)∧OwnIds wr W2.heap.size vo acc∧Below W2.heap.size W2 wr) (fun _ vi _=>ids.length-(intOf vi).toNat)
 case atStart=>exact ⟨0,[],rfl,by omega,by simp,Lib.hid (fun x hx=>by simp at hx),Lib.hid rfl,World.ownsRow_nil _ _ _ _,Below.refl _ _⟩
 case round=>
  obtain ⟨k,acc,rfl,hk,hal,hall,hacc,hown,hbel⟩:=hrel
  by_cases hlt:k<ids.length
  ·have hki:(k:Int)<(ids.length:Int):=by omega
   obtain ⟨ga,oa,rfl,hga,hca⟩:=hat (by omega)
   obtain ⟨x,hx⟩ : ∃ x,ids[k]?=some x:=⟨_,List.getElem?_eq_getElem hlt⟩
   have hxi:=hok x (List.mem_of_getElem? hx)
   have hlx : ∀ W,Below W2.heap.size W2 W→(ldvI ⟨ga,oa+k*32,none⟩).run Tryz.prog W = .ok (.agg (u8s x)) W:=fun W hW=>by
    have hr:=zAb (hca k x hx) hga (bthen b2 b2.size hW)
    exact zAi (show World.rangeAt W ga (oa+k*32) (u8s x).toList from hr) hxi
   have hkx:=hkc x hxi
   obtain ⟨K,hK⟩ : ∃ K,kindS (es.map (·.st)) x=K:=⟨_,rfl⟩
   have hmo:=hmr hx
   unfold pickP at hmo
   rw [hK,←hacc.out] at hmo
   replace hmo:=Lib.hid hmo
   simp only [hK] at hkx
   have hkl:acc.length+1≤9223372036854775807:=by omega
   have hm2:(acc.length+1)*32≤140737488355328:=by omega
   have hid32:(idC x).toArray.size=32:=by rw [List.size_toArray,idC_len hxi]
   have hidl:(idC x).toArray.size=1*32:=hid32
   have hid1 : ∀ u∈(idC x).toArray.toList,u.oneCell'=true:=by rw [List.toList_toArray];exact idC_one x
   have hXC:(idC x).toArray=u8s x:=by simp [idC]
   rw [hXC] at hid32 hidl hid1
   have hall2:Hid (∀ y∈acc++[x],y.length=32):=Lib.hid fun y hy=>by
    rcases List.mem_append.1 hy with hy | hy
    ·exact hall.out y hy
    ·rw [List.mem_singleton.1 hy];exact hxi
   have hXC:=Lib.hid hXC
   have hrow:Hid (rowsOf idC (acc++[x])=rowsOf idC acc++(u8s x).toList):=Lib.hid (by rw [zAo,zAx];rfl)
   generalize u8s x=XC at *
   clear hx hca hat hok hK hkc hmr hfe hRR
   go_wp2
   refine zAw 7 (by kernel_rfl) (by kernel_rfl) (by kernel_rfl) (by kernel_rfl) ?_
   simp only [exSp]
   iterate 7 apply Exists.intro
   repeat
    first
     | ((with_reducible apply lx0_ex)
        ·(go_simp;done)
        apply Exists.intro
        apply And.intro
        ·apply Eq.refl
        apply And.intro
        ·intro W hW hD
         have hW2:=hbel.trans (hW.mono hbel.size)
         have q0:=l2 W hW2
         have q1:=hlx W hW2
         have q2:=hkx W hW2
         go_simp
         first
          | rfl
          | (with_reducible exact q2)
        simp only [Act.put,zA,zB,zC])
     | ((with_reducible apply zAZ)
        ·(first | rfl | (go_simp;done))
        ·apply Eq.refl
        simp only [Act.put,zA,zB,zC])
   refine lx0_nil ?_ fun w5 hW5 hD5=>?_
   ·exact List.nodup_nil
   have b5:=hbel.trans (hW5.mono hbel.size)
   have own5:=zAf hown hW5
   have sz5:=b5.size
   have lx5:=hlx _ b5
   clear hD5 hkx hlx l2
   have kk:=Lib.hid hki
   cases e1:(K==kind)<;>cases e2:(kind==(0:Int))<;>cases e3:(kind==(9:Int))<;>cases e4:decide (K<3)
   all_goals
    go_wp2_with (first
     | ((with_reducible refine zAN (.tmp 44) Tryz.idsTy XC hid32 (by omega) ?_ ?_);rfl)
     | (at_builtin
        (with_reducible refine zAl (.tmp 40) (.tmp 45) 1 _ Tryz.idsTy own5 XC hidl hid1 hkl hm2 sz5 ?_ ?_ ?_);rfl;rfl
        intro v6 w6 hv6 hb6 hg6 hn6
        have b6:=b5.trans hb6
        clear hg6 hn6))
    go_roundw
    case rel=>first
     | exact ⟨k+1,acc,by go_num,by omega,by omega,hall,Lib.hid (by rw [hmo.out,e1,e2,e3,e4];simp),own5,b5⟩
     | exact ⟨k+1,acc++[x],by go_num,by omega,by simp;omega,hall2,Lib.hid (by rw [hmo.out,e1,e2,e3,e4];simp),by unfold OwnIds;rw [List.length_append,hrow.out];exact hv6,b6⟩
    case measure=>simp [intOf];omega
  ·have hki : ¬ (k:Int)<(ids.length:Int):=by omega
   have hke:k=ids.length:=by omega
   have hae:acc=pickL (es.map (·.st)) ids kind:=by rw [hacc.out,hke,hfe]
   have hR2:=hRR.out
   rw [←hae] at hR2
   clear hae hke hacc hRR hfe hmr
   have hz3:=z2.below hbel z2.lt
   have b3:=bthen b2 b2.size hbel
   clear hat hok hkc l2
   cases acc with
   | nil=>
     obtain ⟨A3,c3,rfl⟩:=zAm hown
     have HR:Hid (R = .tuple #[.agg Z, .bool false]):=Lib.hid (by
      rw [←hR2]
      show pickVal none=_
      unfold pickVal
      rw [hZ.out])
     clear hR2
     have hl0:(([]:List Txt).length:Int)=0:=rfl
     go_wp2_with (first
      | (refine wpList_store_row rfl 28 (.tmp 8) (.tmp 50) rfl W1.heap.size Z rfl rfl _ _ hz3 hsz rfl hZone ?_))
     refine bodyPost_ret (zAe rfl _ _ W1.heap.size _ _ _ _ rfl (setRow_heap _ _ _ _ _ _ hz3) Tryz.underlying28 rfl hsz) rfl ?_
     exact ⟨by rw [HR.out];rfl,zAa b3 hle _⟩
   | cons y ys=>
     obtain ⟨m,hm⟩ : ∃ m:Nat,((y::ys).length:Int)-1-(n:Int)%((y::ys).length:Int)=(m:Int):=by
      refine Int.eq_ofNat_of_zero_le ?_
      have:=Int.emod_lt_of_pos (n:Int) (show (0:Int)<((y::ys).length:Int) by simp only [List.length_cons];omega)
      omega
     have hmn:=Int.emod_nonneg (n:Int) (show ((y::ys).length:Int)≠0 by simp only [List.length_cons];omega)
     have hml:m<(y::ys).length:=by omega
     have hL0:0<(y::ys).length:=by simp
     have hLi:(0:Int)<((y::ys).length:Int):=by omega
     have hLn : ¬ ((y::ys).length:Int)=0:=by omega
     have hLb:(((y::ys).length:Int)==0)=false:=by simpa using hLn
     obtain ⟨x,hx⟩ : ∃ x,(y::ys)[m]?=some x:=⟨_,List.getElem?_eq_getElem hml⟩
     have hmN:m=(y::ys).length-1-n%(y::ys).length:=by
      have:=Int.emod_lt_of_pos (n:Int) (show (0:Int)<((y::ys).length:Int) by omega)
      omega
     have HR:Hid (R=pickVal (some x)):=Lib.hid (by rw [←hR2,if_neg (by omega),←hmN,hx])
     have hxi:=hall.out x (List.mem_of_getElem? hx)
     clear hR2 hmN
     have hsl:=SliceAt.of_own (fun e h=>idC_len (hall.out e h)) hown
     obtain ⟨A3,c3,rfl,hc31,hc32,hat3⟩:=hsl
     obtain ⟨g3,o3,rfl,hg3,hc3⟩:=hat3 hL0
     have hlx:(ldvI ⟨g3,o3+m*32,none⟩).run Tryz.prog wr = .ok (.agg (u8s x)) wr:=zAi (show World.rangeAt wr g3 (o3+m*32) (u8s x).toList from hc3 m x hx) hxi
     have hx32:(u8s x).size=32:=by rw [zAh,hxi]
     have hxs:(Tryz.prog.info? 28).map (·.size)=some (u8s x).size:=by rw [hx32];exact sz32
     have hxo:=u8s_one x
     have hzx:Z.size=(u8s x).size:=by rw [hZ32,hx32]
     have hmi:(m:Int)<((y::ys).length:Int):=by omega
     have hLm:((y::ys).length:Int)≤1000:=by omega
     generalize (y::ys).length=LN at *
     have hw1:IntKind.i64.wrap ((LN:Int)-1)=(LN:Int)-1:=IntWalk.i64_in _ (by omega)
     have hw2:IntKind.i64.wrap ((n:Int)%(LN:Int))=(n:Int)%(LN:Int):=IntWalk.i64_in _ (by have:=Int.emod_lt_of_pos (n:Int) hLi;omega)
     have hw3:IntKind.i64.wrap ((m:Int))=(m:Int):=IntWalk.i64_in _ (by omega)
     clear hx hc3 hat3 hown hall hal
     go_wp2_with (first
      | (refine wpList_store_row rfl 28 (.tmp 8) (.tmp 61) rfl W1.heap.size (u8s x) rfl rfl _ _ hz3 hxs hzx hxo ?_))
     refine bodyPost_ret (zAe rfl _ _ W1.heap.size _ _ _ _ rfl (setRow_heap _ _ _ _ _ _ hz3) Tryz.underlying28 rfl hxs) rfl ?_
     exact ⟨by rw [HR.out];rfl,zAa b3 hle _⟩
theorem zCD {w:World} {vm:Value} {es:List DiL} (h:DocSt w vm es) (ids:List Txt) (hok : ∀ x∈ids,x.length=32) (hil:ids.length≤1000) (vi:Value) (hi:Ids w vi ids) (n:Nat) (hn:n≤100000) (kind:Int) :
 Calls Tryz.prog 91 #[.agg #[vm],vi, .int .i64 n, .int .i64 kind] w fun e w'=>PickR e∧Below w.heap.size w w':=by
 refine (pickF_calls h ids hok hil vi hi n hn kind).mono fun e w' ⟨q1,q2⟩=>⟨?_,q2⟩
 subst q1
 cases hp:pickF (es.map (·.st)) ids n kind with
 | none=>exact ⟨noId,false,rfl,zAc⟩
 | some x=>exact ⟨x,true,rfl,pickF_len hok hp⟩
end
theorem len32 {x:List UInt8} (h:x.length=32) : ∃ f:Fin 32→UInt8,x=List.ofFn f:=
 ⟨fun i=>x[i.1]'(by omega),by
  apply List.ext_getElem
  ·rw [List.length_ofFn,h]
  ·intro i h1 h2
   rw [List.getElem_ofFn]⟩
set_option maxRecDepth 100000 in
theorem built_commit (x:Txt) (hx:x.length=32) (n:Nat) (t:Txt):Tryz.prog.built 74 [(0, .int .i64 3),(3, .agg (u8s x)),(5, .int .u32 n),(6, .string (B t))]=some (objC ⟨3,[],[],x,[],n,t,noId,0,[]⟩ (.slice none 0 0) (.slice none 0 0)).toArray:=by
 obtain ⟨f,rfl⟩:=len32 hx
 kernel_rfl
set_option maxRecDepth 100000 in
theorem built_tag (x:Txt) (hx:x.length=32) (k:Int) (t:Txt):Tryz.prog.built 74 [(0, .int .i64 4),(7, .agg (u8s x)),(8, .int .i64 k),(9, .string (B t))]=some (objC ⟨4,[],[],noId,[],0,[],x,k,t⟩ (.slice none 0 0) (.slice none 0 0)).toArray:=by
 obtain ⟨f,rfl⟩:=len32 hx
 kernel_rfl
theorem built_blob (t:Txt):Tryz.prog.built 74 [(0, .int .i64 1),(1, .string (B t))]=some (objC ⟨1,t,[],noId,[],0,[],noId,0,[]⟩ (.slice none 0 0) (.slice none 0 0)).toArray:=by kernel_rfl
section
attribute [local go_sem ↓] ldvI_eq ldvS_eq stvI_eq ldvO_eq
def MkR (w:World) (e:Ending) (w':World):Prop := ∃ o A1 A2 k1 k2,e = .returned (.agg (objC o (.slice A1 o.ents.length k1) (.slice A2 o.pars.length k2)).toArray)∧Small o∧ObjOk o∧OwnEnts w' w.heap.size (.slice A1 o.ents.length k1) o.ents∧OwnIds w' w.heap.size (.slice A2 o.pars.length k2) o.pars
theorem MkR.bare {w w':World} (o:ObjL) (he:o.ents=[]) (hp:o.pars=[]) (hs:Small o) (ho:ObjOk o):MkR w (.returned (.agg (objC o (.slice none 0 0) (.slice none 0 0)).toArray)) w':=by
 refine ⟨o,none,none,0,0,?_,hs,ho,?_,?_⟩
 ·rw [he,hp];rfl
 ·rw [he];exact World.ownsRow_nil _ _ _ _
 ·rw [hp];exact World.ownsRow_nil _ _ _ _
def PickV (v:Value):Prop := ∃ x b,v = .tuple #[.agg (u8s x), .bool b]∧x.length=32
theorem zDU {s:List StL} (n:Txt):0≤kindS s n∧kindS s n≤255:=by
 unfold kindS
 split
 ·split
  ·rename_i o ho
   obtain ⟨c,q,_,hk⟩:=dec_kind ho
   have:=c.toNat_lt
   omega
  ·omega
 ·omega
theorem zeroO_small : Small zeroO:=⟨by decide,by simp [zeroO],by decide,by decide,by decide,by decide⟩
theorem zeroO_ok : ObjOk zeroO:=⟨zAc,zAc,by simp [zeroO],by simp [zeroO],by decide,by decide,by decide,by decide,by decide,by decide,by decide,by decide⟩
set_option maxRecDepth 100000 in
set_option maxHeartbeats 8000000 in
theorem make_blob {w:World} {vm:Value} {es:List DiL} (h:DocSt w vm es) (ids:List Txt) (hok : ∀ x∈ids,x.length=32) (hil:ids.length≤1000) (vi:Value) (hi:Ids w vi ids) (x:SdL) (hx:SdOk w x) (hr:x.refs.length≤10) (ht:x.text.length≤300) (hk:(x.kind.toNat:Int)%4=0) :
 Calls Tryz.prog 58 #[.agg #[vm],vi, .agg (sdC x).toArray] w fun e w'=>MkR w e w'∧Below w.heap.size w w':=by
 have hzo:=zeroObj
 have hz72:=zAu
 have hzone:zObj.all (·.oneCell')=true:=zAz zeroO none none 0 0 0 0
 have hsz : ∀ cs:Array Value,cs.size=72→(Tryz.prog.info? 74).map (·.size)=some cs.size:=fun cs h=>by rw [h];exact szObj
 obtain ⟨W1,hW1⟩ : ∃ W1,w.alloc (.cells #[vm] 34)=W1:=⟨_,rfl⟩
 have s1:Blk W1 w.heap.size 34 #[vm]:=by rw [←hW1];exact Blk.new _ _ _
 have b1:Below w.heap.size w W1:=by rw [←hW1];exact (Below.refl _ _).alloc (Nat.le_refl _) _
 obtain ⟨W2,hW2⟩ : ∃ W2,W1.alloc (.cells (sdC x).toArray 137)=W2:=⟨_,rfl⟩
 have d2:Blk W2 W1.heap.size 137 (sdC x).toArray:=by rw [←hW2];exact Blk.new _ _ _
 have bb2:Below W1.heap.size W1 W2:=by rw [←hW2];exact (Below.refl _ _).alloc (Nat.le_refl _) _
 obtain ⟨W3,hW3⟩ : ∃ W3,W2.alloc (.cells zObj 74)=W3:=⟨_,rfl⟩
 have z3:Blk W3 W2.heap.size 74 zObj:=by rw [←hW3];exact Blk.new _ _ _
 have bb3:Below W2.heap.size W2 W3:=by rw [←hW3];exact (Below.refl _ _).alloc (Nat.le_refl _) _
 have b2:=bthen b1 b1.size bb2
 have b3:=bthen b2 b2.size bb3
 have s3:=(s1.below bb2 s1.lt).below bb3 (s1.below bb2 s1.lt).lt
 have d3:=d2.below bb3 d2.lt
 have hle2:w.heap.size≤W2.heap.size:=b2.size
 have hlt0:=s1.lt
 have hlt1:=d2.lt
 have hlt2:=z3.lt
 have fL:=fun W (hW:Below W3.heap.size W3 W)=>zAF (s3.below hW s3.lt)
 have fK : ∀ W,Below W3.heap.size W3 W→W.cell? ⟨W1.heap.size,0,none⟩=some (.int .u8 x.kind.toNat):=fun W hW=>(d3.below hW d3.lt).cell 0
 have fR : ∀ W,Below W3.heap.size W3 W→W.cell? ⟨W1.heap.size,1,none⟩=some x.vr:=fun W hW=>(d3.below hW d3.lt).cell 1
 have fT : ∀ W,Below W3.heap.size W3 W→W.cell? ⟨W1.heap.size,2,none⟩=some (.int .u16 x.time):=fun W hW=>(d3.below hW d3.lt).cell 2
 have fX : ∀ W,Below W3.heap.size W3 W→W.cell? ⟨W1.heap.size,3,none⟩=some (.string (B x.text)):=fun W hW=>(d3.below hW d3.lt).cell 3
 have k3:=fK W3 (Below.refl _ _)
 have hkb:(x.kind.toNat:Int)<256:=by have:=x.kind.toNat_lt;omega
 have hbd:=built_blob x.text
 have hcs:(objC ⟨1,x.text,[],noId,[],0,[],noId,0,[]⟩ (.slice none 0 0) (.slice none 0 0)).toArray.size=72:=by rw [List.size_toArray];exact zAC ⟨zAc,zAc,by simp,by simp,hx.text,by simp,by simp,by simp,by simp,by simp,by simp,by simp⟩ _ _
 have hc1:=zAz ⟨1,x.text,[],noId,[],0,[],noId,0,[]⟩ none none 0 0 0 0
 have x3:=fX W3 (Below.refl _ _)
 have hfin : ∀ w',MkR w (.returned (.agg (objC ⟨1,x.text,[],noId,[],0,[],noId,0,[]⟩ (.slice none 0 0) (.slice none 0 0)).toArray)) w':=fun w'=>MkR.bare _ rfl rfl ⟨by simp,by simp,by simp,by show x.text.length≤_;omega,by simp,by simp⟩ ⟨zAc,zAc,by simp,by simp,hx.text,by simp,by simp,by simp,by simp,by simp,by simp,by simp⟩
 clear h hi hx fL fK fR fT fX hok
 generalize (objC ⟨1,x.text,[],noId,[],0,[],noId,0,[]⟩ (.slice none 0 0) (.slice none 0 0)).toArray=OC at *
 generalize (sdC x).toArray=SC at *
 generalize zObj=ZO at *
 go_enter Tryz.func58,Tryz.ntmps58
 go_wp2_with (first
  | ((with_reducible refine lit_build2 hbd ?_ ?_ ?_);rfl;rfl)
  | (refine wpList_store_row rfl 74 (.tmp 6) (.tmp 165) rfl W2.heap.size OC rfl rfl _ _ z3 (hsz _ hcs) (hz72.trans hcs.symm) hc1 ?_))
 refine bodyPost_ret (results_cell_row rfl _ _ W2.heap.size _ _ _ _ rfl (setRow_heap _ _ _ _ _ _ z3) Tryz.underlying74 rfl (hsz _ hcs)) rfl ⟨hfin _,zAa b3 hle2 _⟩
set_option maxRecDepth 100000 in
set_option maxHeartbeats 8000000 in
theorem make_tag {w:World} {vm:Value} {es:List DiL} (h:DocSt w vm es) (ids:List Txt) (hok : ∀ x∈ids,x.length=32) (hil:ids.length≤1000) (vi:Value) (hi:Ids w vi ids) (x:SdL) (hx:SdOk w x) (hr:x.refs.length≤10) (ht:x.text.length≤300) (hk:(x.kind.toNat:Int)%4=3) :
 Calls Tryz.prog 58 #[.agg #[vm],vi, .agg (sdC x).toArray] w fun e w'=>MkR w e w'∧Below w.heap.size w w':=by
 have hzo:=zeroObj
 have hz72:=zAu
 have hzone:zObj.all (·.oneCell')=true:=zAz zeroO none none 0 0 0 0
 have hsz : ∀ cs:Array Value,cs.size=72→(Tryz.prog.info? 74).map (·.size)=some cs.size:=fun cs h=>by rw [h];exact szObj
 obtain ⟨W1,hW1⟩ : ∃ W1,w.alloc (.cells #[vm] 34)=W1:=⟨_,rfl⟩
 have s1:Blk W1 w.heap.size 34 #[vm]:=by rw [←hW1];exact Blk.new _ _ _
 have b1:Below w.heap.size w W1:=by rw [←hW1];exact (Below.refl _ _).alloc (Nat.le_refl _) _
 obtain ⟨W2,hW2⟩ : ∃ W2,W1.alloc (.cells (sdC x).toArray 137)=W2:=⟨_,rfl⟩
 have d2:Blk W2 W1.heap.size 137 (sdC x).toArray:=by rw [←hW2];exact Blk.new _ _ _
 have bb2:Below W1.heap.size W1 W2:=by rw [←hW2];exact (Below.refl _ _).alloc (Nat.le_refl _) _
 obtain ⟨W3,hW3⟩ : ∃ W3,W2.alloc (.cells zObj 74)=W3:=⟨_,rfl⟩
 have z3:Blk W3 W2.heap.size 74 zObj:=by rw [←hW3];exact Blk.new _ _ _
 have bb3:Below W2.heap.size W2 W3:=by rw [←hW3];exact (Below.refl _ _).alloc (Nat.le_refl _) _
 have b2:=bthen b1 b1.size bb2
 have b3:=bthen b2 b2.size bb3
 have s3:=(s1.below bb2 s1.lt).below bb3 (s1.below bb2 s1.lt).lt
 have d3:=d2.below bb3 d2.lt
 have hle2:w.heap.size≤W2.heap.size:=b2.size
 have hlt0:=s1.lt
 have hlt1:=d2.lt
 have hlt2:=z3.lt
 have fL:=fun W (hW:Below W3.heap.size W3 W)=>zAF (s3.below hW s3.lt)
 have fK : ∀ W,Below W3.heap.size W3 W→W.cell? ⟨W1.heap.size,0,none⟩=some (.int .u8 x.kind.toNat):=fun W hW=>(d3.below hW d3.lt).cell 0
 have fR : ∀ W,Below W3.heap.size W3 W→W.cell? ⟨W1.heap.size,1,none⟩=some x.vr:=fun W hW=>(d3.below hW d3.lt).cell 1
 have fT : ∀ W,Below W3.heap.size W3 W→W.cell? ⟨W1.heap.size,2,none⟩=some (.int .u16 x.time):=fun W hW=>(d3.below hW d3.lt).cell 2
 have fX : ∀ W,Below W3.heap.size W3 W→W.cell? ⟨W1.heap.size,3,none⟩=some (.string (B x.text)):=fun W hW=>(d3.below hW d3.lt).cell 3
 have k3:=fK W3 (Below.refl _ _)
 have hkb:(x.kind.toNat:Int)<256:=by have:=x.kind.toNat_lt;omega
 have hsI:(Tryz.prog.info? 28).map (·.size)=some (u8s noId).size:=by rw [zAh,zAc];exact sz32
 have hrb:=fun W=>run_build (P:=Tryz.prog) W _ _ _ zBL
 obtain ⟨A,cap,hvr,hcap1,hcap2,hat⟩:=hx.refs
 rw [hvr] at fR
 have r3:=fR W3 (Below.refl _ _)
 have hfz : ∀ w',MkR w (.returned (.agg zObj)) w':=fun w'=>MkR.bare zeroO rfl rfl zeroO_small zeroO_ok
 have hkc:=fun (y:Txt) (hy:y.length=32) W (hW:Below W3.heap.size W3 W)=>zCj (h.below (bthen b3 b3.size hW)) y hy
 rcases Nat.eq_zero_or_pos x.refs.length with hrl | hrl
 ·skip
  have hl0:(x.refs.length:Int)=0:=by omega
  clear h hi hx fL fK fR fT fX hok hkc hat hvr hrl
  generalize (sdC x).toArray=SC at *
  generalize zObj=ZO at *
  go_enter Tryz.func58,Tryz.ntmps58
  go_wp2_with (first
   | (refine wpList_store_row rfl 74 (.tmp 6) (.tmp 128) rfl W2.heap.size ZO rfl rfl _ _ z3 (hsz _ hz72) rfl hzone ?_))
  refine bodyPost_ret (results_cell_row rfl _ _ W2.heap.size _ _ _ _ rfl (setRow_heap _ _ _ _ _ _ z3) Tryz.underlying74 rfl (hsz _ hz72)) rfl ⟨hfz _,zAa b3 hle2 _⟩
 ·have hlb:((x.refs.length:Int)==0)=false:=by rw [beq_eq_false_iff_ne];omega
  have hl0 : ¬ (x.refs.length:Int)=0:=by omega
  have hlp:(0:Int)<(x.refs.length:Int):=by omega
  obtain ⟨ga,oa,rfl,hga,hca⟩:=hat (by omega)
  obtain ⟨c0,hc0⟩ : ∃ c,x.refs[0]?=some c:=⟨_,List.getElem?_eq_getElem hrl⟩
  have fB : ∀ W,Below W3.heap.size W3 W→W.cell? ⟨ga,oa,none⟩=some (.int .u8 c0.toNat):=fun W hW=>by
   have:=zAb (hca 0 c0 hc0) hga (bthen b3 b3.size hW) 0 _ rfl
   simpa [byC,u8v] using this
  have hc0b:(c0.toNat:Int)<256:=by have:=c0.toNat_lt;omega
  have hc0w:IntKind.i64.wrap (c0.toNat:Int)=(c0.toNat:Int):=IntWalk.i64_in _ (by omega)
  have hpk:=fun W (hW:Below W3.heap.size W3 W)=>(zCD (h.below (bthen b3 b3.size hW)) ids hok hil vi (hi.below (bthen b3 b3.size hW)) c0.toNat (by omega) 0)
  have fB1:1<x.refs.length → ∃ c1:UInt8, ∀ W,Below W3.heap.size W3 W→W.cell? ⟨ga,oa+1,none⟩=some (.int .u8 c1.toNat):=fun h1=>by
   obtain ⟨c1,hc1⟩ : ∃ c,x.refs[1]?=some c:=⟨_,List.getElem?_eq_getElem h1⟩
   refine ⟨c1,fun W hW=>?_⟩
   have:=zAb (hca 1 c1 hc1) hga (bthen b3 b3.size hW) 0 _ rfl
   simpa [byC,u8v] using this
  clear h hi hx fK fT fX hok hvr hca hc0 hat
  generalize (sdC x).toArray=SC at *
  generalize zObj=ZO at *
  go_enter Tryz.func58,Tryz.ntmps58
  go_wp2
  refine zAw 14 (by kernel_rfl) (by kernel_rfl) (by kernel_rfl) (by kernel_rfl) ?_
  simp only [exSp]
  iterate 14 apply Exists.intro
  repeat
   first
    | ((with_reducible apply lx0_ex)
       ·(go_simp;done)
       apply Exists.intro
       apply And.intro
       ·apply Eq.refl
       apply And.intro
       ·intro W hW hD
        have hW2:=hW
        have q0:=fL W hW2
        have q1:=fR W hW2
        have q2:=fB W hW2
        go_simp
        rfl
       simp only [Act.put,zA,zB,zC])
    | ((with_reducible apply zAZ)
       ·(first | rfl | (go_simp;done))
       ·apply Eq.refl
       simp only [Act.put,zA,zB,zC])
    | ((with_reducible refine lx0_new (fun v _ _=>PickV v) rfl ?_ (zBf PickV) ?_ ?_)
       ·(go_simp;done)
       ·intro W hW hD
        have hW2:=hW
        unfold doesAt Oper.wp execOp
        go_simp
        (with_reducible refine (hpk W hW2).mono ?_)
        rintro e w' ⟨⟨y,b,rfl,hy⟩,hb⟩
        exact ⟨hb,fun _ _ _ _=>⟨y,b,rfl,hy⟩⟩
       intro v
       simp only [Act.put,zA,zB,zC])
    | (first | (with_reducible apply zBi) | (with_reducible apply zAO)
       ·apply Eq.refl
       apply Exists.intro
       apply And.intro
       ·(go_simp;rfl)
       simp only [Act.put,zA,zB,zC])
    | ((with_reducible apply zCn)
       ·apply Eq.refl
       apply Exists.intro
       apply And.intro
       ·(go_simp;rfl)
       refine ⟨fun W hW hD=>?_,?_⟩
       ·obtain ⟨F,y,b,rfl,hy⟩:=hD.at 0 rfl (by kernel_rfl)
        exact ⟨_,rfl,by simp⟩
       simp only [Act.put,zA,zB,zC])
    | ((with_reducible apply lx_al 28 (u8s noId) zeroIdV)
       ·apply Eq.refl
       intro v
       simp only [Act.put,zA,zB,zC])
    | ((with_reducible apply lx_st' 11 28 (u8s noId) hsI (by kernel_rfl))
       ·exact rfl
       ·apply Eq.refl
       apply Exists.intro
       apply Exists.intro
       apply And.intro
       ·(go_simp;rfl)
       apply And.intro
       ·(go_simp;rfl)
       refine ⟨?_,fun W hW hD=>?_,?_⟩
       ·first | exact List.Mem.head _ | exact List.Mem.tail _ (List.Mem.head _) | exact List.Mem.tail _ (List.Mem.tail _ (List.Mem.head _)) | exact List.Mem.tail _ (List.Mem.tail _ (List.Mem.tail _ (List.Mem.head _)))
       ·obtain ⟨F,y,b,rfl,hy⟩:=hD.at 1 rfl (by kernel_rfl)
        exact ⟨_,rfl,by rw [zAh,zAh,hy,zAc],u8s_one y⟩)
  refine lx0_nil ?_ fun w5 hW5 hD5=>?_
  ·exact (by simp [stsOf])
  obtain ⟨_,y,b,rfl,hy⟩:=hD5 _ (.tail _ (.tail _ (.head _)))
  obtain ⟨_,g,cs,rfl,hcs,hg1,_,hg2⟩:=hD5 _ (.head _)
  obtain rfl:u8s y=cs:=by injection hcs
  clear hcs hD5
  simp only [extr2_0,extr2_1]
  have b5:=bthen b3 b3.size hW5
  have z5:=z3.below hW5 z3.lt
  have hgI:=zAi (zAj hg2) hy
  have r5:=fR _ hW5
  have l5:=fL _ hW5
  have hk5:=hkc y hy _ hW5
  clear hpk hkc
  cases b
  ·clear hk5
   go_wp2_with (first
    | (refine wpList_store_row rfl 74 (.tmp 6) (.tmp 142) rfl W2.heap.size ZO rfl rfl _ _ z5 (hsz _ hz72) rfl hzone ?_))
   refine bodyPost_ret (results_cell_row rfl _ _ W2.heap.size _ _ _ _ rfl (setRow_heap _ _ _ _ _ _ z5) Tryz.underlying74 rfl (hsz _ hz72)) rfl ⟨hfz _,zAa b5 hle2 _⟩
  ·obtain ⟨K,hK⟩ : ∃ K,kindS (es.map (·.st)) y=K:=⟨_,rfl⟩
   have hKb:=zDU (s:=es.map (·.st)) y
   rw [hK] at hKb hk5
   have hk5:=Lib.hid hk5
   have hbd:=fun k=>built_tag y hy k [116]
   have hcs : ∀ k:Int,(objC ⟨4,[],[],noId,[],0,[],y,k,[116]⟩ (.slice none 0 0) (.slice none 0 0)).toArray.size=72:=fun k=>by
    rw [List.size_toArray]
    unfold objC
    simp [zAh,zAc,hy]
   have hc1:=fun k:Int=>zAz ⟨4,[],[],noId,[],0,[],y,k,[116]⟩ none none 0 0 0 0
   have hfin : ∀ (k:Int) w', -9223372036854775808≤k→k≤9223372036854775807→MkR w (.returned (.agg (objC ⟨4,[],[],noId,[],0,[],y,k,[116]⟩ (.slice none 0 0) (.slice none 0 0)).toArray)) w':=fun k w' h1 h2=>MkR.bare _ rfl rfl ⟨by simp,by simp,by simp,by simp,by simp,by simp⟩ ⟨zAc,hy,by simp,by simp,by simp,by simp,by simp,by simp,by simp,by simp,h1,h2⟩
   have hfa : ∀ (W:World),Below w5.heap.size w5 W→(ldvI ⟨g,0,none⟩).run Tryz.prog W = .ok (.agg (u8s y)) W:=fun W hW=>zAi (zAj (hg2.below hW hg2.lt)) hy
   have hw4:IntKind.i64.wrap (1+K%4)=1+K%4:=IntWalk.i64_in _ (by omega)
   have hK0:=hKb.1
   have hK1:=hKb.2
   have hfinK:=hfin K
   have hfin4:=hfin (1+K%4)
   have hbdK:Tryz.prog.built 74 [(0, .int .i64 4),(7, .agg (u8s y)),(8, .int .i64 K),(9, .string ⟨#[116]⟩)]=some _:=hbd K
   have hbd4:Tryz.prog.built 74 [(0, .int .i64 4),(7, .agg (u8s y)),(8, .int .i64 (1+K%4)),(9, .string ⟨#[116]⟩)]=some _:=hbd (1+K%4)
   have hcsK:=hcs K
   have hcs4:=hcs (1+K%4)
   have hc1K:=hc1 K
   have hc14:=hc1 (1+K%4)
   clear hbd hcs hc1 hfin hK hKb hgI
   generalize (objC ⟨4,[],[],noId,[],0,[],y,K,[116]⟩ (.slice none 0 0) (.slice none 0 0)).toArray=OK at *
   generalize (objC ⟨4,[],[],noId,[],0,[],y,1+K%4,[116]⟩ (.slice none 0 0) (.slice none 0 0)).toArray=O4 at *
   have hgI:=hfa _ (Below.refl _ _)
   have main:1<x.refs.length ∨ ¬ 1<x.refs.length:=by omega
   rcases main with h1 | h1
   ·have h1i:(1:Int)<(x.refs.length:Int):=by omega
    obtain ⟨c1,f1⟩:=fB1 h1
    cases hc:((c1.toNat:Int)==250)
    all_goals
     go_wp2_with (first
      | ((with_reducible refine hk5.out.mono ?_);rintro e w6 ⟨rfl,hb6⟩
         have b6:=bthen b5 b5.size hb6
         have z6:=z5.below hb6 z5.lt
         have hgI6:=hfa _ hb6
         have r6:=fR _ (bthen hW5 hW5.size hb6)
         have q6:=f1 _ (bthen hW5 hW5.size hb6))
      | ((with_reducible refine zCJ hbdK ?_ ?_ ?_ ?_ ?_);rfl;rfl;rfl;rfl)
      | ((with_reducible refine zCJ hbd4 ?_ ?_ ?_ ?_ ?_);rfl;rfl;rfl;rfl)
      | (refine wpList_store_row rfl 74 (.tmp 6) (.tmp 162) rfl W2.heap.size OK rfl rfl _ _ z6 (hsz _ hcsK) (hz72.trans hcsK.symm) hc1K ?_)
      | (refine wpList_store_row rfl 74 (.tmp 6) (.tmp 162) rfl W2.heap.size O4 rfl rfl _ _ z6 (hsz _ hcs4) (hz72.trans hcs4.symm) hc14 ?_))
     first
      | refine bodyPost_ret (results_cell_row rfl _ _ W2.heap.size _ _ _ _ rfl (setRow_heap _ _ _ _ _ _ z6) Tryz.underlying74 rfl (hsz _ hcsK)) rfl ⟨hfinK _ (by omega) (by omega),zAa b6 hle2 _⟩
      | refine bodyPost_ret (results_cell_row rfl _ _ W2.heap.size _ _ _ _ rfl (setRow_heap _ _ _ _ _ _ z6) Tryz.underlying74 rfl (hsz _ hcs4)) rfl ⟨hfin4 _ (by omega) (by omega),zAa b6 hle2 _⟩
   ·have h1i : ¬ (1:Int)<(x.refs.length:Int):=by omega
    go_wp2_with (first
     | ((with_reducible refine hk5.out.mono ?_);rintro e w6 ⟨rfl,hb6⟩
        have b6:=bthen b5 b5.size hb6
        have z6:=z5.below hb6 z5.lt
        have hgI6:=hfa _ hb6
        have r6:=fR _ (bthen hW5 hW5.size hb6))
     | ((with_reducible refine zCJ hbdK ?_ ?_ ?_ ?_ ?_);rfl;rfl;rfl;rfl)
     | (refine wpList_store_row rfl 74 (.tmp 6) (.tmp 162) rfl W2.heap.size OK rfl rfl _ _ z6 (hsz _ hcsK) (hz72.trans hcsK.symm) hc1K ?_))
    refine bodyPost_ret (results_cell_row rfl _ _ W2.heap.size _ _ _ _ rfl (setRow_heap _ _ _ _ _ _ z6) Tryz.underlying74 rfl (hsz _ hcsK)) rfl ⟨hfinK _ (by omega) (by omega),zAa b6 hle2 _⟩
end
end Go.Proofs.YtodebknbchaccaaGreatDoor
