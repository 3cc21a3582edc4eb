/- Texts of this claim, laid together: DocT, ChkM, OpenU8, Tab. -/
import Derived.Test.YtfdfoplmijmnaaaGreatDoorMn
import Derived.Test.YtfdfoplmijmnaaaGreatDoorCards
import Derived.Deep.CutBlock
import Derived.WalkKit
import Derived.ProofKit
import Derived.OpenShut
import Derived.Deep.DeepHandedRow
import Derived.Lib.LaidTab
namespace Go.Proofs.YtfdfoplmijmnaaaGreatDoor
open Go.RowKit
attribute [local go_sem ↓] ldvI_eq ldvS_eq
theorem Tryz.strTy11 : SliceTy Tryz.prog 59 9 (.string ⟨#[]⟩) 1 16:=⟨Tryz.underlying59,info_parts (by kernel_rfl),rfl,by omega⟩
abbrev OwnTxs (w:World) (base:Nat) (v:Value) (l:List Txt):Prop:=w.ownsRow base 9 1 v l.length (rowsOf txC l)
/-- What At tells, as a value. -/
def AtV (es:List DiL) (n:Txt) (v:Value):Prop:=(∃ (k:Nat) (x:DiL),v = .int .i64 k∧es[k]?=some x∧getS (es.map (·.st)) n=some x.st)∨(v = .int .i64 (-1)∧getS (es.map (·.st)) n=none)
theorem AtR.val {es:List DiL} {n:Txt} {e:Ending} (h:AtR es n e) : ∃ v,e = .returned v∧AtV es n v:=by
 rcases h with ⟨k,x,rfl,h1,h2⟩ | ⟨rfl,h1⟩
 ·exact ⟨_,rfl, .inl ⟨k,x,rfl,h1,h2⟩⟩
 ·exact ⟨_,rfl, .inr ⟨rfl,h1⟩⟩
theorem items_more {S:List StL} {l:List Txt} {k:Nat} {n:Txt} (h:l[k]?=some n):itemsS S (l.take (k+1))=itemsS S (l.take k)++(getS S n).toList:=by
 unfold itemsS
 rw [List.take_add_one,h,List.filterMap_append]
 cases hg:getS S n<;>simp [hg]
theorem items_len (S:List StL) (l:List Txt):(itemsS S l).length≤l.length:=List.length_filterMap_le _ _
set_option maxRecDepth 100000 in
set_option maxHeartbeats 4000000 in
theorem docTexts_calls {w:World} {vm:Value} {es:List DiL} (h:DocSt w vm es) (l:List Txt) (hlok : ∀ x∈l,x.length=32) (hl:l.length≤1000000) (vl:Value) (hvl:Ids w vl l) :
 Calls Tryz.prog 19 #[.agg #[vm],vl] w fun e w' => ∃ v,e = .returned v∧OwnTxs w' w.heap.size v ((itemsS (es.map (·.st)) l).map StL.text)∧Below w.heap.size w w':=by
 have hfew:=h.few
 have heach:=h.each
 have hat0 : ∀ W,Below w.heap.size w W → ∀ n:Txt,n.length=32→Calls Tryz.prog 37 #[.agg #[vm], .agg (u8s n)] W fun e w'=>(∃ v,e = .returned v∧AtV es n v)∧Below W.heap.size W w':=fun W hW n hn=>(docAt_calls (h.below hW) n hn).mono fun e w' ⟨q1,q2⟩=>⟨q1.val,q2⟩
 obtain ⟨A,cap,rfl,hcap1,hcap2,hat⟩:=h.at_
 obtain ⟨Al,cl,rfl,hl1,hl2,hatl⟩:=hvl
 obtain ⟨W1,hW1⟩ : ∃ W1,w.alloc (.cells #[.slice A es.length cap] 30)=W1:=⟨_,rfl⟩
 have s1:Blk W1 w.heap.size 30 #[.slice A es.length cap]:=by rw [←hW1];exact Blk.new _ _ _
 have b1:Below w.heap.size w W1:=by rw [←hW1];exact (Below.refl _ _).alloc (Nat.le_refl _) _
 have hlt1:=s1.lt
 have hle1:=Nat.le_of_lt hlt1
 obtain ⟨S,hS⟩ : ∃ S,es.map (·.st)=S:=⟨_,rfl⟩
 replace hS:=Lib.hid hS
 rw [hS.out]
 clear h
 go_enter Tryz.func19,Tryz.ntmps19
 go_wp2
 go_loopg [5,6] l.length (fun f vo vi wr => ∃ (k:Nat) (acc:List Txt),vi = .int .i64 k∧k+f=l.length∧OwnTxs wr W1.heap.size vo acc∧Hid (acc=(itemsS S (l.take k)).map StL.text)∧acc.length≤k∧Below W1.heap.size W1 wr)
 case atStart=>exact ⟨0,[],rfl,by omega,World.ownsRow_nil _ _ _ _,Lib.hid rfl,by simp,Below.refl _ _⟩
 case round=>
  clear hW1
  obtain ⟨k,acc,rfl,hkf,hown,hacc,hal,hbel⟩:=hrel
  have hbs:=hbel.size
  have hbr:=bthen b1 b1.size hbel
  obtain ⟨Ao,co,rfl⟩:=own_form' hown
  cases gk with
  | zero=>
    have hki : ¬ (k:Int)<(l.length:Int):=by omega
    have hke:l.take k=l:=List.take_of_length_le (by omega)
    rw [hke] at hacc
    clear hat heach hatl hke
    go_wp2
    go_ret
    refine ⟨_,rfl,?_,hbr⟩
    rw [←hacc.out]
    exact own_low' hown hle1
  | succ f=>
    have hki:(k:Int)<(l.length:Int):=by omega
    have hkl:k<l.length:=by omega
    obtain ⟨gl,ol,rfl,hgl,hcl⟩:=hatl (by omega)
    obtain ⟨n,hn⟩ : ∃ n,l[k]?=some n:=⟨_,List.getElem?_eq_getElem hkl⟩
    have hn32:=hlok n (List.mem_of_getElem? hn)
    have hln:=fun W (hW:Below wr.heap.size wr W)=>run_ldvI_at (show World.rangeAt W gl (ol+k*32) (u8s n).toList from rangeAt_below (hcl k n hn) hgl (bthen hbr hbr.size hW)) hn32
    have hsr:=s1.below hbel hlt1
    have lS:=fun W (hW:Below wr.heap.size wr W)=>run_ldvS (hsr.below hW hsr.lt)
    have hqa:=fun W (hW:Below wr.heap.size wr W)=>hat0 W (bthen hbr hbr.size hW) n hn32
    have hmore:Hid (itemsS S (l.take (k+1))=itemsS S (l.take k)++(getS S n).toList):=Lib.hid (items_more hn)
    have hgb1:gl<wr.heap.size:=by have:=hbr.size;omega
    clear hatl hcl hn hat0
    go_upto_region 6 with (fail)
    refine wp_region_go0 7 (by kernel_rfl) (by kernel_rfl) (by kernel_rfl) (by kernel_rfl) ?_
    simp only [exSp]
    iterate 7 apply Exists.intro
    repeat
     first
      | ((with_reducible apply lx0_ex)
         ·(go_simp;done)
         apply Exists.intro
         apply And.intro
         ·apply Eq.refl
         apply And.intro
         ·intro W hW hD
          have q0:=lS W hW
          have q1:=hln W hW
          go_simp
          rfl
         simp only [Act.put,List.setIfInBounds_toArray,List.set_cons_zero,List.set_cons_succ])
      | ((with_reducible apply lx0_pass)
         ·(first | rfl | (go_simp;done))
         ·apply Eq.refl
         simp only [Act.put,List.setIfInBounds_toArray,List.set_cons_zero,List.set_cons_succ])
      | ((with_reducible refine lx0_new (fun v _ _=>AtV es n v) rfl ?_ (stab_pure (AtV es n)) ?_ ?_)
         ·(go_simp;done)
         ·intro W hW hD
          unfold doesAt Oper.wp execOp
          go_simp
          (with_reducible refine (hqa W hW).mono ?_)
          rintro e w' ⟨⟨v,rfl,hv⟩,hb⟩
          exact ⟨hb,fun _ _ _ _=>hv⟩
         intro v
         simp only [Act.put,List.setIfInBounds_toArray,List.set_cons_zero,List.set_cons_succ])
      | (first | (with_reducible apply lx_move') | (with_reducible apply lx_assign')
         ·apply Eq.refl
         apply Exists.intro
         apply And.intro
         ·(go_simp;rfl)
         simp only [Act.put,List.setIfInBounds_toArray,List.set_cons_zero,List.set_cons_succ])
    refine lx0_nil ?_ fun w5 hW5 hD5=>?_
    ·exact (by simp [stsOf])
    have b5:=hbel.trans (hW5.mono hbs)
    have b05:=bthen hbr hbr.size hW5
    have o5:=own_below hown hW5
    have hs5:=hsr.below hW5 hsr.lt
    have c5:w5.cell? ⟨w.heap.size,0,none⟩=some (.slice A es.length cap):=hs5.cell 0
    obtain ⟨_,hav⟩:=hD5 _ (.head _)
    unfold AtV at hav
    rw [hS.out] at hav
    clear hD5 hqa lS hln
    rcases hav with ⟨p,x,rfl,hx,hg⟩ | ⟨rfl,hg⟩
    ·have hp0:(0:Int)≤(p:Int):=by omega
     have hpl:=(List.getElem?_eq_some_iff.1 hx).1
     have hpi:(p:Int)<(es.length:Int):=by omega
     obtain ⟨ga,oa,rfl,hga,hca⟩:=hat (by omega)
     have hxo:=heach x (List.mem_of_getElem? hx)
     have htx:=dit_text (rangeAt_below (hca p x hx) hga b05) hxo.id
     have hrow:Hid (rowsOf txC (acc++[x.st.text])=rowsOf txC acc++[.string (B x.st.text)]):=Lib.hid (by rw [rowsOf_append,rowsOf_one];rfl)
     have hlen:Hid ((acc++[x.st.text]).length=acc.length+1):=Lib.hid (by rw [List.length_append];rfl)
     have hacc2:Hid (acc++[x.st.text]=(itemsS S (l.take (k+1))).map StL.text):=Lib.hid (by rw [hmore.out,hg,List.map_append,←hacc.out];rfl)
     have m1:acc.length+1≤9223372036854775807:=by omega
     have m2:(acc.length+1)*16≤140737488355328:=by omega
     have szr:=Nat.le_trans hbs hW5.size
     have hc1:(#[Value.string (B x.st.text)]:Array Value).size=1:=rfl
     have hc11:(#[Value.string (B x.st.text)]:Array Value).size=1*1:=rfl
     have hc2 : ∀ u∈(#[Value.string (B x.st.text)]:Array Value).toList,u.oneCell'=true:=by intro u hu;rw [show u = .string (B x.st.text) by simpa using hu];rfl
     clear hx hg hca hat heach hmore hxo
     go_wp2_with (first
      | (at_builtin
         (with_reducible refine lit_append_new (.tmp 22) (.tmp 29) 1 _ Tryz.strTy11 o5 #[.string (B x.st.text)] hc11 hc2 m1 m2 szr ?_ ?_ ?_);rfl;rfl
         intro v2 w2 hv2 hb2 hg2 hn2
         have b2:=b5.trans hb2
         clear hg2 hn2))
     all_goals try (exfalso;omega)
     have o3:OwnTxs w2 W1.heap.size v2 (acc++[x.st.text]):=by
      unfold OwnTxs
      rw [hrow.out,hlen.out]
      exact hv2
     clear hv2
     go_roundg f
     case rel=>exact ⟨k+1,_,by go_num,by omega,o3,hacc2,by rw [hlen.out];omega,b2⟩
     case measure=>omega
    ·have hn0 : ¬ (0:Int) ≤ -1:=by omega
     have hacc2:Hid (acc=(itemsS S (l.take (k+1))).map StL.text):=Lib.hid (by rw [hmore.out,hg,Option.toList,List.append_nil];exact hacc.out)
     clear hg hat heach hmore hacc
     go_wp2_with (fail)
     go_roundg f
     case rel=>exact ⟨k+1,acc,by go_num,by omega,o5,hacc2,by omega,b5⟩
     case measure=>omega
end Go.Proofs.YtfdfoplmijmnaaaGreatDoor
namespace Go.Proofs.YtfdfoplmijmnaaaGreatDoor
open Go.RowKit
attribute [local go_sem ↓] ldvI_eq ldvS_eq ldvH_eq ldvP_eq ldvQ_eq
section
variable {P:Program} {ops:Array Oper} {w0:World} {rows:List (Option Nat)} {pres:Pres} {sps:List Sp} {E:Act→Facts→Prop} {i:Nat} {rest:List Oper} {s:Sp} {ss:List Sp} {a:Act} {D:Facts}
/-- A struct's row is put into a block that was there. -/
def rowPR (g:Nat) (T:TypeId) (ρ:List Value) (_:Value) (F:Foot) (w:World):Prop := ∃ cs,ρ.getD 1 undef = .agg cs∧F g∧Blk w g T cs
theorem rowPR_stab (g:Nat) (T:TypeId) (ρ:List Value) (v:Value):Stab (rowPR g T ρ v):=fun _ _ _ _ hf ha ⟨cs,h0,h1,h2⟩=>⟨cs,h0,hf g h1,(ha.same g h2.lt h1).trans h2⟩
theorem lx_putRow {rt:TypeId} {pos:String} {af:Array Edge} {x y:Operand} (g:Nat) (T:TypeId) (old:Array Value) (hsz:(P.info? T).map (·.size)=some old.size) (hp:(i,some g,fun w=>Blk w g T old)∈pres) (hs:s = .wr (rowPR g T))
 (h : ∃ v1 v2,a.eval x=v1∧a.eval y=v2∧v1 = .pointer (some ⟨g,0,none⟩)∧(∀ w,Far rows w0 w→Have ops pres i D w → ∃ cs:Array Value,v2 = .agg cs∧cs.size=old.size∧cs.all (·.oneCell')=true)∧LxL P ops w0 rows pres sps E (i+1) rest ss a ((i,fun F w => ∃ cs,v2 = .agg cs∧F g∧Blk w g T cs)::D)) :
 LxL P ops w0 rows pres sps E i ({ dst:=none,op := .store T x y,type:=rt,pos:=pos,after:=af,guard:=none }::rest) (s::ss) a D:=by
 obtain ⟨_,_,rfl,rfl,hx,hc,h⟩:=h
 refine lx_wr (some g) _ (rowPR g T) hs hp (by simp [Region.wanted]) (rowPR_stab g T) (fun w hw hh hk=>?_) (fun v=>h)
 obtain ⟨cs,hy,hcs,h1⟩:=hc w hw hh
 unfold doesAt
 exact wp_store_row T x y rfl g cs hx hy T old hk (by rw [hcs];exact hsz) hcs.symm h1 ⟨undef,rfl,⟨rfl,rfl,rfl,by simp,fun k hk2 hn=>setRow_other _ _ _ _ fun e=>hn (by rw [e])⟩,fun F _ h2 _=>⟨cs,hy,h2 g rfl,setRow_heap _ _ _ _ _ _ hk⟩⟩
end
theorem preOk1 {w:World} {T:TypeId} {g i:Nat} {cs:Array Value} (h:Blk w g T cs):PreOk w [(i,some g,fun w=>Blk w g T cs)]:=
 PreOk.cons (PreOk.nil w) (fun q hq=>by simp at hq) (fun k hk=>by injection hk with hk;subst hk;exact h.lt) h fun w' _ hs=>(hs g rfl).trans h
theorem rows1 {i g k:Nat} {p:World→Prop} (h:some k∈rowsOfP [(i,some g,p)]):k=g:=by
 simp [rowsOfP] at h
 exact h
theorem putL11_len : ∀ (l:List Txt) (s:List StL),(putL11 s l).length≤s.length+l.length
 | [],s=>Nat.le_refl _
 | t::l,s=>by
   have h1:=putS_len s t
   have h2:=putL11_len l (putS s t)
   show (putL11 (putS s t) l).length≤_
   rw [List.length_cons]
   omega
/-- What is closed. -/
def ClosP (S:List StL) (cut ini:List Txt):Prop := ∀ x,Rch S cut ini x→rightS S cut x=true
theorem ClosE.yes {S:List StL} {cut ini:List Txt} {f:Bool→Value} {e:Ending} (h:ClosE S cut ini f e) (hc:ClosP S cut ini):e = .returned (f true):=by
 obtain ⟨a,b,ha,hb,rfl⟩:=h
 rw [(clos_iff ha hb).2 hc]
theorem ClosE.no {S:List StL} {cut ini:List Txt} {f:Bool→Value} {e:Ending} (h:ClosE S cut ini f e) (hc : ¬ ClosP S cut ini):e = .returned (f false):=by
 obtain ⟨a,b,ha,hb,rfl⟩:=h
 cases hcl:closB S cut a b with
 | false=>rfl
 | true=>exact absurd ((clos_iff ha hb).1 hcl) hc
theorem ClosP.whole {S:List StL} {sh:List Txt} {refs:List RefL} (h:wholeN S refs sh=0):ClosP S sh (S.map StL.id):=by
 have hr:=(whole_zero h).2
 intro x hx
 have : ∃ y∈S,y.id=x:=hx (fun x => ∃ y∈S,y.id=x) (fun y hy=>by obtain ⟨z,hz,rfl⟩:=List.mem_map.1 hy;exact ⟨z,hz,rfl⟩) fun y z hy hz=>by
  obtain ⟨s,hs,rfl⟩:=hy
  obtain ⟨o,l,ho,hl,rfl⟩:=next_obj hz
  obtain ⟨o',ho',hl'⟩:=right_obj (hr s hs)
  rw [ho] at ho'
  cases ho'
  obtain ⟨h1,h2⟩:=hl' l hl
  obtain ⟨u,_,hu,_⟩:=kind_there (S:=S) (n:=l.id) (by rw [h1];exact h2)
  exact ⟨u,(getS_id hu).1,(getS_id hu).2⟩
 obtain ⟨y,hy,rfl⟩:=this
 exact hr y hy
theorem ClosP.more {S:List StL} {cut p ini:List Txt} (h:ClosP S cut ini):ClosP S (cut++p) ini:=fun x hx=>right_more (fun y hy=>List.mem_append_left _ hy) (h x (hx.less fun y hy=>List.mem_append_left _ hy))
theorem built_q2 (Am As:Option Addr) (nm ns cm cs:Nat):Tryz.prog.built 41 [(0, .agg #[.slice Am nm cm]),(2, .slice As ns cs)]=some #[.slice Am nm cm, .slice none 0 0, .slice As ns cs]:=by kernel_rfl
theorem zeroS14 (w:World):(zeroValue 30).run Tryz.prog w = .ok (.agg #[.slice none 0 0]) w:=by
 have h:(Tryz.prog.info? 30).map (·.zero)=some (some (.agg #[.slice none 0 0])):=by kernel_rfl
 obtain ⟨i,h1,h2⟩:=Option.map_eq_some_iff.1 h
 simp [zeroValue,typeInfo,h1,h2]
theorem rch_few {S:List StL} {cut ini a:List Txt} (h:RchIs S cut ini true a):a.length≤S.length:=by
 have:=nodup_len (rise_nodup h.rise) (m:=S.map StL.id) fun x hx=>isS_mem ((h.mem x).1 hx).2
 rwa [List.length_map] at this
theorem items_ok {S:List StL} (hS:StoOk S) (l:List Txt) : ∀ t∈(itemsS S l).map StL.text,t.length≤5000:=by
 intro t ht
 obtain ⟨y,hy,rfl⟩:=List.mem_map.1 ht
 obtain ⟨n,_,hn⟩:=List.mem_filterMap.1 hy
 obtain ⟨o,ho⟩:=(hS.each y (getS_id hn).1).2
 have:=(decO_len ho).2
 omega
theorem txC_one (l:List Txt) : ∀ x∈l,(txC x).length=1:=fun _ _=>rfl
/-- A slice of ids, some of them; a tuple of two. -/
def idsV (n B:Nat) (v:Value) (F:Foot) (w:World):Prop := ∃ l,OwnIds w B v l∧(∀ x∈l,x.length=32)∧l.length≤n ∧ ∀ k,v.ownBlock=some k→F k
theorem idsV_stab (n B:Nat) (v:Value):Stab (idsV n B v):=fun _ _ _ _ hf ha ⟨l,h1,h2,h3,h4⟩=>⟨l,own_same h1 fun k hk=>ha.same k (World.ownsRow.lt h1 k hk).2 (h4 k hk),h2,h3,fun k hk=>hf k (h4 k hk)⟩
theorem idsV_new {n B:Nat} {w w' w0:World} {rows:List (Option Nat)} {v:Value} {l:List Txt} (h:OwnIds w' w.heap.size v l) (hB:B≤w.heap.size) (hok : ∀ x∈l,x.length=32) (hn:l.length≤n):NewR w0 rows (idsV n B) none w v w':=fun F _ _ h3=>
 ⟨l,own_down h hB,hok,hn,fun k hk=>h3 k (World.ownsRow.lt h k hk).1 (World.ownsRow.lt h k hk).2⟩
def tupV (n B:Nat) (v:Value) (F:Foot) (w:World):Prop := ∃ va vb,v = .tuple #[va,vb]∧idsV n B va F w
theorem tupV_stab (n B:Nat) (v:Value):Stab (tupV n B v):=fun F F' w w' hf ha ⟨va,vb,h1,h2⟩=>⟨va,vb,h1,idsV_stab n B va F F' w w' hf ha h2⟩
theorem tupV_new {n B:Nat} {w w' w0:World} {rows:List (Option Nat)} {va vb:Value} {l:List Txt} (h:OwnIds w' w.heap.size va l) (hB:B≤w.heap.size) (hok : ∀ x∈l,x.length=32) (hn:l.length≤n):NewR w0 rows (tupV n B) none w (.tuple #[va,vb]) w':=fun F h1 h2 h3=>
 ⟨va,vb,rfl,idsV_new (rows:=rows) (w0:=w0) h hB hok hn F h1 h2 h3⟩
set_option maxRecDepth 100000 in
set_option maxHeartbeats 16000000 in
theorem checkMore_calls (h:HisL) (vs vo vf vc:Value) (part:Txt) (vp:Value) (w:World) (hK:TabK w) (hh:HisOk w vs vo vf vc h) (hvp:SliceAt w 1 byC vp part) :
 Calls Tryz.prog 4 #[.agg #[vs,vo,vf,vc],vp] w fun e w'=>e = .returned (.bool true)∧Below w.heap.size w w':=by
 obtain ⟨W1,hW1⟩ : ∃ W1,w.alloc (.cells #[vs,vo,vf,vc] 25)=W1:=⟨_,rfl⟩
 have s1:Blk W1 w.heap.size 25 #[vs,vo,vf,vc]:=by rw [←hW1];exact Blk.new _ _ _
 have b1:Below w.heap.size w W1:=by rw [←hW1];exact (Below.refl _ _).alloc (Nat.le_refl _) _
 have hld:=fun W (hW:Below W1.heap.size W1 W)=>run_ldvH (s1.below hW s1.lt)
 have hld1:=hld W1 (Below.refl _ _)
 have c2 : ∀ W,Below W1.heap.size W1 W→W.cell? ⟨w.heap.size,2,none⟩=some vf:=fun W hW=>(s1.below hW s1.lt).cell 2
 have c3 : ∀ W,Below W1.heap.size W1 W→W.cell? ⟨w.heap.size,3,none⟩=some vc:=fun W hW=>(s1.below hW s1.lt).cell 3
 have hfew:=Lib.hid ((few12_calls h vs vo vf vc W1 (hh.below b1)).mono fun e w' (q:Few12R h W1 e w'∧Below W1.heap.size W1 w')=>(⟨q.1.b,q.2⟩:Few12B h e w'∧Below W1.heap.size W1 w'))
 have hkn:=fun W (hW:Below w.heap.size w W)=>Lib.hid (knows_calls14 W (hK.below hW))
 have hnm:=fun (hf:FewH h) W (hW:Below w.heap.size w W)=>Lib.hid (named_calls h hf vs vo vf vc W (hh.below hW))
 have hid:=fun (ids:List Txt) (hok : ∀ x∈ids,x.length=32) (hil:ids.length≤24) (v:Value) W (hW:Below w.heap.size w W) (hv:Ids W v ids) (l:Txt) (hl10:l.length≤10) (vl:Value) (hvl:SliceAt w 1 byC vl l)=>Lib.hid (ids12_calls ids hok (Nat.le_trans hil (by omega)) v W hv l (Nat.le_trans hl10 (by omega)) vl (hvl.below hW))
 have hcut:=hh.cut
 have hfrm:=hh.frm
 have hS1:(#[Value.slice none 0 0]:Array Value).all (·.oneCell')=true:=by kernel_rfl
 have hS0:(#[Value.slice none 0 0]:Array Value).size=1:=rfl
 have hvp0:=hvp
 obtain ⟨Ap,cp,rfl,hcp1,hcp2,_⟩:=hvp
 clear hh s1
 go_enter Tryz.func4,Tryz.ntmps4
 go_upto_region 2 with (first
  | ((with_reducible refine hfew.out.mono ?_);rintro e w2 ⟨⟨Am,nm,cm,b,rfl,hb⟩,hb2⟩
     have hm2:(#[Value.slice Am nm cm]:Array Value).all (·.oneCell')=true:=by simp [Value.oneCell']
     have hm1:(#[Value.slice Am nm cm]:Array Value).size=1:=rfl)
  | ((with_reducible refine lit_new 30 (.tmp 5) (.tmp 31) #[.slice Am nm cm] 1 szDSt hm1 hm2 _ ?_ ?_ ?_ ?_)
     ·first | exact hm1 | rfl
     ·rfl
     ·rfl
     intro W3 hb3 hbl3))
 have b13:=bthen hb2 hb2.size hbl3
 have b3:=bthen b1 b1.size b13
 have hkn3:=hkn W3 b3
 clear hfew hld1 hW1
 cases b with
 | false=>
   clear hb hkn hnm hid hld c2 c3 hvp0
   go_wp2_with (first
    | ((with_reducible refine hkn3.out.mono ?_);rintro e w5 ⟨rfl,hb5⟩))
   go_ret
   exact ⟨rfl,bthen b3 b3.size hb5⟩
 | true=>
   obtain ⟨es,hFH,hD2,hel⟩:=hb rfl
   clear hb
   by_cases hp10:10<part.length
   ·have hpi:(10:Int)<(part.length:Int):=by omega
    clear hkn hnm hid hld c2 c3 hvp0
    go_wp2_with (first
     | ((with_reducible refine hkn3.out.mono ?_);rintro e w5 ⟨rfl,hb5⟩))
    go_ret
    exact ⟨rfl,bthen b3 b3.size hb5⟩
   ·have hpi : ¬ (10:Int)<(part.length:Int):=by omega
    have hpl10:part.length≤10:=by omega
    have hD3:=hD2.below hbl3
    have hldr:=hld W3 b13
    have hnmr:=hnm hFH W3 b3
    have hs3:=fun W (hW:Below W3.heap.size W3 W)=>run_ldvS (hb3.below hW hb3.lt)
    have h10f:=hFH.2.2.1
    have h10c:=hFH.2.2.2
    obtain ⟨Af,cf,rfl,_⟩:=id hfrm
    obtain ⟨Ac,cc,rfl,_⟩:=id hcut
    clear hnm hld hp10 hkn3
    go_wp2_with (first
     | ((with_reducible refine hnmr.out.mono ?_);rintro e w5 ⟨⟨vi,ids,rfl,hoi,hiok,hil⟩,hb5⟩
        have b5:=bthen b3 b3.size hb5
        have d2:=c2 w5 (bthen b13 b13.size hb5)
        have hi5:=fun W (hW:Below w5.heap.size w5 W)=>(SliceAt.of_own (fun e h=>idC_len (hiok e h)) hoi).below hW
        have hid5:=hid ids hiok hil _ w5 b5 (hi5 w5 (Below.refl _ _)) h.frm h10f _ hfrm
        obtain ⟨Ai,ci,rfl⟩:=own_form' hoi)
     | ((with_reducible refine hid5.out.mono ?_);rintro e w6 ⟨⟨vfr,from_,rfl,hofr,hfok,hfl0⟩,hb6⟩
        have hfl10:from_.length≤10:=by omega
        clear hfl0
        have b6:=bthen b5 b5.size hb6
        have d3:=c3 w6 (bthen (bthen b13 b13.size hb5) (bthen b13 b13.size hb5).size hb6)
        have hid6:=hid ids hiok hil _ w6 b6 (hi5 w6 hb6) h.cut h10c _ hcut
        obtain ⟨Afr,cfr,rfl⟩:=own_form' hofr)
     | ((with_reducible refine hid6.out.mono ?_);rintro e w7 ⟨⟨vcu,cut,rfl,hocu,hcok,hcl0⟩,hb7⟩
        have hcl10:cut.length≤10:=by omega
        clear hcl0
        have hcuI:=SliceAt.of_own (fun e h=>idC_len (hcok e h)) hocu
        obtain ⟨Acu,ccu,rfl,_,_,hatc⟩:=id hcuI))
    have b7:=bthen b6 b6.size hb7
    have bw7:=bthen (bthen hb5 hb5.size hb6) (bthen hb5 hb5.size hb6).size hb7
    have lS:=fun W (hW:Below w7.heap.size w7 W)=>hs3 W (bthen bw7 bw7.size hW)
    have hD7:=hD3.below bw7
    have hfrI:=SliceAt.of_own (fun e h=>idC_len (hfok e h)) (own_below hofr hb7)
    have hK7:=hK.below b7
    have hI7:=hi5 w7 (bthen hb6 hb6.size hb7)
    have hidp:=fun W (hW:Below w7.heap.size w7 W)=>hid ids hiok hil _ W (bthen b7 b7.size hW) (hI7.below hW) part hpl10 _ hvp0
    have hkn7:=fun W (hW:Below w7.heap.size w7 W)=>hkn W (bthen b7 b7.size hW)
    clear hs3 hD3 hD2 hid hid5 hid6 hnmr hldr hi5 hoi hofr hocu hb5 hb6 hb7 b3 b13 hbl3 hb2 c2 c3 d2 d3 hkn hcut hfrm hFH hK hiok hb3 hvp0 b1 b5 b6 bw7
    go_loopg [10,11] cut.length (fun f vo vi wr => ∃ (k:Nat) (acc:List Txt),vi = .int .i64 k∧k+f=cut.length∧OwnIds wr w7.heap.size vo acc∧Hid (acc=(cut.take k).filter (k3 (es.map (·.st))))∧acc.length≤k∧Below w7.heap.size w7 wr)
    case atStart=>exact ⟨0,[],rfl,by omega,World.ownsRow_nil _ _ _ _,Lib.hid rfl,by simp,Below.refl _ _⟩
    case round=>
     obtain ⟨k,acc,rfl,hkf,hown,hacc,hal,hbel⟩:=hrel
     have hbs:=hbel.size
     cases gk with
     | succ f=>
       have hki:(k:Int)<(cut.length:Int):=by omega
       have hkl:k<cut.length:=by omega
       obtain ⟨gc,oc,rfl,hgc,hcc⟩:=hatc (by omega)
       obtain ⟨x,hx⟩ : ∃ x,cut[k]?=some x:=⟨_,List.getElem?_eq_getElem hkl⟩
       have hxi:=hcok x (List.mem_of_getElem? hx)
       have hlx:=fun W (hW:Below wr.heap.size wr W)=>run_ldvI_at (show World.rangeAt W gc (oc+k*32) (u8s x).toList from rangeAt_below (hcc k x hx) hgc (bthen hbel hbs hW)) hxi
       have lSr:=fun W (hW:Below wr.heap.size wr W)=>lS W (bthen hbel hbs hW)
       have hkd:=fun W (hW:Below wr.heap.size wr W)=>docKind_calls (hD7.below (bthen hbel hbs hW)) x hxi
       have htk:Hid ((cut.take (k+1)).filter (k3 (es.map (·.st)))=acc++if (kindS (es.map (·.st)) x==3)=true then [x] else []):=Lib.hid (by
        rw [List.take_add_one,hx,List.filter_append,←hacc.out]
        show acc++List.filter (k3 (es.map (·.st))) [x]=_
        rw [List.filter_cons]
        rfl)
       obtain ⟨Ao,co,rfl⟩:=own_form' hown
       clear hx hcc hatc hidp hkn7 hfrI hcuI lS hI7
       generalize kindS (es.map (·.st)) x=K at *
       go_upto_region 11 with (fail)
       refine wp_region_class (C:=fun W=>Below wr.heap.size wr W) (by kernel_rfl) (by kernel_rfl) (Below.refl _ _).drew ?_
       repeat
        first
         | ((with_reducible refine wpQuiet_ex ?_ ?_)
            ·(go_simp;done)
            apply Exists.intro
            refine ⟨fun W hW=>?_,?_⟩
            ·first
              | (have q0:=lSr W hW
                 have q1:=hlx W hW
                 have p1:=bel_keepG hW (hkd W hW)
                 go_simp
                 first
                  | rfl
                  | (with_reducible exact p1))
            simp only [Act.put,List.setIfInBounds_toArray,List.set_cons_zero,List.set_cons_succ])
         | ((with_reducible refine wpQuiet_pass ?_ ?_)
            ·(first | rfl | (go_simp;done))
            simp only [Act.put,List.setIfInBounds_toArray,List.set_cons_zero,List.set_cons_succ])
       with_reducible refine wpQuiet_nil ?_
       intro w8 hW8
       have b8:=hbel.trans (hW8.mono hbs)
       obtain ⟨ob,hob⟩ : ∃ ob,(K==3)=ob:=⟨_,rfl⟩
       rw [hob] at htk ⊢
       clear hob hkd lSr
       have hl8:=hlx w8 hW8
       clear hlx
       cases ob with
       | true=>
         have hx32:(u8s x).size=32:=by rw [u8s_size,hxi]
         have hx132:(u8s x).size=1*32:=hx32
         have hx1 : ∀ u∈(u8s x).toList,u.oneCell'=true:=idC_one x
         have hAk:acc.length+1≤9223372036854775807:=by omega
         have hAb:(acc.length+1)*32≤140737488355328:=by omega
         have hlen2:Hid ((acc++[x]).length=acc.length+1):=Lib.hid (by rw [List.length_append];rfl)
         have hrow2:Hid (rowsOf idC (acc++[x])=rowsOf idC acc++(u8s x).toList):=Lib.hid (by rw [rowsOf_append,rowsOf_one];rfl)
         have hacc2:Hid (acc++[x]=(cut.take (k+1)).filter (k3 (es.map (·.st)))):=Lib.hid (by rw [htk.out,if_pos rfl])
         have hown8:=own_below hown hW8
         have hsz8:=Nat.le_trans hbs hW8.size
         clear htk hacc hown
         go_wp2_with (first
          | ((with_reducible refine lit_slice1 (.tmp 68) Tryz.idsTy (u8s x) hx32 (by omega) ?_ ?_);rfl)
          | ((with_reducible refine lit_append_new (.tmp 64) (.tmp 69) 1 _ Tryz.idsTy hown8 (u8s x) hx132 hx1 hAk hAb hsz8 ?_ ?_ ?_);rfl;rfl
             intro v3 w3 ho3 hb3 _ _))
         have ho4:OwnIds w3 w7.heap.size v3 (acc++[x]):=by unfold OwnIds;rw [hlen2.out,hrow2.out];exact ho3
         have hb4:=b8.trans hb3
         clear hown8 ho3
         go_roundg f
         case rel=>exact ⟨k+1,acc++[x],by go_num,by omega,ho4,hacc2,by rw [hlen2.out];omega,hb4⟩
         case measure=>omega
       | false=>
         have hacc2:Hid (acc=(cut.take (k+1)).filter (k3 (es.map (·.st)))):=Lib.hid (by rw [htk.out,if_neg (by decide),List.append_nil])
         have hown8:=own_below hown hW8
         clear htk hacc hown
         go_wp2_with (fail)
         go_roundg f
         case rel=>exact ⟨k+1,acc,by go_num,by omega,hown8,hacc2,by omega,b8⟩
         case measure=>omega
     | zero=>
       have hki : ¬ (k:Int)<(cut.length:Int):=by omega
       have hke:cut.take k=cut:=List.take_of_length_le (by omega)
       rw [hke] at hacc
       have haok : ∀ x∈acc,x.length=32:=fun x hx=>by rw [hacc.out] at hx;exact hcok x (List.mem_filter.1 hx).1
       have hal10:acc.length≤10:=by omega
       have haI:=SliceAt.of_own (fun e h=>idC_len (haok e h)) hown
       have hsr:=Lib.hid (sorted02_calls acc haok (by omega) _ wr haI)
       obtain ⟨SC,hSC⟩ : ∃ SC,sortU acc=SC:=⟨_,rfl⟩
       have hscok : ∀ x∈SC,x.length=32:=fun x hx=>haok x (((sortU_law acc).2 x).1 (by rw [hSC];exact hx))
       have hscl:SC.length≤10:=by have:=sortU_len acc;rw [hSC] at this;omega
       rw [hSC] at hsr
       obtain ⟨Ao,co,rfl⟩:=own_form' hown
       have hD:=hD7.below hbel
       have hKr:=hK7.below hbel
       clear hSC hatc hacc hke haI hown hal
       have hll:(es.map (·.st)).length=es.length:=List.length_map _
       go_upto_region 17 with (first
        | ((with_reducible refine hsr.out.mono ?_);rintro e w8 ⟨vsc,rfl,hosc,hb8⟩
           have hscI:=SliceAt.of_own (fun e h=>idC_len (hscok e h)) hosc
           obtain ⟨Asc,csc,rfl⟩:=own_form' hosc
           have lS8:=lS w8 (bthen hbel hbs hb8)
           have hbq:=built_q2 Am Asc nm SC.length cm csc
           have hof8:=Lib.hid (of14_calls (hD.below hb8) (by omega) (hKr.below hb8) none Asc 0 SC.length 0 csc))
        | ((with_reducible refine lit_build2 hbq ?_ ?_ ?_);rfl;rfl)
        | ((with_reducible refine hof8.out.mono ?_);rintro e w9 ⟨⟨base,p,vl,rfl,hS9⟩,hb9⟩
           have hp1:(#[Value.pointer (some ⟨p,0,none⟩), .slice none 0 0, .slice Asc SC.length csc]:Array Value).size=3:=rfl
           have hp2:(#[Value.pointer (some ⟨p,0,none⟩), .slice none 0 0, .slice Asc SC.length csc]:Array Value).all (·.oneCell')=true:=by simp [Value.oneCell'])
        | ((with_reducible refine lit_new 44 (.tmp 12) (.tmp 78) #[Value.pointer (some ⟨p,0,none⟩), .slice none 0 0, .slice Asc SC.length csc] 3 szP14 hp1 hp2 _ ?_ ?_ ?_ ?_)
           ·first | exact hp1 | rfl
           ·rfl
           ·rfl
           intro W10 hb10 hbl10))
       have b810:=bthen hb9 hb9.size hbl10
       have br10:=bthen hb8 hb8.size b810
       have b10:=bthen hbel hbs br10
       have hS10:=hS9.below hbl10
       have hsc10:=hscI.below b810
       have hD10:=hD7.below b10
       have lS10:=fun W (hW:Below W10.heap.size W10 W)=>lS W (bthen b10 b10.size hW)
       have hP10:=fun W (hW:Below W10.heap.size W10 W)=>run_ldvP (hb10.below hW hb10.lt)
       have hc10 : ∀ W,Below W10.heap.size W10 W→W.cell? ⟨w9.heap.size,0,none⟩=some (.pointer (some ⟨p,0,none⟩)):=fun W hW=>(hb10.below hW hb10.lt).cell 0
       have b010:=bthen b7 b7.size b10
       clear hsr hof8 hS9 hscI hb8 hb9 hbl10 lS8 lS hbq hp1 hp2 hb10 hD b810 br10
       clear hKr hD7
       go_cut [93] from 82 (fun s93 wx=>s93 = .bool false∧Below W10.heap.size W10 wx)
       case first=>
        have hwh:=fun W (hW:Below W10.heap.size W10 W)=>chkWhole_calls (hS10.below hW) [] (fun r h=>by simp at h) SC hscok (.slice none 0 0) _ SliceAt.nil (hsc10.below hW)
        have hdi:=fun W (hW:Below W10.heap.size W10 W)=>docIds_calls (hD10.below hW)
        have hIok : ∀ x∈(es.map (·.st)).map StL.id,x.length=32:=fun x hx=>by obtain ⟨y,hy,rfl⟩:=List.mem_map.1 hx;exact (hD10.ok.ok y hy).1
        obtain ⟨IL,hIL⟩ : ∃ IL,(es.map (·.st)).map StL.id=IL:=⟨_,rfl⟩
        have hILl:IL.length≤24:=by rw [←hIL,List.length_map,hll];omega
        rw [hIL] at hIok hdi
        obtain ⟨N,hN⟩ : ∃ N,wholeN (es.map (·.st)) [] SC=N:=⟨_,rfl⟩
        rw [hN] at hwh
        by_cases hN0:N=0
        ·subst hN0
         have hcl:=fun W (hW:Below W10.heap.size W10 W) (v:Value) (hv:Ids W v IL)=>(chkClosed_calls (hS10.below hW) IL SC hIok hscok (by rw [hll];omega) (by omega) v _ hv (hsc10.below hW)).mono fun e w' (q:ClosE (es.map (·.st)) SC IL closN e∧Below W.heap.size W w')=>(⟨q.1.yes (hIL▸ClosP.whole hN),q.2⟩:e = .returned (.int .i64 0)∧Below W.heap.size W w')
         clear hN hIL
         refine wp_region_go0 12 (by kernel_rfl) (by kernel_rfl) (by kernel_rfl) (by kernel_rfl) ?_
         simp only [exSp]
         iterate 12 apply Exists.intro
         repeat
          first
           | ((with_reducible apply lx0_ex)
              ·(go_simp;done)
              apply Exists.intro
              apply And.intro
              ·apply Eq.refl
              apply And.intro
              ·intro W hW hD
               first
                | (have q1:=hP10 W hW
                   have q2:=hc10 W hW
                   have q3:=lS10 W hW
                   have p1:=hwh W hW
                   go_simp
                   first
                    | rfl
                    | (with_reducible exact p1))
                | (obtain ⟨F1,o1,_⟩:=hD.at 0 rfl (by kernel_rfl)
                   have p2:=hcl W hW _ (SliceAt.of_own (fun e h=>idC_len (hIok e h)) o1)
                   go_simp
                   with_reducible exact p2)
              simp only [Act.put,List.setIfInBounds_toArray,List.set_cons_zero,List.set_cons_succ])
           | ((with_reducible apply lx0_pass)
              ·(first | rfl | (go_simp;done))
              ·apply Eq.refl
              simp only [Act.put,List.setIfInBounds_toArray,List.set_cons_zero,List.set_cons_succ])
           | ((with_reducible refine lx0_new (ownR W10.heap.size 35 32 IL.length (rowsOf idC IL)) rfl ?_ (ownR_stab _ _ _ _ _) ?_ ?_)
              ·(go_simp;done)
              ·intro W hW hD
               unfold doesAt Oper.wp execOp
               go_simp
               (with_reducible refine (hdi W hW).mono ?_)
               rintro e w' ⟨v,rfl,ho,hb⟩
               exact ⟨hb,ownR_new hW.size ho⟩
              intro v
              simp only [Act.put,List.setIfInBounds_toArray,List.set_cons_zero,List.set_cons_succ])
           | (first | (with_reducible apply lx_move') | (with_reducible apply lx_assign')
              ·apply Eq.refl
              apply Exists.intro
              apply And.intro
              ·(go_simp;rfl)
              simp only [Act.put,List.setIfInBounds_toArray,List.set_cons_zero,List.set_cons_succ])
         refine lx0_nil ?_ fun w11 hW11 hD11=>?_
         ·exact List.nodup_nil
         go_wp2_with (fail)
         go_meet
         case rel=>exact ⟨rfl,hW11⟩
        ·have hNb:(N==0)=false:=by simp [hN0]
         clear hN hN0 hIL
         refine wp_region_class (C:=fun W=>Below W10.heap.size W10 W) (by kernel_rfl) (by kernel_rfl) (Below.refl _ _).drew ?_
         repeat
          first
           | ((with_reducible refine wpQuiet_ex ?_ ?_)
              ·(go_simp;done)
              apply Exists.intro
              refine ⟨fun W hW=>?_,?_⟩
              ·first
                | (have q1:=hP10 W hW
                   have q2:=hc10 W hW
                   have q3:=lS10 W hW
                   have p1:=bel_keepG hW (hwh W hW)
                   go_simp
                   first
                    | rfl
                    | (with_reducible exact p1))
              simp only [Act.put,List.setIfInBounds_toArray,List.set_cons_zero,List.set_cons_succ])
           | ((with_reducible refine wpQuiet_pass ?_ ?_)
              ·(first | rfl | (go_simp;done))
              simp only [Act.put,List.setIfInBounds_toArray,List.set_cons_zero,List.set_cons_succ])
         with_reducible refine wpQuiet_nil ?_
         intro w11 hW11
         go_wp2_with (fail)
         go_meet
         case rel=>exact ⟨rfl,hW11⟩
       case rest=>
        rename World=>w11
        obtain ⟨rfl,b11⟩:=hcut
        have lS11:=fun W (hW:Below w11.heap.size w11 W)=>lS10 W (bthen b11 b11.size hW)
        have hP11:=fun W (hW:Below w11.heap.size w11 W)=>hP10 W (bthen b11 b11.size hW)
        have hc11:=fun W (hW:Below w11.heap.size w11 W)=>hc10 W (bthen b11 b11.size hW)
        have hS11:=hS10.below b11
        have hsc11:=hsc10.below b11
        have hD11:=hD10.below b11
        have b711:=bthen b10 b10.size b11
        have b011:=bthen b7 b7.size b711
        have hfr11:=hfrI.below b711
        have hcu11:=hcuI.below b711
        have hK11:=hK7.below b711
        have hidp11:=fun W (hW:Below w11.heap.size w11 W)=>hidp W (bthen b711 b711.size hW)
        have hkn11:=fun W (hW:Below w11.heap.size w11 W)=>hkn7 W (bthen b711 b711.size hW)
        have hsrc:=fun W (hW:Below w11.heap.size w11 W)=>SrcAt.of (idsK hcok) (hcu11.below hW)
        have hone : ∀ u∈rowsOf idC cut,u.oneCell'=true:=rowsOf_one' fun x _=>idC_one x
        have k63:0+cut.length≤9223372036854775807:=by omega
        have kby:(0+cut.length)*32≤140737488355328:=by omega
        clear hP10 hc10 lS10 hS10 hsc10 hD10 hfrI hcuI hK7 hidp hkn7 b7 b10 b11 b711 hbel hI7 b010
        go_upto_region 20 with (first
         | ((with_reducible refine lit_slice0 Tryz.idsTy ?_)
            intro v12 w12 ho12 hb12
            have hs12:=hsrc w12 hb12
            have hz12:=hb12.size)
         | ((with_reducible refine lit_append_src (.tmp 94) (.tmp 95) 27 Tryz.idsTy ho12 hs12 hone k63 kby hz12 ?_ ?_ ?_);rfl;rfl
            intro v13 w13 ho13 hb13
            have b1113:=hb12.trans hb13
            have ho13':OwnIds w13 w11.heap.size v13 cut:=by
             unfold OwnIds
             rwa [Nat.zero_add,List.nil_append] at ho13
            have hidp13:=hidp11 w13 b1113)
         | ((with_reducible refine hidp13.out.mono ?_);rintro e w14 ⟨⟨vpl,pl,rfl,hopl,hplok,hpll0⟩,hb14⟩
            have hpll:pl.length≤10:=by omega
            clear hpll0
            have ho14:=own_below ho13' hb14
            have hs14:=SrcAt.of (idsK hplok) (SliceAt.of_own (idsK hplok) hopl)
            have hone14 : ∀ u∈rowsOf idC pl,u.oneCell'=true:=rowsOf_one' fun x _=>idC_one x
            have k63b:cut.length+pl.length≤9223372036854775807:=by omega
            have kbyb:(cut.length+pl.length)*32≤140737488355328:=by omega
            have b1114:=b1113.trans (hb14.mono b1113.size)
            have hz14:=b1114.size)
         | ((with_reducible refine lit_append_src (.tmp 96) (.tmp 99) 27 Tryz.idsTy ho14 hs14 hone14 k63b kbyb hz14 ?_ ?_ ?_);rfl;rfl
            intro v15 w15 ho15 hb15))
        have b1115:=b1114.trans hb15
        obtain ⟨SM,hSM⟩ : ∃ SM,cut++pl=SM:=⟨_,rfl⟩
        have hosm:OwnIds w15 w11.heap.size v15 SM:=by
         unfold OwnIds
         rw [←hSM,rowsOf_append,List.length_append]
         exact ho15
        have hsmok : ∀ x∈SM,x.length=32:=fun x hx=>by
         rw [←hSM] at hx
         exact (List.mem_append.1 hx).elim (hcok x) (hplok x)
        have hsml:SM.length≤20:=by rw [←hSM,List.length_append];omega
        have hsmI:=SliceAt.of_own (idsK hsmok) hosm
        obtain ⟨Asm,csm,rfl⟩:=own_form' hosm
        clear ho12 hs12 hz12 ho13 ho13' ho14 hs14 hone14 k63b kbyb hz14 ho15 hone k63 kby hsrc hosm hb12 hb13 hb14 hb15 b1113 b1114 hidp13 hopl
        have hc15:=hc11 w15 b1115
        go_cut [114] from 101 (fun s114 wx=>s114 = .bool false∧Below w15.heap.size w15 wx)
        case first=>
         have hcl:=fun (l:List Txt) (hok : ∀ x∈l,x.length=32) (hll2:l.length≤20) (v:Value) W (hW:Below w15.heap.size w15 W) (hv:Ids w15 v l)=>(chkClosed_calls (hS11.below (bthen b1115 b1115.size hW)) from_ l hfok hok (by rw [hll];omega) (by omega) _ _ (hfr11.below (bthen b1115 b1115.size hW)) (hv.below hW))
         by_cases hC:ClosP (es.map (·.st)) cut from_
         ·have hC2:ClosP (es.map (·.st)) SM from_:=by rw [←hSM];exact hC.more
          have hcl1:=Lib.hid (hcl cut hcok (by omega) _ w15 (Below.refl _ _) (hcu11.below b1115))
          have hcl2:=fun W (hW:Below w15.heap.size w15 W)=>Lib.hid (hcl SM hsmok hsml _ W hW hsmI)
          have hcc:=fun W (hW:Below w15.heap.size w15 W)=>hc11 W (bthen b1115 b1115.size hW)
          clear hcl
          go_wp2_with (first
           | ((with_reducible refine hcl1.out.mono ?_);rintro e w16 ⟨hce,hb16⟩
              obtain rfl:e = .returned (.int .i64 0):=hce.yes hC
              have hc16:=hcc w16 hb16
              have hcl3:=hcl2 w16 hb16)
           | ((with_reducible refine hcl3.out.mono ?_);rintro e w17 ⟨hce,hb17⟩
              obtain rfl:e = .returned (.int .i64 0):=hce.yes hC2
              have hb1617:=bthen hb16 hb16.size hb17))
          go_meet
          case rel=>exact ⟨rfl,hb1617⟩
         ·have hcl1:=Lib.hid (hcl cut hcok (by omega) _ w15 (Below.refl _ _) (hcu11.below b1115))
          clear hcl
          go_wp2_with (first
           | ((with_reducible refine hcl1.out.mono ?_);rintro e w16 ⟨hce,hb16⟩
              obtain rfl:e = .returned (.int .i64 7):=hce.no hC))
          go_meet
          case rel=>exact ⟨rfl,hb16⟩
        case rest=>
         rename World=>w16
         obtain ⟨rfl,b16⟩:=hcut
         have b1116:=bthen b1115 b1115.size b16
         have b016:=bthen b011 b011.size b1116
         have lS16:=fun W (hW:Below w16.heap.size w16 W)=>lS11 W (bthen b1116 b1116.size hW)
         have hD16:=hD11.below b1116
         have hfr16:=hfr11.below b1116
         have hsc16:=hsc11.below b1116
         have hK16:=hK11.below b1116
         have hidp16:=fun W (hW:Below w16.heap.size w16 W)=>hidp11 W (bthen b1116 b1116.size hW)
         have hkn16:=fun W (hW:Below w16.heap.size w16 W)=>hkn11 W (bthen b1116 b1116.size hW)
         have hbS:Tryz.prog.built 30 []=some #[.slice none 0 0]:=by kernel_rfl
         have hrb:=fun W=>run_build (P:=Tryz.prog) W _ _ _ hbS
         clear lS11 hP11 hc11 hS11 hsc11 hD11 hfr11 hcu11 hK11 hidp11 hkn11 b1116 b011 b1115 b16 hSM hsmok hsml hsmI hc15 hplok hpll hcok hcl10
         go_upto_region 23 with (first
          | ((with_reducible refine lit_new 30 (.tmp 15) (.tmp 115) #[.slice none 0 0] 1 szDSt hS0 hS1 _ ?_ ?_ ?_ ?_)
             ·first | exact hS0 | rfl
             ·rfl
             ·rfl
             intro W17 hb17 hbl17))
         have lS17:=fun W (hW:Below W17.heap.size W17 W)=>lS16 W (bthen hbl17 hbl17.size hW)
         have hD17:=hD16.below hbl17
         have hsc17:=hsc16.below hbl17
         have hid17:=fun W (hW:Below W17.heap.size W17 W)=>(hidp16 W (bthen hbl17 hbl17.size hW)).out
         clear hrb
         refine wp_region_go0 11 (by kernel_rfl) (by kernel_rfl) (by kernel_rfl) (by kernel_rfl) ?_
         simp only [exSp]
         iterate 11 apply Exists.intro
         repeat
          first
           | ((with_reducible apply lx0_ex)
              ·(go_simp;done)
              apply Exists.intro
              apply And.intro
              ·apply Eq.refl
              apply And.intro
              ·intro W hW hD
               have q0:=lS17 W hW
               go_simp
               rfl
              simp only [Act.put,List.setIfInBounds_toArray,List.set_cons_zero,List.set_cons_succ])
           | ((with_reducible apply lx0_pass)
              ·(first | rfl | (go_simp;done))
              ·apply Eq.refl
              simp only [Act.put,List.setIfInBounds_toArray,List.set_cons_zero,List.set_cons_succ])
           | ((with_reducible refine lx0_new (idsV 10 W17.heap.size) rfl ?_ (idsV_stab _ _) ?_ ?_)
              ·(go_simp;done)
              ·intro W hW hD
               unfold doesAt Oper.wp execOp
               go_simp
               (with_reducible refine (hid17 W hW).mono ?_)
               rintro e w' ⟨⟨v,r,rfl,ho,hrok,hrl⟩,hb⟩
               exact ⟨hb,idsV_new ho hW.size hrok (by omega)⟩
              intro v
              simp only [Act.put,List.setIfInBounds_toArray,List.set_cons_zero,List.set_cons_succ])
           | ((with_reducible refine lx0_new (tupV 24 W17.heap.size) rfl ?_ (tupV_stab _ _) ?_ ?_)
              ·(go_simp;done)
              ·intro W hW hD
               obtain ⟨F1,l1,o1,k1,n1,_⟩:=hD.at 0 rfl (by kernel_rfl)
               have hc:=docReach_calls (hD17.below hW) l1 SC k1 hscok (by omega) _ _ (SliceAt.of_own (idsK k1) o1) (hsc17.below hW)
               unfold doesAt Oper.wp execOp
               go_simp
               refine hc.mono ?_
               rintro e w' ⟨va,vb,a,b,rfl,ha,hb,hoa,hob,hbl⟩
               exact ⟨hbl,tupV_new hoa hW.size (fun x hx=>Rch.ok k1 ((ha.mem x).1 hx).1) (by have:=rch_few ha;rw [hll] at this;omega)⟩
              intro v
              simp only [Act.put,List.setIfInBounds_toArray,List.set_cons_zero,List.set_cons_succ])
           | ((with_reducible apply lx_extr')
              ·apply Eq.refl
              apply Exists.intro
              apply And.intro
              ·(go_simp;rfl)
              refine ⟨fun W hW hD=>?_,?_⟩
              ·obtain ⟨F1,va,vb,rfl,_⟩:=hD.at 0 rfl (by kernel_rfl)
               exact ⟨_,rfl,by simp⟩
              simp only [Act.put,List.setIfInBounds_toArray,List.set_cons_zero,List.set_cons_succ])
           | (first | (with_reducible apply lx_move') | (with_reducible apply lx_assign')
              ·apply Eq.refl
              apply Exists.intro
              apply And.intro
              ·(go_simp;rfl)
              simp only [Act.put,List.setIfInBounds_toArray,List.set_cons_zero,List.set_cons_succ])
         refine lx0_nil ?_ fun w18 hW18 hD18=>?_
         ·exact List.nodup_nil
         obtain ⟨_,va,vb,rfl,there,hoth,htok,htl, -⟩:=hD18 _ (.head _)
         simp only [extr2_0,extr2_1]
         have hth:=SliceAt.of_own (idsK htok) hoth
         obtain ⟨Ath,cth,rfl⟩:=own_form' hoth
         have hb18:=hb17.below hW18 hb17.lt
         have hle18:w16.heap.size≤w18.heap.size:=Nat.le_trans (Nat.le_of_lt hb17.lt) hW18.size
         have b1618:Below w16.heap.size w16 w18:=hbl17.trans (hW18.mono hbl17.size)
         have hfar:=fun W (hf:Far (rowsOfP [(5,some w16.heap.size,fun w=>Blk w w16.heap.size 30 #[.slice none 0 0])]) w18 W)=>b1618.trans (hf.below hle18 fun k hk=>Nat.le_of_eq (rows1 hk).symm)
         have hSto:=hD16.ok
         obtain ⟨FT,hFT⟩ : ∃ FT,(itemsS (es.map (·.st)) there).map StL.text=FT:=⟨_,rfl⟩
         have hFTok : ∀ t∈FT,t.length≤5000:=by rw [←hFT];exact items_ok hSto there
         have hFTl:FT.length≤24:=by rw [←hFT,List.length_map];exact Nat.le_trans (items_len _ _) htl
         have hDe : ∀ W,DocSt W (.slice none 0 0) []:=fun W=>⟨World.ownsRow_nil _ _ _ _,fun e he=>by simp at he,StoOk.nil⟩
         have htx:=fun W (hW:Below w16.heap.size w16 W) (hth:Ids W (.slice Ath there.length cth) there)=>docTexts_calls (hD16.below hW) there htok (by omega) _ hth
         rw [hFT] at htx
         have hthF:=fun W (hf:Far (rowsOfP [(5,some w16.heap.size,fun w=>Blk w w16.heap.size 30 #[.slice none 0 0])]) w18 W)=>(Far.own hf hoth (fun k hk e=>by have h1:=rows1 e;have h2:=(World.ownsRow.lt hoth k hk).1;have h3:=hb17.lt;omega))
         obtain ⟨LF,hLF⟩ : ∃ LF,putL11 [] FT=LF:=⟨_,rfl⟩
         have hFS:Hid (∀ y∈LF,y∈es.map (·.st)):=Lib.hid fun y hy=>by
          rw [←hLF,←hFT] at hy
          rcases (mem_union hSto (fun z hz=>by simp at hz) y).1 hy with h | h
          ·simp at h
          ·exact h.1
         have hLFl:LF.length≤24:=by have:=putL11_len FT [];rw [hLF,List.length_nil] at this;omega
         have hAll:=fun W (v:Value) (hv:SliceAt W 1 txC v FT)=>docAll_calls (hDe W) FT hFTok (by rw [List.length_nil];omega) v hv
         have hAll : ∀ W (v:Value) (hv:SliceAt W 1 txC v FT),Calls Tryz.prog 18 #[.agg #[.slice none 0 0],v] W fun e w'=>AllR W.heap.size (.slice none 0 0) [] LF e w'∧Below W.heap.size W w':=by
          intro W v hv
          have:=hAll W v hv
          rw [←hLF]
          exact this
         clear hD18 hW18 hbl17 hsc17 hid17 lS17 hD17
         have hpre:=preOk1 (i:=5) hb18
         go_upto_region 24 with (fail)
         refine wp_region_goP 6 [(5,some w16.heap.size,fun w=>Blk w w16.heap.size 30 #[.slice none 0 0])] hpre (by kernel_rfl) (by kernel_rfl) (by kernel_rfl) (by kernel_rfl) ?_
         simp only [exSp]
         iterate 6 apply Exists.intro
         repeat
          first
           | ((with_reducible apply lx_ex)
              ·(go_simp;done)
              apply Exists.intro
              apply And.intro
              ·apply Eq.refl
              apply And.intro
              ·intro W hF hD
               have hb:=hfar W (far_drew hF)
               have q0:=lS16 W hb
               first
                | (have q1:=run_ldvS (hD.was 0 rfl (by kernel_rfl))
                   go_simp
                   rfl)
                | (go_simp
                   rfl)
              simp only [Act.put,List.setIfInBounds_toArray,List.set_cons_zero,List.set_cons_succ])
           | ((with_reducible apply lx_pass)
              ·(first | rfl | (go_simp;done))
              ·apply Eq.refl
              simp only [Act.put,List.setIfInBounds_toArray,List.set_cons_zero,List.set_cons_succ])
           | ((with_reducible refine lx_new (fun _ v F w=>ownR w18.heap.size 9 1 FT.length (rowsOf txC FT) v F w) rfl ?_ (fun _=>ownR_stab _ _ _ _ _) ?_ ?_)
              ·(go_simp;done)
              ·intro W hF hD
               have hc:=htx W (hfar W (far_drew hF)) (SliceAt.of_own (idsK htok) (hthF W (far_drew hF)))
               unfold doesAt Oper.wp execOp
               go_simp
               refine hc.mono ?_
               rintro e w' ⟨v,rfl,ho,hb⟩
               exact ⟨hb,ownR_new hF.size ho⟩
              intro v
              simp only [Act.put,List.setIfInBounds_toArray,List.set_cons_zero,List.set_cons_succ])
           | ((with_reducible refine lx_new (fun _ v F w=>docF LF v F w) rfl ?_ (fun _=>docF_stab _) ?_ ?_)
              ·(go_simp;done)
              ·intro W hF hD
               obtain ⟨F1,o1,_⟩:=hD.at 0 rfl (by kernel_rfl)
               have hc:=hAll W _ (SliceAt.of_own (txC_one FT) o1)
               unfold doesAt Oper.wp execOp
               go_simp
               refine hc.mono ?_
               rintro e w' ⟨⟨vm7,es7,rfl,D7,hm7,hu7⟩,hb7⟩
               exact ⟨hb7,fun F f1 f2 f3=>⟨vm7,es7,rfl,D7,hm7,fun k hk=>(hu7 k hk).elim (fun h=>absurd h (use_nil k)) fun h=>f3 k h (D7.lt hk)⟩⟩
              intro v
              simp only [Act.put,List.setIfInBounds_toArray,List.set_cons_zero,List.set_cons_succ])
           | ((with_reducible apply lx_putRow w16.heap.size 30 #[.slice none 0 0] szDSt)
              ·exact List.Mem.head _
              ·apply Eq.refl
              apply Exists.intro
              apply Exists.intro
              apply And.intro
              ·(go_simp;rfl)
              apply And.intro
              ·(go_simp;rfl)
              refine ⟨rfl,fun W hF hD=>?_,?_⟩
              ·obtain ⟨F,vm7,es7,rfl,D7,_⟩:=hD.at 0 rfl (by kernel_rfl)
               exact ⟨#[vm7],rfl,rfl,by simp [D7.one]⟩)
         refine lxP_nil ?_ fun w19 hF19 hD19=>?_
         ·exact List.nodup_nil
         have b1619:=hfar w19 hF19
         obtain ⟨_,vmF,esF,rfl,hDF,hmF, -⟩:=hD19 _ (.tail _ (.head _))
         obtain ⟨_,csF,hcsF, -,hbF⟩:=hD19 _ (.head _)
         obtain rfl : #[vmF]=csF:=by injection hcsF
         clear hD19 hcsF hthF htx hAll hfar hpre hF19 hb18 hb17 hle18 b1618 hoth hth
         have lS19:=fun W (hW:Below w19.heap.size w19 W)=>lS16 W (b1619.trans (hW.mono b1619.size))
         have hD19':=hD16.below b1619
         have hfr19:=hfr16.below b1619
         have hsc19:=hsc16.below b1619
         have hK19:=hK16.below b1619
         have hkn19:=fun W (hW:Below w19.heap.size w19 W)=>hkn16 W (b1619.trans (hW.mono b1619.size))
         have lF19:=fun W (hW:Below w19.heap.size w19 W)=>run_ldvS (hbF.below hW hbF.lt)
         have b019:=bthen b016 b016.size b1619
         have hmFl:esF.length≤24:=by have:=congrArg List.length hmF;rw [List.length_map] at this;omega
         obtain ⟨AF,cF,rfl⟩:=own_form' hDF.own
         obtain ⟨Asc2,csc2,hsceq,_,_,hatsc⟩:=id hsc19
         injection hsceq with e1 e2 e3
         subst e1 e3
         clear hD16 hfr16 hsc16 hK16 hidp16 hkn16 lS16 b1619 b016 e2
         go_wp2_with (fail)
         go_loopg [18,19] SC.length (fun f vo vi wr => ∃ (k:Nat) (acc:List Txt),vi = .int .i64 k∧k+f=SC.length∧OwnIds wr w19.heap.size vo acc∧Hid (acc=(SC.take k).filter (hasS LF))∧acc.length≤k∧Below w19.heap.size w19 wr)
         case atStart=>exact ⟨0,[],rfl,by omega,World.ownsRow_nil _ _ _ _,Lib.hid rfl,by simp,Below.refl _ _⟩
         case round=>
          obtain ⟨k,acc,rfl,hkf,hown,hacc,hal,hbel⟩:=hrel
          have hbs:=hbel.size
          cases gk with
          | succ f=>
            have hki:(k:Int)<(SC.length:Int):=by omega
            have hkl:k<SC.length:=by omega
            obtain ⟨gc,oc,rfl,hgc,hcc⟩:=hatsc (by omega)
            obtain ⟨x,hx⟩ : ∃ x,SC[k]?=some x:=⟨_,List.getElem?_eq_getElem hkl⟩
            have hxi:=hscok x (List.mem_of_getElem? hx)
            have hlx:=fun W (hW:Below wr.heap.size wr W)=>run_ldvI_at (show World.rangeAt W gc (oc+k*32) (u8s x).toList from rangeAt_below (hcc k x hx) hgc (bthen hbel hbs hW)) hxi
            have lSr:=fun W (hW:Below wr.heap.size wr W)=>lF19 W (bthen hbel hbs hW)
            have hkd:=fun W (hW:Below wr.heap.size wr W)=>docHas_calls (hDF.below (bthen hbel hbs hW)) x hxi
            rw [hmF] at hkd
            have htk:Hid ((SC.take (k+1)).filter (hasS LF)=acc++if hasS LF x=true then [x] else []):=Lib.hid (by
             rw [List.take_add_one,hx,List.filter_append,←hacc.out]
             show acc++List.filter (hasS LF) [x]=_
             rw [List.filter_cons]
             rfl)
            obtain ⟨Ao,co,rfl⟩:=own_form' hown
            clear hx hcc hatsc lF19 lS19 hkn19 hsc19 hfr19 hD19' hDF
            generalize hasS LF x=ob at *
            go_upto_region 29 with (fail)
            refine wp_region_class (C:=fun W=>Below wr.heap.size wr W) (by kernel_rfl) (by kernel_rfl) (Below.refl _ _).drew ?_
            repeat
             first
              | ((with_reducible refine wpQuiet_ex ?_ ?_)
                 ·(go_simp;done)
                 apply Exists.intro
                 refine ⟨fun W hW=>?_,?_⟩
                 ·first
                   | (have q0:=lSr W hW
                      have q1:=hlx W hW
                      have p1:=bel_keepG hW (hkd W hW)
                      go_simp
                      first
                       | rfl
                       | (with_reducible exact p1))
                 simp only [Act.put,List.setIfInBounds_toArray,List.set_cons_zero,List.set_cons_succ])
              | ((with_reducible refine wpQuiet_pass ?_ ?_)
                 ·(first | rfl | (go_simp;done))
                 simp only [Act.put,List.setIfInBounds_toArray,List.set_cons_zero,List.set_cons_succ])
            with_reducible refine wpQuiet_nil ?_
            intro w8 hW8
            have b8:=hbel.trans (hW8.mono hbs)
            clear hkd lSr
            have hl8:=hlx w8 hW8
            clear hlx
            cases ob with
            | true=>
              have hx32:(u8s x).size=32:=by rw [u8s_size,hxi]
              have hx132:(u8s x).size=1*32:=hx32
              have hx1 : ∀ u∈(u8s x).toList,u.oneCell'=true:=idC_one x
              have hAk:acc.length+1≤9223372036854775807:=by omega
              have hAb:(acc.length+1)*32≤140737488355328:=by omega
              have hlen2:Hid ((acc++[x]).length=acc.length+1):=Lib.hid (by rw [List.length_append];rfl)
              have hrow2:Hid (rowsOf idC (acc++[x])=rowsOf idC acc++(u8s x).toList):=Lib.hid (by rw [rowsOf_append,rowsOf_one];rfl)
              have hacc2:Hid (acc++[x]=(SC.take (k+1)).filter (hasS LF)):=Lib.hid (by rw [htk.out,if_pos rfl])
              have hown8:=own_below hown hW8
              have hsz8:=Nat.le_trans hbs hW8.size
              clear htk hacc hown
              go_wp2_with (first
               | ((with_reducible refine lit_slice1 (.tmp 147) Tryz.idsTy (u8s x) hx32 (by omega) ?_ ?_);rfl)
               | ((with_reducible refine lit_append_new (.tmp 143) (.tmp 148) 1 _ Tryz.idsTy hown8 (u8s x) hx132 hx1 hAk hAb hsz8 ?_ ?_ ?_);rfl;rfl
                  intro v3 w3 ho3 hb3 _ _))
              have ho4:OwnIds w3 w19.heap.size v3 (acc++[x]):=by unfold OwnIds;rw [hlen2.out,hrow2.out];exact ho3
              have hb4:=b8.trans hb3
              clear hown8 ho3
              go_roundg f
              case rel=>exact ⟨k+1,acc++[x],by go_num,by omega,ho4,hacc2,by rw [hlen2.out];omega,hb4⟩
              case measure=>omega
            | false=>
              have hacc2:Hid (acc=(SC.take (k+1)).filter (hasS LF)):=Lib.hid (by rw [htk.out,if_neg (by decide),List.append_nil])
              have hown8:=own_below hown hW8
              clear htk hacc hown
              go_wp2_with (fail)
              go_roundg f
              case rel=>exact ⟨k+1,acc,by go_num,by omega,hown8,hacc2,by omega,b8⟩
              case measure=>omega
          | zero=>
            have hki : ¬ (k:Int)<(SC.length:Int):=by omega
            have hke:SC.take k=SC:=List.take_of_length_le (by omega)
            rw [hke] at hacc
            have haok : ∀ x∈acc,x.length=32:=fun x hx=>by rw [hacc.out] at hx;exact hscok x (List.mem_filter.1 hx).1
            have hal10:acc.length≤10:=by omega
            clear hacc hke hatsc
            have hltI:=SliceAt.of_own (idsK haok) hown
            obtain ⟨Alt,clt,rfl⟩:=own_form' hown
            have hDr:=hDF.below hbel
            have hKr:=hK19.below hbel
            have hmDr:=hD19'.below hbel
            have hfrr:=hfr19.below hbel
            have lFr:=fun W (hW:Below wr.heap.size wr W)=>lF19 W (bthen hbel hbs hW)
            have lSr:=fun W (hW:Below wr.heap.size wr W)=>lS19 W (bthen hbel hbs hW)
            have hknr:=fun W (hW:Below wr.heap.size wr W)=>hkn19 W (bthen hbel hbs hW)
            have b0r:=bthen b019 b019.size hbel
            have hbq:=built_q2 AF Alt esF.length acc.length cF clt
            have hof:=Lib.hid (of14_calls hDr (by omega) hKr none Alt 0 acc.length 0 clt)
            rw [hmF] at hof
            have lFr0:=lFr wr (Below.refl _ _)
            clear lF19 lS19 hkn19 hsc19 hfr19 hD19' hDF hK19 hown b019 hbel
            go_upto_region 35 with (first
             | ((with_reducible refine lit_build2 hbq ?_ ?_ ?_);rfl;rfl)
             | ((with_reducible refine hof.out.mono ?_);rintro e w20 ⟨⟨base2,p2,vl2,rfl,hS20⟩,hb20⟩
                have hp1:(#[Value.pointer (some ⟨p2,0,none⟩), .slice none 0 0, .slice Alt acc.length clt]:Array Value).size=3:=rfl
                have hp2:(#[Value.pointer (some ⟨p2,0,none⟩), .slice none 0 0, .slice Alt acc.length clt]:Array Value).all (·.oneCell')=true:=by simp [Value.oneCell'])
             | ((with_reducible refine lit_new 44 (.tmp 21) (.tmp 155) #[Value.pointer (some ⟨p2,0,none⟩), .slice none 0 0, .slice Alt acc.length clt] 3 szP14 hp1 hp2 _ ?_ ?_ ?_ ?_)
                ·first | exact hp1 | rfl
                ·rfl
                ·rfl
                intro W21 hb21 hbl21))
            have br21:=bthen hb20 hb20.size hbl21
            have b021:=bthen b0r b0r.size br21
            have hP21:=run_ldvP hb21
            have hwh:=Lib.hid (chkWhole_calls (hS20.below hbl21) [] (fun r h=>by simp at h) acc haok (.slice none 0 0) _ SliceAt.nil (hltI.below br21))
            have hkn21:=fun W (hW:Below W21.heap.size W21 W)=>hknr W (bthen br21 br21.size hW)
            have hD21:=hmDr.below br21
            have hDF21:=hDr.below br21
            have hK21:=hKr.below br21
            have hfr21:=hfrr.below br21
            have hlt21:=hltI.below br21
            have lF21:=fun W (hW:Below W21.heap.size W21 W)=>lFr W (bthen br21 br21.size hW)
            have lS21:=fun W (hW:Below W21.heap.size W21 W)=>lSr W (bthen br21 br21.size hW)
            obtain ⟨N,hN⟩ : ∃ N,wholeN LF [] acc=N:=⟨_,rfl⟩
            rw [hN] at hwh
            clear lFr lSr hknr hDr hmDr hKr hfrr hltI hof hbq hS20 hb20 hbl21 br21 hp1 hp2 b0r lFr0 hb21
            by_cases hN0:N=0
            ·subst hN0
             have hre:=fun W (hW:Below W21.heap.size W21 W)=>Lib.hid (docReach_calls (hD21.below hW) from_ acc hfok haok (by omega) _ _ (hfr21.below hW) (hlt21.below hW))
             have hcl:=fun W (hW:Below W21.heap.size W21 W)=>docClosed_calls (hD21.below hW) from_ acc hfok haok (by omega) _ _ (hfr21.below hW) (hlt21.below hW)
             by_cases hC:ClosP (es.map (·.st)) acc from_
             ·have hcl1:=fun W (hW:Below W21.heap.size W21 W)=>Lib.hid ((hcl W hW).mono fun e w' (q:ClosE (es.map (·.st)) acc from_ (fun c => .bool c) e∧Below W.heap.size W w')=>(⟨q.1.yes hC,q.2⟩:e = .returned (.bool true)∧Below W.heap.size W w'))
              clear hcl
              go_upto_region 40 with (first
               | ((with_reducible refine hwh.out.mono ?_);rintro e w22 ⟨rfl,hb22⟩
                  have hre22:=hre w22 hb22)
               | ((with_reducible refine hre22.out.mono ?_);rintro e w23 ⟨va,vb,more,miss,rfl,hra,hrb,hoa,hob,hb23⟩
                  have b2123:=bthen hb22 hb22.size hb23
                  have hcl23:=hcl1 w23 b2123)
               | ((with_reducible refine hcl23.out.mono ?_);rintro e w24 ⟨rfl,hb24⟩))
              have b2124:=bthen b2123 b2123.size hb24
              have b024:=bthen b021 b021.size b2124
              have hmok : ∀ x∈more,x.length=32:=fun x hx=>Rch.ok hfok ((hra.mem x).1 hx).1
              have hml:more.length≤24:=by have:=rch_few hra;rw [hll] at this;omega
              have hmoI:=SliceAt.of_own (idsK hmok) (own_below hoa hb24)
              have hlaw:=(clos_iff hra hrb).2 hC
              obtain ⟨Amo,cmo,rfl⟩:=own_form' hoa
              have hSto:=hD21.ok
              have hStF:StoOk LF:=by rw [←hmF];exact hDF21.ok
              have hAm:Hid (∀ y,y∈putL11 LF ((itemsS (es.map (·.st)) more).map StL.text)↔y∈LF∨(y∈es.map (·.st)∧y.id∈more)):=Lib.hid fun y=>mem_union hSto hFS.out y
              have hzero:Hid (StoOk (putL11 LF ((itemsS (es.map (·.st)) more).map StL.text))→wholeN (putL11 LF ((itemsS (es.map (·.st)) more).map StL.text)) [] acc=0):=Lib.hid fun hA=>union_whole hSto hStF hA hFS.out hAm.out kn_fine hN hra hrb hlaw
              obtain ⟨TX,hTX⟩ : ∃ TX,(itemsS (es.map (·.st)) more).map StL.text=TX:=⟨_,rfl⟩
              have hTXok : ∀ t∈TX,t.length≤5000:=by rw [←hTX];exact items_ok hSto more
              have hTXl:TX.length≤24:=by rw [←hTX,List.length_map];exact Nat.le_trans (items_len _ _) hml
              have hD24:=hD21.below b2124
              have hDF24:=hDF21.below b2124
              have hK24:=hK21.below b2124
              have hlt24:=hlt21.below b2124
              have htx:=fun W (hW:Below w24.heap.size w24 W)=>docTexts_calls (hD24.below hW) more hmok (by omega) _ (hmoI.below hW)
              have hAll:=fun W (hW:Below w24.heap.size w24 W) (v:Value) (hv:SliceAt W 1 txC v TX)=>docAll_calls (hDF24.below hW) TX hTXok (by omega) v hv
              rw [hTX] at htx hzero
              rw [hmF] at hAll
              obtain ⟨LA,hLA⟩ : ∃ LA,putL11 LF TX=LA:=⟨_,rfl⟩
              have hLAl:LA.length≤48:=by have:=putL11_len TX LF;rw [hLA] at this;omega
              rw [hLA] at hAll hzero
              have lF24:=fun W (hW:Below w24.heap.size w24 W)=>lF21 W (bthen b2124 b2124.size hW)
              have lS24:=fun W (hW:Below w24.heap.size w24 W)=>lS21 W (bthen b2124 b2124.size hW)
              have hkn24:=fun W (hW:Below w24.heap.size w24 W)=>hkn21 W (bthen b2124 b2124.size hW)
              clear hre hre22 hcl1 hcl23 hwh hb22 hb23 hb24 b2123 b2124 lF21 lS21 hkn21 hD21 hDF21 hK21 hlt21 hfr21 hoa hob hra hrb hlaw hAm hTX hLA hStF hSto hP21
              refine wp_region_go0 7 (by kernel_rfl) (by kernel_rfl) (by kernel_rfl) (by kernel_rfl) ?_
              simp only [exSp]
              iterate 7 apply Exists.intro
              repeat
               first
                | ((with_reducible apply lx0_ex)
                   ·(go_simp;done)
                   apply Exists.intro
                   apply And.intro
                   ·apply Eq.refl
                   apply And.intro
                   ·intro W hW hD
                    have q0:=lF24 W hW
                    have q1:=lS24 W hW
                    go_simp
                    rfl
                   simp only [Act.put,List.setIfInBounds_toArray,List.set_cons_zero,List.set_cons_succ])
                | ((with_reducible apply lx0_pass)
                   ·(first | rfl | (go_simp;done))
                   ·apply Eq.refl
                   simp only [Act.put,List.setIfInBounds_toArray,List.set_cons_zero,List.set_cons_succ])
                | ((with_reducible refine lx0_new (ownR w24.heap.size 9 1 TX.length (rowsOf txC TX)) rfl ?_ (ownR_stab _ _ _ _ _) ?_ ?_)
                   ·(go_simp;done)
                   ·intro W hW hD
                    unfold doesAt Oper.wp execOp
                    go_simp
                    (with_reducible refine (htx W hW).mono ?_)
                    rintro e w' ⟨v,rfl,ho,hb⟩
                    exact ⟨hb,ownR_new hW.size ho⟩
                   intro v
                   simp only [Act.put,List.setIfInBounds_toArray,List.set_cons_zero,List.set_cons_succ])
                | ((with_reducible refine lx0_new (docF LA) rfl ?_ (docF_stab _) ?_ ?_)
                   ·(go_simp;done)
                   ·intro W hW hD
                    obtain ⟨F1,o1,_⟩:=hD.at 0 rfl (by kernel_rfl)
                    have hc:=hAll W hW _ (SliceAt.of_own (txC_one TX) o1)
                    unfold doesAt Oper.wp execOp
                    go_simp
                    refine hc.mono ?_
                    rintro e w' ⟨⟨vm7,es7,rfl,D7,hm7,hu7⟩,hb7⟩
                    exact ⟨hb7,fun F f1 f2 f3=>⟨vm7,es7,rfl,D7,hm7,fun k hk=>(hu7 k hk).elim (fun h=>f1 k ⟨hDF24.lt h,List.not_mem_nil⟩) fun h=>f3 k h (D7.lt hk)⟩⟩
                   intro v
                   simp only [Act.put,List.setIfInBounds_toArray,List.set_cons_zero,List.set_cons_succ])
                | ((with_reducible apply lx_al 30 #[.slice none 0 0] zeroS14)
                   ·apply Eq.refl
                   intro v
                   simp only [Act.put,List.setIfInBounds_toArray,List.set_cons_zero,List.set_cons_succ])
                | ((with_reducible apply lx_st' 5 30 #[.slice none 0 0] szDSt (by kernel_rfl))
                   ·exact rfl
                   ·apply Eq.refl
                   apply Exists.intro
                   apply Exists.intro
                   apply And.intro
                   ·(go_simp;rfl)
                   apply And.intro
                   ·(go_simp;rfl)
                   refine ⟨?_,fun W hW hD=>?_,?_⟩
                   ·first | exact List.Mem.head _ | exact List.Mem.tail _ (List.Mem.head _) | exact List.Mem.tail _ (List.Mem.tail _ (List.Mem.head _)) | exact List.Mem.tail _ (List.Mem.tail _ (List.Mem.tail _ (List.Mem.head _)))
                   ·obtain ⟨F,vm7,es7,rfl,D7,_⟩:=hD.at 1 rfl (by kernel_rfl)
                    exact ⟨#[vm7],rfl,rfl,by simp [D7.one]⟩)
              refine lx0_nil ?_ fun w25 hW25 hD25=>?_
              ·exact (by simp [stsOf])
              obtain ⟨_,vmA,esA,rfl,hDA,hmA, -⟩:=hD25 _ (.tail _ (.tail _ (.head _)))
              obtain ⟨_,gA,csA,rfl,hcsA,hgA,_,hbA⟩:=hD25 _ (.head _)
              obtain rfl : #[vmA]=csA:=by injection hcsA
              have hwz:wholeN LA [] acc=0:=hzero.out (by rw [←hmA];exact hDA.ok)
              have hmAl:esA.length≤48:=by have:=congrArg List.length hmA;rw [List.length_map] at this;omega
              obtain ⟨AA,cA,rfl⟩:=own_form' hDA.own
              have lA:=run_ldvS hbA
              have hbq:=built_q2 AA Alt esA.length acc.length cA clt
              have hof:=Lib.hid (of14_calls hDA (by omega) (hK24.below hW25) none Alt 0 acc.length 0 clt)
              rw [hmA] at hof
              have hlt25:=hlt24.below hW25
              have hkn25:=fun W (hW:Below w25.heap.size w25 W)=>hkn24 W (bthen hW25 hW25.size hW)
              have b025:=bthen b024 b024.size hW25
              clear hD25 hcsA hkn24 hlt24 hK24 hDF24 hD24 lF24 lS24 htx hAll hmoI hW25 hzero
              go_upto_region 42 with (first
               | ((with_reducible refine lit_build2 hbq ?_ ?_ ?_);rfl;rfl)
               | ((with_reducible refine hof.out.mono ?_);rintro e w26 ⟨⟨base3,p3,vl3,rfl,hS26⟩,hb26⟩
                  have hp1:(#[Value.pointer (some ⟨p3,0,none⟩), .slice none 0 0, .slice Alt acc.length clt]:Array Value).size=3:=rfl
                  have hp2:(#[Value.pointer (some ⟨p3,0,none⟩), .slice none 0 0, .slice Alt acc.length clt]:Array Value).all (·.oneCell')=true:=by simp [Value.oneCell'])
               | ((with_reducible refine lit_new 44 (.tmp 26) (.tmp 186) #[Value.pointer (some ⟨p3,0,none⟩), .slice none 0 0, .slice Alt acc.length clt] 3 szP14 hp1 hp2 _ ?_ ?_ ?_ ?_)
                  ·first | exact hp1 | rfl
                  ·rfl
                  ·rfl
                  intro W27 hb27 hbl27))
              have b2527:=bthen hb26 hb26.size hbl27
              have hkn27:=hkn25 W27 b2527
              have hP27:=fun W (hW:Below W27.heap.size W27 W)=>run_ldvP (hb27.below hW hb27.lt)
              have hwh:=fun W (hW:Below W27.heap.size W27 W)=>Lib.hid (chkWhole_calls ((hS26.below hbl27).below hW) [] (fun r h=>by simp at h) acc haok (.slice none 0 0) _ SliceAt.nil ((hlt25.below b2527).below hW))
              rw [hwz] at hwh
              have b027:=bthen b025 b025.size b2527
              clear hof hbq hS26 hb26 hb27 hbl27 hkn25 hDA hbA lA hlt25 b2527 hp1 hp2
              go_wp2_with (first
               | ((with_reducible refine hkn27.out.mono ?_);rintro e w28 ⟨rfl,hb28⟩
                  have l28:=hP27 w28 hb28
                  have hwh28:=hwh w28 hb28)
               | ((with_reducible refine hwh28.out.mono ?_);rintro e w29 ⟨rfl,hb29⟩))
              go_ret
              exact ⟨rfl,bthen b027 b027.size (bthen hb28 hb28.size hb29)⟩
             ·have hcl1:=fun W (hW:Below W21.heap.size W21 W)=>Lib.hid ((hcl W hW).mono fun e w' (q:ClosE (es.map (·.st)) acc from_ (fun c => .bool c) e∧Below W.heap.size W w')=>(⟨q.1.no hC,q.2⟩:e = .returned (.bool false)∧Below W.heap.size W w'))
              clear hcl
              go_wp2_with (first
               | ((with_reducible refine hwh.out.mono ?_);rintro e w22 ⟨rfl,hb22⟩
                  have hre22:=hre w22 hb22
                  have lS22:=lS21 w22 hb22)
               | ((with_reducible refine hre22.out.mono ?_);rintro e w23 ⟨va,vb,more,miss,rfl,hra,hrb,hoa,hob,hb23⟩
                  have b2123:=bthen hb22 hb22.size hb23
                  have lS23:=lS21 w23 b2123
                  have hcl23:=hcl1 w23 b2123)
               | ((with_reducible refine hcl23.out.mono ?_);rintro e w24 ⟨rfl,hb24⟩
                  have b2124:=bthen b2123 b2123.size hb24
                  have hkn24:=hkn21 w24 b2124)
               | ((with_reducible refine hkn24.out.mono ?_);rintro e w25 ⟨rfl,hb25⟩))
              go_ret
              exact ⟨rfl,bthen b021 b021.size (bthen b2124 b2124.size hb25)⟩
            ·have hNb:(N==0)=false:=by simp [hN0]
             have hNc:(N != 0)=true:=by simp [hN0]
             clear hN0 hN
             go_wp2_with (first
              | ((with_reducible refine hwh.out.mono ?_);rintro e w22 ⟨rfl,hb22⟩
                 have hkn22:=hkn21 w22 hb22)
              | ((with_reducible refine hkn22.out.mono ?_);rintro e w23 ⟨rfl,hb23⟩))
             go_ret
             exact ⟨rfl,bthen b021 b021.size (bthen hb22 hb22.size hb23)⟩
end Go.Proofs.YtfdfoplmijmnaaaGreatDoor
namespace Go.Proofs.YtfdfoplmijmnaaaGreatDoor
open Go.ChangeShapes Go.WideShapes Go.ChangeAt Go.RowKit
theorem open_u8s {H:Type} {enc:TypeId×Value→H} {w:World} {base:Nat} {sp:Nat→Bool} {held:Bool} {v:Value} {d:DataW H} {p:List MemPlace} (h:DataW.Trod enc Tryz.prog w base sp held 23 v d p) (hc:v.cells.toList=[v]) : ∃ l:Txt,SliceAt w 1 byC v l:=by
 obtain ⟨fuel,hf⟩:=h
 rw [hc] at hf
 obtain ⟨l,hl,_⟩:=open_elems byC 1 (by omega) (fun _=>True) Tryz.underlying23 (by kernel_rfl) (fun y _=>rfl) elem_byte hf
 exact ⟨l,hl⟩
end Go.Proofs.YtfdfoplmijmnaaaGreatDoor
namespace Go.Proofs.YtfdfoplmijmnaaaGreatDoor
open Go.ChangeShapes Go.WideShapes Go.ChangeAt Go.RowKit
theorem gTab : Tryz.prog.globalNamed "knapsack/sha256.constants" = some 0:=by kernel_rfl
theorem gTabType : (Tryz.prog.globals[0]?).map (·.type)=some 136:=by kernel_rfl
theorem cellsTab : Tryz.prog.cellsOf 136=64:=by kernel_rfl
theorem cellsU32 : Tryz.prog.cellsOf 68=1:=by kernel_rfl
theorem laid_is : (Rows.laid_knapsack_sha256_constants:DataW Unit)=Lib.tabData .u32 (K256.map fun n=>((n:Nat):Int)):=by kernel_rfl
theorem tabK_of {W:World} (h:laidMetH Tryz.prog [("knapsack/sha256.constants",Rows.laid_knapsack_sha256_constants)] W):TabK W:=by
 rw [laid_is] at h
 have ht:=Lib.tabIs_of_head (rest:=[]) gTab gTabType Tryz.underlying136 Tryz.underlying68 cellsU32 cellsTab h
 have hc (t:Nat) (h64:t<64):W.cell? ⟨0,t,none⟩=some (.int .u32 (K256.getD t 0:Nat)):=by
  rw [ht.cell gTab t (by rw [List.length_map,K256_length];exact h64)]
  have:t<K256.length:=by rw [K256_length];exact h64
  simp [List.getD,List.getElem?_map,List.getElem?_eq_getElem this]
 exact ⟨World.block_lt_of_cell? W _ (hc 0 (by omega)),hc⟩
/-- A world for the witness: the settled one, the table as its initialiser lays it. -/
noncomputable def laidWorld (os:Os):World:=
 { World.holding Tryz.prog os ⟨#[], #[],[]⟩ with heap:=(World.holding Tryz.prog os ⟨#[], #[],[]⟩).heap.modify 0 fun
  | .cells _ t frozen => .cells (u32s K256) t frozen
  | o=>o }
end Go.Proofs.YtfdfoplmijmnaaaGreatDoor
