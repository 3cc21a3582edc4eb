/- Texts of this claim, laid together: LinkW, LinkO, Varint2, ObjK, ObjKn, RdW, Take, RdX, LzBP, RdL, RdM, RdB, Far2, RdI, Splice, RdO, GraB, StitCl, StitBs, Sto, StitIn. -/
import Derived.Test.YtbcbmjdmlcldjaaGreatDoorMd
import Derived.Great.FillDense
import Derived.Lib.Hide
import Derived.Lib.BufferWrite
import Derived.Deep.MidRow
import Derived.Lib.SliceRun
import Derived.Shelf.RegionOpenPlain
import Derived.Lib.Overlaps
namespace Go.Proofs.YtbcbmjdmlcldjaaGreatDoor
open Go.RowKit
def LinkOk (l:LinkL):Prop:=l.id.length=32
def zLink : Value := .agg (linkC ⟨List.replicate 32 0,0⟩).toArray
theorem Tryz.linkTy : SliceTy Tryz.prog 180 183 zLink 33 40:=⟨Tryz.underlying180,info_parts (by kernel_rfl),rfl,by omega⟩
abbrev Links (w:World) (v:Value) (l:List LinkL):Prop:=SliceAt w 33 linkC v l
abbrev zAE (w:World) (base:Nat) (v:Value) (l:List LinkL):Prop:=w.ownsRow base 183 33 v l.length (rowsOf linkC l)
theorem linkK {l:List LinkL} (h : ∀ x∈l,LinkOk x) : ∀ x∈l,(linkC x).length=33:=fun x hx=>linkC_len (h x hx)
theorem linkC_one (r:LinkL) : ∀ u∈linkC r,u.oneCell'=true:=by
 intro u hu
 simp only [linkC,List.mem_append,u8s,List.toList_toArray,List.mem_map,List.mem_singleton] at hu
 rcases hu with ⟨c,_,rfl⟩ | rfl<;>rfl
theorem zAE.links {w:World} {base:Nat} {v:Value} {l:List LinkL} (hok : ∀ x∈l,LinkOk x) (h:zAE w base v l):Links w v l:=SliceAt.of_own (linkK hok) h
theorem zAE.more {w:World} {base:Nat} {v:Value} {o:List LinkL} {r:LinkL} (h:w.ownsRow base 183 33 v (o.length+1) (rowsOf linkC o++(linkC r).toArray.toList)):zAE w base v (o++[r]):=by
 unfold zAE
 rw [zAo,zAp,List.length_append]
 rwa [List.toList_toArray] at h
theorem zAE.nil (w:World) (base:Nat):zAE w base (.slice none 0 0) []:=World.ownsRow_nil w base _ 33
theorem fold_link (c0:Array Value) (b:Value) (l:List Value) (n:Nat) (hl:l.length=n) (h0:c0.size=n+1) :
 ((l.zipIdx 0).foldl (fun cs (x:Value×Nat)=>cs.setIfInBounds (0+x.2) x.1) c0).setIfInBounds n b=(l++[b]).toArray:=by
 obtain ⟨h1,h2⟩:=Great.foldl_set 0 l 0 c0
 apply Array.ext_getElem?
 intro k
 rw [Array.getElem?_setIfInBounds,h1]
 by_cases hk:n=k
 ·subst hk
  rw [if_pos rfl,if_pos (by omega)]
  simp [←hl]
 ·rw [if_neg hk,h2 k]
  by_cases hk2:k<n
  ·rw [if_pos ⟨by omega,by omega,by omega⟩]
   simp [List.getElem?_append_left (show k<l.length by omega)]
  ·rw [if_neg (by omega),Array.getElem?_eq_none (by omega)]
   symm
   rw [Array.getElem?_eq_none (by simp;omega)]
theorem zLink_cells : zLink.cells.size=33:=rfl
set_option maxRecDepth 100000 in
theorem zDa (id:Txt) (k:Int) (hid:id.length=32):Tryz.prog.built 183 [(0, .agg (u8s id)),(1, .int .i64 k)]=some (linkC ⟨id,k⟩).toArray:=by
 obtain ⟨it,hi,hz,hs,hb⟩:=Tryz.linkTy.hi
 have hpl:(match Tryz.prog.underlying 183 with | some (.struct fields)=>fields.toList.mapM (fun f=>(Tryz.prog.info? f.type).map fun i=>(f.offset,i.size)) | _=>none)=some [(0,32),(32,1)]:=by kernel_rfl
 have hu:=Tryz.underlying183
 rw [hu] at hpl
 unfold Program.built
 rw [hi,hu]
 simp only [hz]
 simp only at hpl
 rw [hpl]
 have hf:=fold_link zLink.cells (.int .i64 k) (id.map u8v) 32 (by simpa using hid) zLink_cells
 have h33:=zLink_cells
 have e1:(Value.int .i64 k).cells = #[.int .i64 k]:=rfl
 have e2:(Value.agg (u8s id)).cells=u8s id:=rfl
 have f1 : ∀ c:Array Value,Array.foldl (fun cs (x:Value×Nat)=>cs.setIfInBounds (32+x.snd) x.fst) c (#[.int .i64 k]:Array Value).zipIdx=c.setIfInBounds 32 (.int .i64 k):=fun c=>rfl
 have f2 : ∀ c:Array Value,Array.foldl (fun cs (x:Value×Nat)=>cs.setIfInBounds (0+x.snd) x.fst) c (u8s id).zipIdx=(id.map u8v).zipIdx.foldl (fun cs (x:Value×Nat)=>cs.setIfInBounds (0+x.snd) x.fst) c:=fun c=>by
  rw [←Array.foldl_toList,Array.toList_zipIdx]
  rfl
 have g0:(#[(0,32),(32,1)]:Array (Nat×Nat))[0]?=some (0,32):=rfl
 have g1:(#[(0,32),(32,1)]:Array (Nat×Nat))[1]?=some (32,1):=rfl
 have hsz:((id.map u8v).zipIdx.foldl (fun cs (x:Value×Nat)=>cs.setIfInBounds (0+x.snd) x.fst) zLink.cells).size=33:=by
  rw [(Great.foldl_set 0 (id.map u8v) 0 zLink.cells).1,h33]
 simp only [Instr.fill,g0,g1,e1,e2]
 rw [f2,if_neg (by simp [zAh,hid,h33]),f1,hf,if_neg (by rw [hsz];simp)]
 show some (linkC ⟨id,k⟩).toArray=_
 unfold linkC
 rw [show (u8s id).toList=id.map u8v from by simp [u8s]]
theorem own_low {w:World} {base base' n size:Nat} {e:TypeId} {v:Value} {xs:List Value} (h:w.ownsRow base e size v n xs) (hb:base'≤base):w.ownsRow base' e size v n xs:=by
 refine ⟨h.1,?_⟩
 rcases h.2 with h1 | ⟨g,cap,cur,h1,h2,h3⟩
 ·exact .inl h1
 ·exact .inr ⟨g,cap,cur,h1,Nat.le_trans hb h2,h3⟩
def zBy (l:List EntL):List LinkL:=l.map fun e=>⟨e.id,e.kind⟩
def zA7 (l:List Txt):List LinkL:=l.map fun p=>⟨p,3⟩
theorem entLinks_take {l:List EntL} {k:Nat} {x:EntL} (h:l[k]?=some x):zBy (l.take (k+1))=zBy (l.take k)++[⟨x.id,x.kind⟩]:=by rw [zDG h];simp [zBy]
theorem parLinks_take {l:List Txt} {k:Nat} {x:Txt} (h:l[k]?=some x):zA7 (l.take (k+1))=zA7 (l.take k)++[⟨x,3⟩]:=by rw [zDG h];simp [zA7]
theorem links_two {o:ObjL} (h:o.kind=2):linksL o=zBy o.ents:=by unfold linksL;rw [if_pos h];rfl
theorem zDu {o:ObjL} (h:o.kind=3):linksL o=⟨o.tree,2⟩::zA7 o.pars:=by unfold linksL;rw [if_neg (by omega),if_pos h];rfl
theorem links_four {o:ObjL} (h:o.kind=4):linksL o=[⟨o.target,o.of_⟩]:=by unfold linksL;rw [if_neg (by omega),if_neg (by omega),if_pos h]
theorem links_none {o:ObjL} (h2:o.kind≠2) (h3:o.kind≠3) (h4:o.kind≠4):linksL o=[]:=by unfold linksL;rw [if_neg h2,if_neg h3,if_neg h4]
theorem zBZ (l:LinkL) : ∀ u∈((linkC l).toArray:Array Value).toList,u.oneCell'=true:=by
 intro u hu
 rw [List.toList_toArray] at hu
 exact linkC_one l u hu
theorem zCr {l:LinkL} (h:l.id.length=32):(linkC l).toArray.size=1*33:=by rw [List.size_toArray,linkC_len h]
theorem and127 (c:UInt8):bits .and .u8 (c.toNat:Int) 127=((c.toNat%128:Nat):Int):=by
 have h : ∀ m:Fin 256,bits .and .u8 ((m.val:Nat):Int) 127=((m.val%128:Nat):Int):=by decide +kernel
 exact h ⟨c.toNat,c.toNat_lt⟩
theorem or_shl (N k:Nat) (c:UInt8) (hN:N<128 ^ k) (hf:N+128 ^ k*(c.toNat%128)≤18446744073709551615) :
 bits .or .u64 (N:Int) (IntKind.u64.wrap (IntKind.u64.wrap (bits .and .u8 (c.toNat:Int) 127)*2 ^ (7*k)))=((N+128 ^ k*(c.toNat%128):Nat):Int):=by
 have hp:(128:Nat) ^ k=2 ^ (7*k):=by rw [Nat.pow_mul]
 rw [hp] at hN hf ⊢
 rw [and127,IntWalk.u64_in ((c.toNat%128:Nat):Int) (by omega)]
 have h1:((c.toNat%128:Nat):Int)*2 ^ (7*k)=((2 ^ (7*k)*(c.toNat%128):Nat):Int):=by
  rw [Int.natCast_mul,Int.mul_comm];simp
 rw [h1,IntWalk.u64_in _ (by omega)]
 have h2:=u64_or_nat N (2 ^ (7*k)*(c.toNat%128)) (by omega) (by omega)
 rw [h2,Nat.or_comm,←Nat.two_pow_add_eq_or_of_lt hN,Nat.add_comm]
set_option maxRecDepth 100000 in
set_option maxHeartbeats 800000 in
theorem get_calls (l:List UInt8) (hl:l.length≤4611686018427387904) (w:World) :
 Calls Tryz.prog 115 #[.string (B l)] w fun e w'=>e = .returned (getTriple l (get l)) ∧ ∃ n,w'=w.drewN n:=by
 obtain ⟨M,hmin,hM1,hM2,hM3⟩ : ∃ M:Nat,(if (10:Int)<(l.length:Int) then (10:Int) else (l.length:Int))=(M:Int)∧M≤10∧M≤l.length∧Hid (M=10∨M=l.length):=by
  refine ⟨min l.length 10,?_,by omega,by omega,?_⟩
  ·split<;>omega
  ·show _∨_;omega
 go_enter Tryz.func115,Tryz.ntmps115
 go_wp2
 go_loop [5,11] (fun n i => ∃ k:Nat,i = .int .i64 k∧k≤M∧n = .int .u64 (val7 (l.take k))∧Hid (k≤lead l)) (fun _ i=>10-(intOf i).toNat)
 case atStart=>exact ⟨0,rfl,by omega,rfl,Nat.zero_le _⟩
 case round=>
  obtain ⟨k,rfl,h1,rfl,h3⟩:=hrel
  by_cases hk:k<M
  ·obtain ⟨c,hc⟩ : ∃ c,l[k]=c:=⟨_,rfl⟩
   have hts:=zDq l k (by omega)
   have hN:=val7_lt (l.take k)
   rw [List.length_take,Nat.min_eq_left (by omega)] at hN
   rw [hc] at hts
   by_cases h9:k=9
   ·subst h9
    by_cases hc1:1<c.toNat
    ·have hfin:Hid (get l=none):=by
      by_cases hbig:128≤c.toNat
      ·exact get_ten (lead_next h3.out (by omega) (by rw [hc];exact hbig))
      ·exact get_nine (by omega) (zD4 h3.out (by omega) (by rw [hc];omega)) (by rw [hc];exact hc1)
     clear hts hN
     go_wp2
     all_goals first | (exfalso;omega) | skip
     go_ret3
     exact ⟨by rw [hfin.out];rfl,0,rfl⟩
    ·have hle:Hid (lead l=9):=zD4 h3.out (by omega) (by rw [hc];omega)
     have hor0:=or_shl (val7 (l.take 9)) 9 c hN (by omega)
     rw [←hts] at hor0
     have hor:bits .or .u64 (val7 (List.take 9 l):Int) (IntKind.u64.wrap (IntKind.u64.wrap (bits .and .u8 (c.toNat:Int) 127)*9223372036854775808))=((val7 (List.take 10 l):Nat):Int):=by
      rw [show (9223372036854775808:Int)=2 ^ (7*9) from by decide]
      exact hor0
     clear hor0
     clear hts hN
     by_cases h0:c.toNat=0
     ·have hfin:Hid (get l=none):=get_zero (by omega) hle.out (by omega) (by rw [hc];exact h0)
      have h0':((c.toNat:Int)==0)=true:=by simp [h0]
      have h0h:=Lib.hid h0
      clear h0
      go_wp2
      all_goals first | (exfalso;omega) | skip
      go_ret3
      exact ⟨by rw [hfin.out];rfl,0,rfl⟩
     ·have hfin:Hid (get l=some (val7 (l.take (9+1)),9+1)):=get_yes (by omega) hle.out (by omega) (fun _=>by rw [hc];omega) (fun _=>by rw [hc];exact h0)
      have h0':((c.toNat:Int)==0)=false:=by simp;omega
      go_wp2
      all_goals first | (exfalso;omega) | skip
      go_quiet (fail)
      go_wp2
      go_ret3
      exact ⟨by rw [hfin.out];rfl,_,rfl⟩
   ·by_cases hd:128≤c.toNat
    ·have hn:Hid (k+1≤lead l):=lead_next h3.out (by omega) (by rw [hc];exact hd)
     have hor:=or_shl (val7 (l.take k)) k c hN (by
      have:128 ^ k*(c.toNat%128)≤128 ^ k*127:=Nat.mul_le_mul_left _ (by omega)
      have:128 ^ k≤128 ^ 8:=Nat.pow_le_pow_right (by omega) (by omega)
      omega)
     rw [←hts] at hor
     clear hts hN
     go_wp2
     all_goals first | (exfalso;omega) | skip
     go_round
     case rel=>exact ⟨k+1,by go_num,by omega,rfl,hn⟩
     case measure=>simp [intOf];omega
    ·have hle:Hid (lead l=k):=zD4 h3.out (by omega) (by rw [hc];omega)
     have hor:=or_shl (val7 (l.take k)) k c hN (by
      have:128 ^ k*(c.toNat%128)≤128 ^ k*127:=Nat.mul_le_mul_left _ (by omega)
      have:128 ^ k≤128 ^ 8:=Nat.pow_le_pow_right (by omega) (by omega)
      omega)
     rw [←hts] at hor
     clear hts hN
     by_cases h0:0<k∧c.toNat=0
     ·obtain ⟨h0k,h0c⟩:=h0
      have hfin:Hid (get l=none):=get_zero (by omega) hle.out h0k (by rw [hc];exact h0c)
      have h0':((c.toNat:Int)==0)=true:=by simp [h0c]
      have h0h:=Lib.hid h0c
      clear h0c
      go_wp2
      all_goals first | (exfalso;omega) | skip
      go_ret3
      exact ⟨by rw [hfin.out];rfl,0,rfl⟩
     ·have hfin:Hid (get l=some (val7 (l.take (k+1)),k+1)):=get_yes (by omega) hle.out (by omega) (fun _=>by omega) (fun h=>by rw [hc];omega)
      by_cases h0k : ¬ 0<k
      ·by_cases h0c:c.toNat=0
       ·have h0':((c.toNat:Int)==0)=true:=by simp [h0c]
        have h0h:=Lib.hid h0c
        clear h0c h0
        go_wp2
        all_goals first | (exfalso;omega) | skip
        go_quiet (fail)
        go_wp2
        go_ret3
        exact ⟨by rw [hfin.out];rfl,_,rfl⟩
       ·have h0':((c.toNat:Int)==0)=false:=by simp;omega
        go_wp2
        all_goals first | (exfalso;omega) | skip
        go_quiet (fail)
        go_wp2
        go_ret3
        exact ⟨by rw [hfin.out];rfl,_,rfl⟩
      ·have h0':((c.toNat:Int)==0)=false:=by simp;omega
       go_wp2
       all_goals first | (exfalso;omega) | skip
       go_quiet (fail)
       go_wp2
       go_ret3
       exact ⟨by rw [hfin.out];rfl,_,rfl⟩
  ·have hfin:Hid (get l=none):=by
    have h3':=h3.out
    rcases hM3.out with h | h
    ·exact get_ten (by omega)
    ·exact get_end (by omega)
   go_wp2
   all_goals first | (exfalso;omega) | skip
   go_ret3
   exact ⟨by rw [hfin.out];rfl,0,rfl⟩
def zObj : Array Value:=(objC ⟨0,[],[],noId,[],0,[],noId,0,[]⟩ (.slice none 0 0) (.slice none 0 0)).toArray
theorem zBu : Tryz.prog.built 68 []=some zObj:=by kernel_rfl
theorem zAF : zObj.size=72:=by kernel_rfl
theorem zCG : zObj.all (·.oneCell')=true:=by kernel_rfl
theorem zeroObj (W:World):(zeroValue 68).run Tryz.prog W = .ok (.agg zObj) W:=by
 have h:(Tryz.prog.info? 68).map (·.zero)=some (some (.agg zObj)):=by kernel_rfl
 obtain ⟨i,h1,h2⟩:=Option.map_eq_some_iff.1 h
 simp [zeroValue,typeInfo,h1,h2]
theorem zES : (Tryz.prog.info? 68).map (·.size)=some zObj.size:=by rw [zAF];exact szObj
def RdB (w:World) (g:Nat) (r:Rd):Prop:=Blk w g 146 #[.string (B r.1), .bool r.2]
theorem RdB.c0 {w:World} {g:Nat} {r:Rd} (h:RdB w g r):w.cell? ⟨g,0,none⟩=some (.string (B r.1)):=by rw [Blk.cell h];rfl
theorem RdB.c1 {w:World} {g:Nat} {r:Rd} (h:RdB w g r):w.cell? ⟨g,1,none⟩=some (.bool r.2):=by rw [Blk.cell h];rfl
theorem RdB.f {w:World} {g:Nat} {r:Rd} (h:RdB w g r) (i:Nat):w.frozen? ⟨g,i,none⟩=false:=Blk.frozen h i
theorem RdB.bad {w:World} {g:Nat} {r:Rd} (h:RdB w g r):RdB (w.setCell ⟨g,1,none⟩ (.bool true)) g (r.1,true):=Blk.set_ h 1 _
theorem RdB.rest {w:World} {g:Nat} {r:Rd} (h:RdB w g r) (s:Txt):RdB (w.setCell ⟨g,0,none⟩ (.string (B s))) g (s,r.2):=Blk.set_ h 0 _
theorem RdB.drewN {w:World} {g:Nat} {r:Rd} (h:RdB w g r) (n:Nat):RdB (w.drewN n) g r:=Blk.drewN h n
theorem RdB.below {w w':World} {g:Nat} {r:Rd} (h:RdB w g r) (hb:Below w.heap.size w w'):RdB w' g r:=(hb.block g (Blk.lt h)).trans h
theorem zDf {n:Nat} {r:Rd} (h:r.2=true∨r.1.length<n):rBytes n r=([],(r.1,true)):=by unfold rBytes;rw [if_pos h]
theorem rBytes_ok {n:Nat} {r:Rd} (h1:r.2=false) (h:n≤r.1.length):rBytes n r=(r.1.take n,(r.1.drop n,false)):=by unfold rBytes;rw [if_neg (by rw [h1];simp;omega)]
set_option maxRecDepth 100000 in
set_option maxHeartbeats 2000000 in
theorem rb_calls (n:Nat) (r:Rd) (hr:r.1.length≤100000) (hn:n≤100000) (g:Nat) (w:World) (hb:RdB w g r):Calls Tryz.prog 116 #[.pointer (some ⟨g,0,none⟩), .int .i64 n] w fun e w'=>e = .returned (.string (B (rBytes n r).1))∧RdB w' g (rBytes n r).2∧Far [some g] w w':=by
 obtain ⟨s,b⟩:=r
 have c0:=hb.c0
 have c1:=hb.c1
 have f0:=hb.f 0
 have f1:=hb.f 1
 simp only at c0 c1 hr
 cases b with
 | true=>
   rw [zDf (.inl rfl)]
   have hb2:=hb.bad
   have hfar:Far [some g] w (w.setCell ⟨g,1,none⟩ (.bool true)):=(Far.refl _ _).set_ (.inl (by simp)) _
   go_enter Tryz.func116,Tryz.ntmps116
   go_wp2
   go_ret
   exact ⟨rfl,hb2,hfar⟩
 | false=>
   by_cases hlt:s.length<n
   ·have hli:(s.length:Int)<(n:Int):=by omega
    rw [zDf (.inr hlt)]
    have hb2:=hb.bad
    have hfar:Far [some g] w (w.setCell ⟨g,1,none⟩ (.bool true)):=(Far.refl _ _).set_ (.inl (by simp)) _
    go_enter Tryz.func116,Tryz.ntmps116
    go_wp2
    all_goals try (exfalso;omega)
    go_ret
    exact ⟨rfl,hb2,hfar⟩
   ·have hli : ¬ (s.length:Int)<(n:Int):=by omega
    have hle:n≤s.length:=by omega
    have hlei:(n:Int)≤(s.length:Int):=by omega
    rw [rBytes_ok rfl hle]
    have x1:(B s).extract 0 n=B (s.take n):=zEy s n
    have x2:(B s).extract n s.length=B (s.drop n):=zCg s n
    have hb2:=hb.rest (s.drop n)
    have hfar:Far [some g] w (w.setCell ⟨g,0,none⟩ (.string (B (s.drop n)))):=(Far.refl _ _).set_ (.inl (by simp)) _
    go_enter Tryz.func116,Tryz.ntmps116
    go_wp2
    all_goals try (exfalso;omega)
    go_ret
    exact ⟨rfl,hb2,hfar⟩
def takeV (s:Txt):Value:=match takeP s with
 | some (t,q) => .tuple #[.string (B t), .string (B q), .int .i64 0]
 | none => .tuple #[.string (B []), .string (B []), .int .i64 2]
theorem zCp {s t q:Txt} (h:takeP s=some (t,q)):takeV s = .tuple #[.string (B t), .string (B q), .int .i64 0]:=by unfold takeV;rw [h]
theorem zC7 {s:Txt} (h:takeP s=none):takeV s = .tuple #[.string (B []), .string (B []), .int .i64 2]:=by unfold takeV;rw [h]
set_option maxRecDepth 100000 in
set_option maxHeartbeats 800000 in
theorem zEj (s:Txt) (hs:s.length≤4611686018427387904) (w:World):Calls Tryz.prog 78 #[.string (B s)] w fun e w'=>e = .returned (takeV s) ∧ ∃ n,w'=w.drewN n:=by
 have hget:=get_calls s hs w
 obtain ⟨r,hr⟩ : ∃ r,Hid (takeV s=r):=⟨_,Lib.hid rfl⟩
 rw [hr.out]
 cases h:get s with
 | none=>
   rw [h] at hget
   have hget:Calls Tryz.prog 115 #[.string (B s)] w fun e w'=>e = .returned (.tuple #[.int .u64 0, .string (B []), .int .i64 2]) ∧ ∃ n,w'=w.drewN n:=hget
   have hget:=Lib.hid hget
   have hrr:Hid (_=r):=(zC7 (takeP_none h)).symm.trans hr.out
   clear h hr
   go_enter Tryz.func78,Tryz.ntmps78
   go_wp2_with (first
    | ((with_reducible refine hget.out.mono ?_);rintro e w1 ⟨rfl,nq,rfl⟩))
   go_ret3
   exact ⟨by rw [←hrr.out];rfl,nq,rfl⟩
 | some p=>
   obtain ⟨n,k⟩:=p
   rw [h] at hget
   have hget:Calls Tryz.prog 115 #[.string (B s)] w fun e w'=>e = .returned (.tuple #[.int .u64 n, .string (B (s.drop k)), .int .i64 0]) ∧ ∃ n,w'=w.drewN n:=hget
   have hget:=Lib.hid hget
   have hle:(s.drop k).length≤s.length:=by rw [List.length_drop];omega
   by_cases hlt:(s.drop k).length<n
   ·have hrr:Hid (_=r):=(zC7 (takeP_short h hlt)).symm.trans hr.out
    generalize s.drop k=R at *
    have hi:(R.length:Int)<(n:Int):=by omega
    clear h hr
    go_enter Tryz.func78,Tryz.ntmps78
    go_wp2_with (first
     | ((with_reducible refine hget.out.mono ?_);rintro e w1 ⟨rfl,nq,rfl⟩))
    all_goals try (exfalso;omega)
    go_ret3
    exact ⟨by rw [←hrr.out];rfl,nq,rfl⟩
   ·have hrr:Hid (_=r):=(zCp (takeP_yes h (by omega))).symm.trans hr.out
    generalize s.drop k=R at *
    have hi : ¬ (R.length:Int)<(n:Int):=by omega
    have hle2:(n:Int)≤(R.length:Int):=by omega
    have hle3:n≤R.length:=by omega
    have x1:(B R).extract 0 n=B (R.take n):=zEy R n
    have x2:(B R).extract n R.length=B (R.drop n):=zCg R n
    clear h hr
    go_enter Tryz.func78,Tryz.ntmps78
    go_wp2_with (first
     | ((with_reducible refine hget.out.mono ?_);rintro e w1 ⟨rfl,nq,rfl⟩))
    all_goals try (exfalso;omega)
    go_quiet (fail)
    go_wp2
    go_ret3
    exact ⟨by rw [←hrr.out];rfl,_,World.drewN_drewN _ _ _⟩
def takeNV (s:Txt):Value := .tuple #[.string (B (takeN s).1), .int .i64 (takeN s).2]
set_option maxRecDepth 100000 in
set_option maxHeartbeats 800000 in
theorem zAN (s:Txt) (hs:s.length≤4611686018427387904) (w:World):Calls Tryz.prog 137 #[.string (B s)] w fun e w'=>e = .returned (takeNV s)∧w'=w:=by
 have hget:=zCN s hs w
 have hgg:getPair (get s) = .tuple #[.int .u64 (getN s).1, .int .i64 (getN s).2]:=by
  unfold getN
  cases get s<;>rfl
 rw [hgg] at hget
 have hget:=Lib.hid hget
 have hb1:=getN_le s
 have hb2:=getN_num s
 obtain ⟨r,hr⟩ : ∃ r,Hid (takeNV s=r):=⟨_,Lib.hid rfl⟩
 rw [hr.out]
 have hr0 := @takeN_zero s
 have hr1 := @takeN_short s
 have hr2 := @takeN_yes s
 unfold takeNV at hr
 generalize (getN s).1=n at *
 generalize (getN s).2=k at *
 by_cases h0:k=0
 ·have hrr:Hid (_=r):=(by rw [←hr.out,hr0 h0];rfl:Value.tuple #[.string (B []), .int .i64 0]=r)
  have i0:(k:Int)=0:=by omega
  clear hr hr0 hr1 hr2 hgg
  subst h0
  go_enter Tryz.func137,Tryz.ntmps137
  go_wp2_with (first
   | ((with_reducible refine hget.out.mono ?_);rintro e w1 ⟨rfl,rfl⟩))
  all_goals try (exfalso;omega)
  go_ret2
  exact ⟨by rw [←hrr.out];rfl,rfl⟩
 ·have i0 : ¬ (k:Int)=0:=by omega
  have i1:1≤k:=by omega
  have x0:IntKind.u64.wrap ((s.length:Int)-(k:Int))=((s.length-k:Nat):Int):=by
   rw [IntWalk.u64_in _ (by omega)];omega
  by_cases hlt:s.length-k<n
  ·have hrr:Hid (_=r):=(by rw [←hr.out,hr1 h0 hlt];rfl:Value.tuple #[.string (B []), .int .i64 0]=r)
   have hi:((s.length-k:Nat):Int)<(n:Int):=by omega
   have hj:(s.length:Int)-(k:Int)<(n:Int):=by omega
   clear hr hr0 hr1 hr2 hgg h0 hlt x0
   go_enter Tryz.func137,Tryz.ntmps137
   go_wp2_with (first
    | ((with_reducible refine hget.out.mono ?_);rintro e w1 ⟨rfl,rfl⟩))
   all_goals try (exfalso;omega)
   go_ret2
   exact ⟨by rw [←hrr.out];rfl,rfl⟩
  ·have hrr:Hid (_=r):=(by rw [←hr.out,hr2 h0 (by omega)];rfl:Value.tuple #[.string (B ((s.drop k).take n)), .int .i64 ((k:Int)+(n:Int))]=r)
   have hi : ¬ ((s.length-k:Nat):Int)<(n:Int):=by omega
   have hj : ¬ (s.length:Int)-(k:Int)<(n:Int):=by omega
   have y0:k+n≤s.length:=by omega
   have x1:(B s).extract k (k+n)=B ((s.drop k).take n):=by rw [zA3];rw [Nat.add_sub_cancel_left]
   clear hr hr0 hr1 hr2 hgg h0 hlt x0
   go_enter Tryz.func137,Tryz.ntmps137
   go_wp2_with (first
    | ((with_reducible refine hget.out.mono ?_);rintro e w1 ⟨rfl,rfl⟩))
   all_goals try (exfalso;omega)
   go_ret2
   refine ⟨?_,rfl⟩
   rw [←hrr.out]
   show Ending.returned (.tuple #[.string (B ((s.drop k).take (k+n-k))), .int .i64 ((k:Int)+(n:Int))])=_
   rw [Nat.add_sub_cancel_left]
theorem rNum_bad {r:Rd} (h:r.2=true∨get r.1=none):rNum r=(0,(r.1,true)):=by
 unfold rNum
 rcases h with h | h
 ·rw [if_pos h]
 ·split
  ·rfl
  ·rw [h]
theorem rNum_ok {r:Rd} {n k:Nat} (h1:r.2=false) (h:get r.1=some (n,k)):rNum r=(n,(r.1.drop k,false)):=by unfold rNum;rw [if_neg (by rw [h1];simp),h]
theorem rText_bad {r:Rd} (h:r.2=true∨takeP r.1=none):rText r=([],(r.1,true)):=by
 unfold rText
 rcases h with h | h
 ·rw [if_pos h]
 ·split
  ·rfl
  ·rw [h]
theorem rText_ok {r:Rd} {t q:Txt} (h1:r.2=false) (h:takeP r.1=some (t,q)):rText r=(t,(q,false)):=by unfold rText;rw [if_neg (by rw [h1];simp),h]
set_option maxRecDepth 100000 in
set_option maxHeartbeats 2000000 in
theorem rn_calls (r:Rd) (hr:r.1.length≤100000) (g:Nat) (w:World) (hb:RdB w g r):Calls Tryz.prog 120 #[.pointer (some ⟨g,0,none⟩)] w fun e w'=>e = .returned (.int .u64 (rNum r).1)∧RdB w' g (rNum r).2∧Far [some g] w w':=by
 obtain ⟨s,b⟩:=r
 have c0:=hb.c0
 have c1:=hb.c1
 have f0:=hb.f 0
 have f1:=hb.f 1
 simp only at c0 c1 hr
 have hget:=get_calls s (by omega) w
 by_cases hbad:b=true∨get s=none
 ·rw [rNum_bad hbad]
  have hb2:=fun n=>(hb.drewN n).bad
  have hfar : ∀ n,Far [some g] w ((w.drewN n).setCell ⟨g,1,none⟩ (.bool true)):=fun n=>((Far.refl _ _).drewN n).set_ (.inl (by simp)) _
  cases hg:get s with
  | none=>
    rw [hg] at hget
    have hget:Calls Tryz.prog 115 #[.string (B s)] w fun e w'=>e = .returned (.tuple #[.int .u64 0, .string (B []), .int .i64 2]) ∧ ∃ n,w'=w.drewN n:=hget
    have hget:=Lib.hid hget
    clear hbad hg
    cases b
    all_goals
     go_enter Tryz.func120,Tryz.ntmps120
     go_wp2_with (first
      | ((with_reducible refine hget.out.mono ?_);rintro e w1 ⟨rfl,nq,rfl⟩))
     go_ret
     exact ⟨rfl,hb2 nq,hfar nq⟩
  | some p=>
    obtain ⟨n,k⟩:=p
    have hbt:b=true:=by
     rcases hbad with h | h
     ·exact h
     ·rw [hg] at h;cases h
    subst hbt
    rw [hg] at hget
    have hget:Calls Tryz.prog 115 #[.string (B s)] w fun e w'=>e = .returned (.tuple #[.int .u64 n, .string (B (s.drop k)), .int .i64 0]) ∧ ∃ n,w'=w.drewN n:=hget
    have hget:=Lib.hid hget
    clear hbad hg
    go_enter Tryz.func120,Tryz.ntmps120
    go_wp2_with (first
     | ((with_reducible refine hget.out.mono ?_);rintro e w1 ⟨rfl,nq,rfl⟩))
    go_ret
    exact ⟨rfl,hb2 nq,hfar nq⟩
 ·cases b with
  | true=>exact absurd (.inl rfl) hbad
  | false=>
    cases hg:get s with
    | none=>exact absurd (.inr hg) hbad
    | some p=>
      obtain ⟨n,k⟩:=p
      rw [rNum_ok rfl hg]
      rw [hg] at hget
      have hget:Calls Tryz.prog 115 #[.string (B s)] w fun e w'=>e = .returned (.tuple #[.int .u64 n, .string (B (s.drop k)), .int .i64 0]) ∧ ∃ n,w'=w.drewN n:=hget
      have hget:=Lib.hid hget
      have hb2:=fun n=>(hb.drewN n).rest (s.drop k)
      have hfar : ∀ n,Far [some g] w ((w.drewN n).setCell ⟨g,0,none⟩ (.string (B (s.drop k)))):=fun n=>((Far.refl _ _).drewN n).set_ (.inl (by simp)) _
      clear hbad hg
      go_enter Tryz.func120,Tryz.ntmps120
      go_wp2_with (first
       | ((with_reducible refine hget.out.mono ?_);rintro e w1 ⟨rfl,nq,rfl⟩))
      go_ret
      exact ⟨rfl,hb2 nq,hfar nq⟩
set_option maxRecDepth 100000 in
set_option maxHeartbeats 2000000 in
theorem rt_calls (r:Rd) (hr:r.1.length≤100000) (g:Nat) (w:World) (hb:RdB w g r):Calls Tryz.prog 118 #[.pointer (some ⟨g,0,none⟩)] w fun e w'=>e = .returned (.string (B (rText r).1))∧RdB w' g (rText r).2∧Far [some g] w w':=by
 obtain ⟨s,b⟩:=r
 have c0:=hb.c0
 have c1:=hb.c1
 have f0:=hb.f 0
 have f1:=hb.f 1
 simp only at c0 c1 hr
 have htk:=zEj s (by omega) w
 by_cases hbad:b=true∨takeP s=none
 ·rw [rText_bad hbad]
  have hb2:=fun n=>(hb.drewN n).bad
  have hfar : ∀ n,Far [some g] w ((w.drewN n).setCell ⟨g,1,none⟩ (.bool true)):=fun n=>((Far.refl _ _).drewN n).set_ (.inl (by simp)) _
  cases hg:takeP s with
  | none=>
    rw [zC7 hg] at htk
    have htk:=Lib.hid htk
    clear hbad hg
    cases b
    all_goals
     go_enter Tryz.func118,Tryz.ntmps118
     go_wp2_with (first
      | ((with_reducible refine htk.out.mono ?_);rintro e w1 ⟨rfl,nq,rfl⟩))
     go_ret
     exact ⟨rfl,hb2 nq,hfar nq⟩
  | some p=>
    obtain ⟨t,q⟩:=p
    have hbt:b=true:=by
     rcases hbad with h | h
     ·exact h
     ·rw [hg] at h;cases h
    subst hbt
    rw [zCp hg] at htk
    have htk:=Lib.hid htk
    clear hbad hg
    go_enter Tryz.func118,Tryz.ntmps118
    go_wp2_with (first
     | ((with_reducible refine htk.out.mono ?_);rintro e w1 ⟨rfl,nq,rfl⟩))
    go_ret
    exact ⟨rfl,hb2 nq,hfar nq⟩
 ·cases b with
  | true=>exact absurd (.inl rfl) hbad
  | false=>
    cases hg:takeP s with
    | none=>exact absurd (.inr hg) hbad
    | some p=>
      obtain ⟨t,q⟩:=p
      rw [rText_ok rfl hg]
      rw [zCp hg] at htk
      have htk:=Lib.hid htk
      have hb2:=fun n=>(hb.drewN n).rest q
      have hfar : ∀ n,Far [some g] w ((w.drewN n).setCell ⟨g,0,none⟩ (.string (B q))):=fun n=>((Far.refl _ _).drewN n).set_ (.inl (by simp)) _
      clear hbad hg
      go_enter Tryz.func118,Tryz.ntmps118
      go_wp2_with (first
       | ((with_reducible refine htk.out.mono ?_);rintro e w1 ⟨rfl,nq,rfl⟩))
      go_ret
      exact ⟨rfl,hb2 nq,hfar nq⟩
theorem rKind_bad {r:Rd} (h:r.2=true∨r.1.length<1):rKind r=(0,(r.1,true)):=by unfold rKind;rw [zDf h];rfl
theorem rKind_ok {c:UInt8} {q:Txt}:rKind (c::q,false)=(c.toNat,(q,false)):=by unfold rKind;rw [rBytes_ok rfl (by simp)];rfl
set_option maxRecDepth 100000 in
set_option maxHeartbeats 2000000 in
theorem rk_calls (r:Rd) (hr:r.1.length≤100000) (g:Nat) (w:World) (hb:RdB w g r):Calls Tryz.prog 117 #[.pointer (some ⟨g,0,none⟩)] w fun e w'=>e = .returned (.int .i64 (rKind r).1)∧RdB w' g (rKind r).2∧Far [some g] w w':=by
 have hcall:=rb_calls 1 r hr (by omega) g w hb
 by_cases hbad:r.2=true∨r.1.length<1
 ·rw [rKind_bad hbad]
  rw [zDf hbad] at hcall
  have hcall:Calls Tryz.prog 116 #[.pointer (some ⟨g,0,none⟩), .int .i64 1] w fun e w'=>e = .returned (.string (B []))∧RdB w' g (r.1,true)∧Far [some g] w w':=hcall
  have hcall:=Lib.hid hcall
  clear hb hbad
  go_enter Tryz.func117,Tryz.ntmps117
  go_wp2_with (first
   | ((with_reducible refine hcall.out.mono ?_);rintro e w1 ⟨rfl,hb1,hf1⟩
      have c1:w1.cell? ⟨g,1,none⟩=some (.bool true):=hb1.c1))
  go_ret
  exact ⟨rfl,hb1,hf1⟩
 ·obtain ⟨s,b⟩:=r
  cases b with
  | true=>exact absurd (.inl rfl) hbad
  | false=>
    match s,hbad with
    | [],hbad=>exact absurd (.inr (by simp)) hbad
    | c::q,_=>
      rw [rKind_ok]
      rw [rBytes_ok rfl (by simp)] at hcall
      have hcall:Calls Tryz.prog 116 #[.pointer (some ⟨g,0,none⟩), .int .i64 1] w fun e w'=>e = .returned (.string (B [c]))∧RdB w' g (q,false)∧Far [some g] w w':=hcall
      have hcall:=Lib.hid hcall
      have hc0:0≤(c.toNat:Int):=by omega
      have hc1:(c.toNat:Int)<256:=by have:=c.toNat_lt;omega
      clear hb
      go_enter Tryz.func117,Tryz.ntmps117
      go_wp2_with (first
       | ((with_reducible refine hcall.out.mono ?_);rintro e w1 ⟨rfl,hb1,hf1⟩
          have c1:w1.cell? ⟨g,1,none⟩=some (.bool false):=hb1.c1))
      go_ret
      exact ⟨rfl,hb1,hf1⟩
section
theorem ofNat_toNat (n:Nat) (h:n<256):(UInt8.ofNat n).toNat=n:=by simp [Nat.mod_eq_of_lt h]
theorem lead_split : ∀ (i:List UInt8) (c:UInt8) (r:List UInt8),(∀ x∈i,128≤x.toNat)→c.toNat<128→lead (i++c::r)=i.length
 | [],c,r,_,hc=>by rw [List.nil_append,lead,if_neg (by omega)];rfl
 | x::i,c,r,hi,hc=>by
   rw [List.cons_append,lead,if_pos (hi x (by simp)),lead_split i c r (fun y hy=>hi y (by simp [hy])) hc]
   rfl
theorem putF_split (f:Nat) : ∀ n,Fits f n → ∃ (i:List UInt8) (c:UInt8),putF f n=i++[c]∧(∀ x∈i,128≤x.toNat)∧c.toNat<128∧i.length≤f∧val7 (putF f n)=n∧(i≠[]→c.toNat≠0)∧(i.length=f→c.toNat<2):=by
 induction f with
 | zero=>
   intro n h
   have h0:n<2:=by unfold Fits at h;omega
   refine ⟨[],UInt8.ofNat n,rfl,by simp,?_,by simp,?_,by simp,?_⟩
   ·simp;omega
   ·simp [putF,val7];omega
   ·intro _;simp;omega
 | succ f ih=>
   intro n h
   by_cases hn:n<128
   ·rw [zEf _ _ hn]
    refine ⟨[],UInt8.ofNat n,rfl,by simp,?_,by simp,?_,by simp,by simp⟩
    ·simp;omega
    ·simp [val7];omega
   ·obtain ⟨i,c,h1,h2,h3,h4,h5,h6,h7⟩:=ih (n / 128) h.next
    rw [putF_big f n (by omega)]
    refine ⟨UInt8.ofNat (128+n%128)::i,c,by rw [h1];rfl,?_,h3,by simpa using h4,?_,?_,?_⟩
    ·intro x hx
     rcases List.mem_cons.1 hx with rfl | hx
     ·rw [ofNat_toNat _ (by omega)];omega
     ·exact h2 x hx
    ·rw [val7,h5,ofNat_toNat _ (by omega)];omega
    ·intro _
     by_cases hi:i=[]
     ·subst hi
      intro hc
      rw [h1] at h5
      simp [val7] at h5
      omega
     ·exact h6 hi
    ·intro hl
     exact h7 (by simpa using hl)
theorem get_put (n:Nat) (h:n≤18446744073709551615) (r:List UInt8):get (put n++r)=some (n,(put n).length):=by
 obtain ⟨i,c,h1,h2,h3,h4,h5,h6,h7⟩:=putF_split 9 n (Fits.of64 h)
 have hp:put n=i++[c]:=h1
 have hl:lead (put n++r)=i.length:=by rw [hp,List.append_assoc];exact lead_split i c r h2 h3
 have hlen:(put n).length=i.length+1:=by rw [hp];simp
 have hat:(put n++r)[i.length]'(by rw [List.length_append];omega)=c:=by simp [hp]
 have ht:(put n++r).take (i.length+1)=put n:=by rw [←hlen,List.take_left]
 rw [get_yes (e:=i.length) (by rw [List.length_append];omega) hl (by omega) (fun h9=>by rw [hat];have:=h7 h9;omega) (fun h0=>by rw [hat];exact h6 (by intro hi;rw [hi] at h0;simp at h0)),ht,hlen]
 exact congrArg (fun v=>some (v,i.length+1)) h5
def un (s out:List UInt8) (most:Nat):List UInt8×Nat:=unF s.length s out most
theorem unF_fuel : ∀ (fu:Nat) (s out:List UInt8) (most:Nat),s.length≤fu→unF fu s out most=un s out most:=by
 intro fu
 induction fu using Nat.strongRecOn with
 | _ fu ih=>
   intro s out most hs
   cases s with
   | nil=>rw [unF_nil,un,unF_nil]
   | cons c r=>
     obtain ⟨g,rfl⟩ : ∃ g,fu=g+1:=⟨fu-1,by simp at hs;omega⟩
     unfold un
     rw [List.length_cons]
     have hne:c::r≠[]:=by simp
     rw [List.length_cons] at hs
     rcases hrd:rd (c::r) out.length with _ | ⟨n,f,t⟩
     ·rw [unF_bad hne hrd,unF_bad hne hrd]
     ·obtain ⟨_,q2,_⟩:=rd_bounds hrd
      rw [List.length_cons] at q2
      by_cases hb:most-out.length<n
      ·rw [unF_big hne hrd hb,unF_big hne hrd hb]
      ·by_cases hf:f=0
       ·subst hf
        have hd:(t.drop n).length≤t.length:=by rw [List.length_drop];omega
        rw [unF_plain hne hrd (by omega),unF_plain hne hrd (by omega),ih g (by omega) _ _ _ (by omega)]
        by_cases hg:r.length=g
        ·rw [hg,ih g (by omega) _ _ _ (by omega)]
        ·rw [ih r.length (by omega) _ _ _ (by omega)]
       ·rw [unF_far hne hrd hf (by omega),unF_far hne hrd hf (by omega),ih g (by omega) _ _ _ (by omega)]
        by_cases hg:r.length=g
        ·rw [hg,ih g (by omega) _ _ _ (by omega)]
        ·rw [ih r.length (by omega) _ _ _ (by omega)]
section
variable {most n f:Nat} {s out r:List UInt8}
theorem un_big (hs:s≠[]) (h:rd s out.length=some (n,f,r)) (hb:most-out.length<n):un s out most=([],3):=by
 obtain ⟨c,t,rfl⟩ : ∃ c t,s=c::t:=by cases s with
  | nil=>exact absurd rfl hs
  | cons c t=>exact ⟨c,t,rfl⟩
 exact unF_big hs h hb
theorem un_far (hs:s≠[]) (h:rd s out.length=some (n,f,r)) (hf:f≠0) (hb:n≤most-out.length):un s out most=un r (back n f out) most:=by
 obtain ⟨c,t,rfl⟩ : ∃ c t,s=c::t:=by cases s with
  | nil=>exact absurd rfl hs
  | cons c t=>exact ⟨c,t,rfl⟩
 obtain ⟨_,q2,_⟩:=rd_bounds h
 rw [List.length_cons] at q2
 unfold un
 rw [List.length_cons,unF_far hs h hf hb]
 exact unF_fuel _ _ _ _ (by omega)
end
def Leads (e o t:List UInt8):Prop:=
 o.length≤t.length∧(∀ r most,t.length≤most→un (e++r) o most=un r t most) ∧ ∀ r most,o.length≤most→most<t.length→un (e++r) o most=([],3)
theorem Leads.refl (o:List UInt8):Leads [] o o:=⟨Nat.le_refl _,fun r most _=>rfl,fun r most h1 h2=>absurd h2 (by omega)⟩
theorem Leads.trans {e e' o t t':List UInt8} (h:Leads e o t) (h':Leads e' t t'):Leads (e++e') o t':=by
 refine ⟨Nat.le_trans h.1 h'.1,fun r most hm=>?_,fun r most h1 h2=>?_⟩
 ·rw [List.append_assoc,h.2.1 _ _ (Nat.le_trans h'.1 hm),h'.2.1 _ _ hm]
 ·rw [List.append_assoc]
  rcases Nat.lt_or_ge most t.length with hlt | hge
  ·exact h.2.2 _ _ h1 hlt
  ·rw [h.2.1 _ _ hge,h'.2.2 _ _ hge h2]
theorem put_ne (n:Nat) (r:List UInt8):put n++r≠[]:=by
 intro h
 have h1:=congrArg List.length h
 have h2:0<(put n).length:=putF_pos 9 n
 rw [List.length_append,List.length_nil] at h1
 omega
theorem Leads.far (n f:Nat) (o:List UInt8) (h0:4≤n) (h1:2*n+1≤18446744073709551615) (h2:1≤f) (h3:f≤65535) (h4:f≤o.length):Leads (put (2*n+1)++put f) o (back n f o):=by
 have hrd : ∀ r,rd (put (2*n+1)++put f++r) o.length=some (n,f,r):=by
  intro r
  have hg:=get_put (2*n+1) h1 (put f++r)
  rw [←List.append_assoc] at hg
  have hd:(put (2*n+1)++put f++r).drop (put (2*n+1)).length=put f++r:=by rw [List.append_assoc,List.drop_left]
  have hg2:=get_put f (by omega) r
  rw [rd_far hg (by omega) (by rw [hd];exact hg2) (by omega) h2 h3 h4,hd,List.drop_left]
  congr 2
  omega
 have hne : ∀ r,put (2*n+1)++put f++r≠[]:=fun r=>by rw [List.append_assoc];exact put_ne _ _
 have hlen:=back_length n f o
 refine ⟨by omega,fun r most hm=>?_,fun r most hm h5=>?_⟩
 ·rw [un_far (hne r) (hrd r) (by omega) (by omega)]
 ·exact un_big (hne r) (hrd r) (by omega)
end
section
theorem val7_pos : ∀ (i:List UInt8) (c:UInt8),c≠0→c.toNat<128→1≤val7 (i++[c])
 | [],c,h,h1=>by
   have:c.toNat≠0:=fun e=>h (UInt8.toNat_inj.1 e)
   show 1≤c.toNat%128+128*val7 []
   have e:val7 []=0:=rfl
   omega
 | x::i,c,h,h1=>by
   have:=val7_pos i c h h1
   show 1≤x.toNat%128+128*val7 (i++[c])
   omega
theorem putF_of : ∀ (i:List UInt8) (f:Nat) (c:UInt8),(∀ x∈i,128≤x.toNat)→c.toNat<128→(i≠[]→c≠0)→i.length≤f→putF f (val7 (i++[c]))=i++[c]
 | [],f,c,_,h2,_,_=>by
   have e:val7 ([]++[c])=c.toNat:=by
    show c.toNat%128+128*val7 []=_
    have e:val7 []=0:=rfl
    omega
   rw [e,zEf _ _ h2]
   simp
 | x::i,0,c,_,_,_,h4=>by simp at h4
 | x::i,f+1,c,h1,h2,h3,h4=>by
   have hx:=h1 x (by simp)
   have hx2:x.toNat<256:=x.toNat_lt
   have hp:=val7_pos i c (h3 (by simp)) h2
   have e:val7 (x::i++[c])=x.toNat%128+128*val7 (i++[c]):=rfl
   have ih:=putF_of i f c (fun y hy=>h1 y (by simp [hy])) h2 (fun _=>h3 (by simp)) (by simp at h4;omega)
   rw [e,putF_big _ _ (by omega),show (x.toNat%128+128*val7 (i++[c])) / 128=val7 (i++[c]) from by omega,ih,show 128+(x.toNat%128+128*val7 (i++[c]))%128=x.toNat from by omega]
   simp
theorem put_get {l:List UInt8} {n k:Nat} (h:get l=some (n,k)):l.take k=put n∧l=put n++l.drop k:=by
 have key:l.take k=put n:=by
  unfold get at h
  split at h
  ·rename_i hc
   simp only [Option.some.injEq,Prod.mk.injEq] at h
   obtain ⟨rfl,rfl⟩:=h
   obtain ⟨h1,h2,h3,h4⟩:=hc
   have e:l.take (lead l+1)=l.take (lead l)++[l[lead l]]:=by
    rw [List.take_add_one,List.getElem?_eq_getElem h1];rfl
   rw [e]
   unfold put
   refine (putF_of _ 9 _ ?_ (zEl l h1) ?_ (by rw [List.length_take];omega)).symm
   ·intro x hx
    obtain ⟨i,hi,rfl⟩:=List.getElem_of_mem hx
    rw [List.length_take] at hi
    rw [List.getElem_take]
    exact lead_big l i (by omega) (by omega)
   ·intro hne h0
    apply h4
    refine ⟨?_,?_⟩
    ·rcases Nat.eq_zero_or_pos (lead l) with h | h
     ·rw [h] at hne;simp at hne
     ·exact h
    ·rw [getD_lt h1];exact h0
  ·cases h
 exact ⟨key,by rw [←key];exact (List.take_append_drop k l).symm⟩
theorem takeP_text (t r:Txt) (ht:t.length≤18446744073709551615):takeP (textE t++r)=some (t,r):=by
 unfold takeP textE
 rw [List.append_assoc,get_put _ ht]
 simp
theorem zCn {s t r:Txt} (h:takeP s=some (t,r)):s=textE t++r:=by
 unfold takeP at h
 cases hg:get s with
 | none=>rw [hg] at h;cases h
 | some p=>
   obtain ⟨n,k⟩:=p
   rw [hg] at h
   simp only at h
   split at h
   ·rename_i hn
    injection h with h
    injection h with h1 h2
    have h3:=(put_get hg).2
    subst h1;subst h2
    unfold textE
    rw [List.length_take,Nat.min_eq_left hn,List.append_assoc,List.take_append_drop]
    exact h3
   ·cases h
section
variable {r:Rd}
end
theorem zEr (a b:Txt) (n:Nat) (hn:a.length=n):rBytes n (a++b,false)=(a,(b,false)):=by
 unfold rBytes
 rw [if_neg (by simp;omega)]
 subst hn
 simp
theorem rNum_app (n:Nat) (hn:n≤18446744073709551615) (b:Txt):rNum (put n++b,false)=(n,(b,false)):=by
 unfold rNum
 rw [if_neg (by simp)]
 simp only [get_put n hn b]
 simp
theorem rText_app (t b:Txt) (ht:t.length≤18446744073709551615):rText (textE t++b,false)=(t,(b,false)):=by
 unfold rText
 rw [if_neg (by simp)]
 simp only [takeP_text t b ht]
theorem rId_app (i b:Txt) (hi:i.length=32):rId (i++b,false)=(i,(b,false)):=by
 unfold rId
 rw [zEr i b 32 hi]
 have:i≠[]:=by intro e;rw [e] at hi;simp at hi
 simp [idOr,this]
theorem zCv (c:UInt8) (b:Txt):rKind (c::b,false)=(c.toNat,(b,false)):=by
 unfold rKind
 rw [show (c::b:Txt)=[c]++b from rfl,zEr [c] b 1 rfl]
 rfl
theorem zDR {k:Int} (h1:0≤k) (h2:k<256):((byteK k).toNat:Int)=k:=by
 unfold byteK
 rw [zCj _ (by omega)]
 omega
theorem byteK_back (c:UInt8):byteK (c.toNat:Int)=c:=by
 unfold byteK
 have:=c.toNat_lt
 rw [show ((c.toNat:Int)%256).toNat=c.toNat from by omega]
 simp
theorem rEnt_app (e:EntL) (b:Txt) (hk:e.kind=1∨e.kind=2) (hi:e.id.length=32) (hn:e.name.length≤18446744073709551615):rEnt (entE e++b,false)=(e,(b,false)):=by
 unfold rEnt entE
 rw [List.cons_append,List.append_assoc,zCv]
 simp only [rText_app e.name (e.id++b) hn,rId_app e.id b hi]
 have:=zDR (k:=e.kind) (by omega) (by omega)
 rw [this]
theorem rTree_app : ∀ (l:List EntL) (f:Nat) (acc:List EntL),(∀ e∈l,(e.kind=1∨e.kind=2)∧e.id.length=32∧e.name.length≤18446744073709551615)→l.length≤f→rTree f (entsE l,false) acc=(acc++l,([],false))
 | [],0,acc,_,_=>by simp [rTree,entsE]
 | [],f+1,acc,_,_=>by simp [rTree,entsE]
 | e::l,0,acc,_,hf=>by simp at hf
 | e::l,f+1,acc,h,hf=>by
   have h1:=h e (by simp)
   have he:entsE (e::l)=entE e++entsE l:=by simp [entsE]
   have hne:entE e++entsE l≠[]:=by unfold entE;simp
   rw [rTree,he,if_neg (by simp [hne]),rEnt_app e _ h1.1 h1.2.1 h1.2.2]
   simp only
   rw [rTree_app l f _ (fun x hx=>h x (by simp [hx])) (by simp at hf;omega)]
   simp
theorem rPars_app (b:Txt) : ∀ (l:List Txt) (acc:List Txt),(∀ p∈l,p.length=32)→rPars l.length (l.flatten++b,false) acc=(acc++l,(b,false))
 | [],acc,_=>by simp [rPars]
 | p::l,acc,h=>by
   rw [List.length_cons,rPars,if_neg (by simp),List.flatten_cons,List.append_assoc,rId_app p _ (h p (by simp))]
   simp only
   rw [rPars_app b l _ (fun x hx=>h x (by simp [hx]))]
   simp
end
theorem zBi {o:ObjL} (h:commitN o=true):o.tree=noId∧o.pars=[]∧o.time=0∧o.text=[]:=by
 unfold commitN at h;simp at h;exact ⟨h.1.1.1,h.1.1.2,h.1.2,h.2⟩
theorem tag_all {o:ObjL} (h:tagN o=true):o.target=noId∧o.of_=0∧o.name=[]:=by
 unfold tagN at h;simp at h;exact ⟨h.1.1,h.1.2,h.2⟩
theorem entE_pos (e:EntL):1≤(entE e).length:=by unfold entE;simp
theorem entsE_count (l:List EntL):l.length≤(entsE l).length:=by
 induction l with
 | nil=>simp
 | cons e l ih=>
   have:entsE (e::l)=entE e++entsE l:=by simp [entsE]
   have h:=entE_pos e
   rw [this,List.length_append,List.length_cons]
   omega
theorem read_enc (o:ObjL) (hm:mayB o=true) (htr:o.tree.length=32) (hta:o.target.length=32) (he : ∀ e∈o.ents,e.id.length=32) (hp : ∀ p∈o.pars,p.length=32) (htm:o.time<4294967296) (hl:(bodyO o).length≤4096) :
 readO (byteK o.kind).toNat (bodyO o,false)=(o,([],false)):=by
 have ha:=zCZ hm
 unfold aloneB at ha
 rcases zCB hm with hk | hk | hk | hk
 ·rw [hk] at ha
  simp at ha
  obtain ⟨c1,c2,c3,c4⟩:=zBi ha.1.2
  obtain ⟨t1,t2,t3⟩:=tag_all ha.2
  have e1:=zBm ha.1.1
  have hb:bodyO o=o.data:=by unfold bodyO;rw [if_pos hk]
  rw [hb,hk]
  show readO 1 _=_
  unfold readO rBlob
  rw [if_neg (by omega),if_neg (by omega),if_neg (by omega)]
  have:=zEr o.data [] o.data.length rfl
  rw [List.append_nil] at this
  simp only [this]
  obtain ⟨kind,data,ents,tree,pars,time,text,target,of_,name⟩:=o
  simp only at *
  subst hk c1 c2 c3 c4 t1 t2 t3 e1
  rfl
 ·have hf:entsB o.ents=true:=by
   unfold mayB at hm
   rw [if_pos hk] at hm
   simp at hm
   exact hm.2
  rw [hk] at ha
  simp at ha
  obtain ⟨c1,c2,c3,c4⟩:=zBi ha.1.2
  obtain ⟨t1,t2,t3⟩:=tag_all ha.2
  have e1:=zBT ha.1.1
  have hb:bodyO o=entsE o.ents:=by unfold bodyO;rw [if_neg (by omega),if_pos hk]
  rw [hb,hk]
  show readO 2 _=_
  unfold readO rTr
  rw [if_pos rfl]
  have hfine:=(zDT hf).2
  have:=rTree_app o.ents (entsE o.ents).length [] (fun e hx=>⟨(hfine e hx).2,he e hx,by have:=zC6 (hfine e hx).1;omega⟩) (entsE_count _)
  simp only [this,List.nil_append]
  obtain ⟨kind,data,ents,tree,pars,time,text,target,of_,name⟩:=o
  simp only at *
  subst hk c1 c2 c3 c4 t1 t2 t3 e1
  rfl
 ·have hp8:o.pars.length≤8:=by
   unfold mayB at hm
   rw [if_neg (by omega),if_pos hk] at hm
   simp at hm
   exact hm.2
  rw [hk] at ha
  simp at ha
  obtain ⟨t1,t2,t3⟩:=tag_all ha.2
  have e1:=zBT ha.1.1
  have e2:=zBm ha.1.2
  have hb:bodyO o=commitE o:=by unfold bodyO;rw [if_neg (by omega),if_neg (by omega),if_pos hk]
  rw [hb] at hl ⊢
  rw [hk]
  show readO 3 _=_
  unfold readO
  rw [if_neg (by omega),if_pos rfl]
  have htx:o.text.length≤18446744073709551615:=by
   unfold commitE textE at hl
   simp only [List.length_append] at hl
   omega
  have hc:commitE o=o.tree++(put o.pars.length++(o.pars.flatten++(put o.time++(textE o.text++[])))):=by unfold commitE;simp
  rw [hc]
  unfold rCommit
  have b1:badIf (decide (8<o.pars.length)) (o.pars.flatten++(put o.time++(textE o.text++[])),false)=(o.pars.flatten++(put o.time++(textE o.text++[])),false):=by
   unfold badIf;rw [decide_eq_false (by omega)];rfl
  have b2:badIf (decide (4294967295<o.time)) (textE o.text++[],false)=(textE o.text++[],false):=by
   unfold badIf;rw [decide_eq_false (by omega)];rfl
  simp only [rId_app o.tree _ htr,rNum_app o.pars.length (by omega),b1,rPars_app _ o.pars [] hp,rNum_app o.time (by omega),b2,rText_app o.text [] htx,List.nil_append]
  rw [Nat.mod_eq_of_lt htm]
  obtain ⟨kind,data,ents,tree,pars,time,text,target,of_,name⟩:=o
  simp only at *
  subst hk t1 t2 t3 e1 e2
  rfl
 ·have hfn:kindB o.of_=true∧nameB o.name=true:=by
   unfold mayB at hm
   rw [if_neg (by omega),if_neg (by omega),if_pos hk] at hm
   simp at hm
   exact ⟨hm.1.2,hm.2⟩
  rw [hk] at ha
  simp at ha
  obtain ⟨c1,c2,c3,c4⟩:=zBi ha.2
  have e1:=zBT ha.1.1
  have e2:=zBm ha.1.2
  have hb:bodyO o=tagE o:=by unfold bodyO;rw [if_neg (by omega),if_neg (by omega),if_neg (by omega),if_pos hk]
  rw [hb,hk]
  show readO 4 _=_
  unfold readO
  rw [if_neg (by omega),if_neg (by omega),if_pos rfl]
  have hnl:=zC6 hfn.2
  have hof:1≤o.of_∧o.of_≤4:=by
   have:=hfn.1
   unfold kindB at this
   simp at this
   exact this
  have hc:tagE o=byteK o.of_::(o.target++(textE o.name++[])):=by unfold tagE;simp
  rw [hc]
  unfold rTag
  have hbk:=zDR (k:=o.of_) (by omega) (by omega)
  simp only [zCv,rId_app o.target _ hta,rText_app o.name [] (by omega),hbk]
  obtain ⟨kind,data,ents,tree,pars,time,text,target,of_,name⟩:=o
  simp only at *
  subst hk c1 c2 c3 c4 e1 e2
  rfl
theorem dec_enc {o:ObjL} {t:Txt} (h:encO o=some t) (htr:o.tree.length=32) (hta:o.target.length=32) (he : ∀ e∈o.ents,e.id.length=32) (hp : ∀ p∈o.pars,p.length=32) (htm:o.time<4294967296):decO t=some o∧t.length≤4096:=by
 unfold encO at h
 split at h
 ·rename_i hc
  obtain ⟨hm,hl⟩:=hc
  injection h with h
  subst h
  refine ⟨?_,hl⟩
  have hbl:(bodyO o).length≤4096:=by unfold wholeO textE at hl;simp at hl;omega
  unfold wholeO at hl ⊢
  unfold decO
  have ht:=takeP_text (bodyO o) [] (by omega)
  rw [List.append_nil] at ht
  have hr:=read_enc o hm htr hta he hp htm hbl
  simp only [ht]
  rw [if_neg (by omega)]
  simp only [hr,hm]
  simp
 ·cases h
section
section
variable {r:Rd}
theorem zDs {n:Nat} (h:(rBytes n r).2.2=false):r.2=false∧r.1=(rBytes n r).1++(rBytes n r).2.1∧(rBytes n r).1.length=n:=by
 unfold rBytes at *
 split at h
 ·cases h
 ·rename_i hc
  rw [if_neg hc]
  have h1 : ¬ r.2=true:=fun h=>hc (.inl h)
  have h2 : ¬ r.1.length<n:=fun h=>hc (.inr h)
  refine ⟨by simpa using h1,(List.take_append_drop n r.1).symm,?_⟩
  show (r.1.take n).length=n
  rw [List.length_take];omega
theorem rNum_back (h:(rNum r).2.2=false):r.2=false∧r.1=put (rNum r).1++(rNum r).2.1:=by
 unfold rNum at *
 split at h
 ·cases h
 ·rename_i hc
  rw [if_neg hc]
  cases hg:get r.1 with
  | none=>rw [hg] at h;cases h
  | some p=>exact ⟨by simpa using hc,(put_get hg).2⟩
theorem zEb (h:(rText r).2.2=false):r.2=false∧r.1=textE (rText r).1++(rText r).2.1:=by
 unfold rText at *
 split at h
 ·cases h
 ·rename_i hc
  rw [if_neg hc]
  cases hg:takeP r.1 with
  | none=>rw [hg] at h;cases h
  | some p=>exact ⟨by simpa using hc,zCn hg⟩
theorem zE1 (h:(rId r).2.2=false):r.2=false∧r.1=(rId r).1++(rId r).2.1∧(rId r).1.length=32:=by
 have h1:(rBytes 32 r).2.2=false:=h
 obtain ⟨a,b,c⟩:=zDs h1
 have e:(rId r).1=(rBytes 32 r).1:=by
  unfold rId idOr
  rw [if_neg]
  intro e
  rw [e] at c
  simp at c
 exact ⟨a,by rw [e];exact b,by rw [e];exact c⟩
theorem rKind_back (h:(rKind r).2.2=false):r.2=false∧r.1=byteK ((rKind r).1:Int)::(rKind r).2.1∧(rKind r).1<256:=by
 have h1:(rBytes 1 r).2.2=false:=h
 obtain ⟨a,b,c⟩:=zDs h1
 have e:(rKind r).1=((rBytes 1 r).1.headD 0).toNat:=by
  unfold rKind
  rw [if_neg (by rw [h1];simp)]
 have e2:(rKind r).2.1=(rBytes 1 r).2.1:=rfl
 rw [e,e2]
 generalize hb:(rBytes 1 r).1=l at *
 match l,c with
 | [x],_=>
   refine ⟨a,?_,x.toNat_lt⟩
   show _=byteK ((x.toNat:Nat):Int)::_
   rw [byteK_back]
   exact b
theorem rEnt_back (h:(rEnt r).2.2=false):r.2=false∧r.1=entE (rEnt r).1++(rEnt r).2.1∧(rEnt r).1.id.length=32:=by
 have h1:(rId (rText (rKind r).2).2).2.2=false:=h
 obtain ⟨a1,b1,c1⟩:=zE1 h1
 obtain ⟨a2,b2⟩:=zEb a1
 obtain ⟨a3,b3,c3⟩:=rKind_back a2
 refine ⟨a3,?_,c1⟩
 have e:(rEnt r).2.1=(rId (rText (rKind r).2).2).2.1:=rfl
 rw [e]
 show _=byteK ((rKind r).1:Int)::(textE (rText (rKind r).2).1++(rId (rText (rKind r).2).2).1)++_
 rw [List.cons_append,List.append_assoc,←b1,←b2,←b3]
theorem badIf_back {b:Bool} (h:(badIf b r).2=false):b=false∧r.2=false∧badIf b r=r:=by
 cases b with
 | true=>cases h
 | false=>exact ⟨rfl,h,rfl⟩
end
theorem rTree_back : ∀ (f:Nat) (r:Rd) (acc:List EntL),(rTree f r acc).2.2=false→(rTree f r acc).2.1=[]→r.2=false ∧ ∃ l,(rTree f r acc).1=acc++l∧r.1=entsE l ∧ ∀ e∈l,e.id.length=32
 | 0,r,acc,h1,h2=>⟨h1,[],by simp [rTree],h2,fun e he=>by cases he⟩
 | f+1,r,acc,h1,h2=>by
   by_cases hc:r.2=true∨r.1=[]
   ·have e:rTree (f+1) r acc=(acc,r):=by rw [rTree,if_pos hc]
    rw [e] at h1 h2 ⊢
    exact ⟨h1,[],by simp,h2,fun e he=>by cases he⟩
   ·have e:rTree (f+1) r acc=rTree f (rEnt r).2 (acc++[(rEnt r).1]):=by rw [rTree,if_neg hc]
    rw [e] at h1 h2 ⊢
    obtain ⟨a,l,b1,b2,b3⟩:=rTree_back f _ _ h1 h2
    obtain ⟨c1,c2,c3⟩:=rEnt_back a
    refine ⟨c1,(rEnt r).1::l,by rw [b1];simp,?_,?_⟩
    ·rw [c2,b2];simp [entsE]
    ·intro x hx
     rcases List.mem_cons.1 hx with rfl | hx
     ·exact c3
     ·exact b3 x hx
theorem rPars_back : ∀ (n:Nat) (r:Rd) (acc:List Txt),(rPars n r acc).2.2=false→r.2=false ∧ ∃ l,(rPars n r acc).1=acc++l∧r.1=l.flatten++(rPars n r acc).2.1∧l.length=n ∧ ∀ e∈l,e.length=32
 | 0,r,acc,h1=>⟨h1,[],by simp [rPars],rfl,rfl,fun e he=>by cases he⟩
 | n+1,r,acc,h1=>by
   by_cases hc:r.2=true
   ·have e:rPars (n+1) r acc=(acc,r):=by rw [rPars,if_pos hc]
    rw [e] at h1
    rw [h1] at hc
    cases hc
   ·have e:rPars (n+1) r acc=rPars n (rId r).2 (acc++[(rId r).1]):=by rw [rPars,if_neg hc]
    rw [e] at h1 ⊢
    obtain ⟨a,l,b1,b2,b3,b4⟩:=rPars_back n _ _ h1
    obtain ⟨c1,c2,c3⟩:=zE1 a
    refine ⟨c1,(rId r).1::l,by rw [b1];simp,?_,by simp [b3],?_⟩
    ·rw [c2,b2];simp
    ·intro x hx
     rcases List.mem_cons.1 hx with rfl | hx
     ·exact c3
     ·exact b4 x hx
theorem commit_back {r:Rd} {i:Txt×Rd} {n:Nat×Rd} {p:List Txt×Rd} {t:Nat×Rd} {x:Txt×Rd} (hi:i=rId r) (hn:n=rNum i.2) (hp:p=rPars n.1 (badIf (decide (8<n.1)) n.2) []) (ht:t=rNum p.2) (hx:x=rText (badIf (decide (4294967295<t.1)) t.2))
 (h1:x.2.2=false) (h2:x.2.1=[]):r.1=i.1++put p.1.length++p.1.flatten++put t.1++textE x.1∧t.1≤4294967295:=by
 obtain ⟨t1,t2⟩:=zEb (r:=badIf (decide (4294967295<t.1)) t.2) (by rw [←hx];exact h1)
 obtain ⟨t3,t4,t5⟩:=badIf_back t1
 have t3:=of_decide_eq_false t3
 rw [←hx,t5,h2,List.append_nil] at t2
 obtain ⟨n1,n2⟩:=rNum_back (r:=p.2) (by rw [←ht];exact t4)
 rw [←ht,t2] at n2
 obtain ⟨p1,l,p2,p3,p4,_⟩:=rPars_back n.1 (badIf (decide (8<n.1)) n.2) [] (by rw [←hp];exact n1)
 obtain ⟨q1,q2,q3⟩:=badIf_back p1
 rw [←hp,q3,n2] at p3
 rw [←hp] at p2
 obtain ⟨m1,m2⟩:=rNum_back (r:=i.2) (by rw [←hn];exact q2)
 rw [←hn,p3] at m2
 obtain ⟨i1,i2,i3⟩:=zE1 (r:=r) (by rw [←hi];exact m1)
 rw [←hi,m2] at i2
 refine ⟨?_,by omega⟩
 rw [i2,p2,List.nil_append,p4]
 simp only [List.append_assoc]
theorem zC5 (k:Nat) (r:Rd):(readO k r).1.kind=k:=by
 unfold readO
 split
 ·rfl
 ·split
  ·rfl
  ·split<;>rfl
theorem readO_back (k:Nat) (r:Rd) (h1:(readO k r).2.2=false) (h2:(readO k r).2.1=[]) (hm:mayB (readO k r).1=true):r.1=bodyO (readO k r).1:=by
 have hk:=zC5 k r
 unfold readO at *
 split at h1
 ·rename_i h
  subst h
  simp only [if_true] at *
  obtain ⟨_,l,b1,b2,_⟩:=rTree_back _ _ _ h1 h2
  rw [b2]
  have e:(rTr 2 r).1.ents=l:=by show (rTree r.1.length r []).1=l;rw [b1];rfl
  unfold bodyO
  rw [if_neg (by omega),if_pos (by omega),e]
 ·rename_i hn2
  rw [if_neg hn2] at *
  split at h1
  ·rename_i h
   subst h
   simp only [if_true] at *
   have hcb:=commit_back (r:=r) rfl rfl rfl rfl rfl h1 h2
   have e3:(rCommit 3 r).1.time=(rNum (rPars (rNum (rId r).2).1 (badIf (decide (8<(rNum (rId r).2).1)) (rNum (rId r).2).2) []).2).1:=Nat.mod_eq_of_lt (by have:=hcb.2;omega)
   unfold bodyO
   rw [if_neg (by omega),if_neg (by omega),if_pos (by omega)]
   unfold commitE
   rw [e3]
   exact hcb.1
  ·rename_i hn3
   rw [if_neg hn3] at *
   split at h1
   ·rename_i h
    subst h
    simp only [if_true] at *
    obtain ⟨t1,t2⟩:=zEb (r:=(rId (rKind r).2).2) h1
    obtain ⟨i1,i2,i3⟩:=zE1 t1
    obtain ⟨k1,k2,k3⟩:=rKind_back i1
    have hfin:(rText (rId (rKind r).2).2).2.1=[]:=h2
    rw [hfin,List.append_nil] at t2
    rw [t2] at i2
    rw [i2] at k2
    unfold bodyO
    rw [if_neg (by omega),if_neg (by omega),if_neg (by omega),if_pos (by omega)]
    exact k2
   ·rename_i hn4
    rw [if_neg hn4] at *
    obtain ⟨b1,b2,b3⟩:=zDs (n:=r.1.length) (r:=r) h1
    have hfin:(rBytes r.1.length r).2.1=[]:=h2
    rw [hfin,List.append_nil] at b2
    have hk1:=zCB hm
    rw [hk] at hk1
    have hk2:k=1:=by omega
    unfold bodyO
    rw [if_pos (by rw [hk,hk2];rfl)]
    exact b2
theorem rBytes_le (n:Nat) (r:Rd):(rBytes n r).2.1.length≤r.1.length:=by
 unfold rBytes
 split
 ·exact Nat.le_refl _
 ·show (r.1.drop n).length≤_
  rw [List.length_drop];omega
theorem zE0 (r:Rd):(rKind r).2.1.length≤r.1.length:=rBytes_le 1 r
theorem rId_le (r:Rd):(rId r).2.1.length≤r.1.length:=rBytes_le 32 r
theorem rNum_le (r:Rd):(rNum r).2.1.length≤r.1.length:=by
 unfold rNum
 split
 ·exact Nat.le_refl _
 ·split
  ·exact Nat.le_refl _
  ·show (r.1.drop _).length≤_
   rw [List.length_drop];omega
theorem rNum_num (r:Rd):(rNum r).1≤18446744073709551615:=by
 unfold rNum
 split
 ·simp
 ·split
  ·simp
  ·rename_i n k h
   exact (zCl h).1
theorem takeP_le {s t q:Txt} (h:takeP s=some (t,q)):q.length≤s.length:=by
 have:=zCn h
 rw [this]
 simp
theorem rText_le (r:Rd):(rText r).2.1.length≤r.1.length:=by
 unfold rText
 split
 ·exact Nat.le_refl _
 ·split
  ·exact Nat.le_refl _
  ·exact takeP_le (by assumption)
theorem zD0 (b:Bool) (r:Rd):(badIf b r).1=r.1:=by unfold badIf;split<;>rfl
structure Sound (o:ObjL):Prop where
 tree:o.tree.length=32
 target:o.target.length=32
 ents : ∀ e∈o.ents,e.id.length=32
 pars : ∀ p∈o.pars,p.length=32
 time:o.time<4294967296
theorem zAi : noId.length=32:=by simp [noId]
theorem idOr_len {n:Nat} {r:Rd} (hn:n=32):(idOr (rBytes n r).1).length=32:=by
 unfold idOr
 split
 ·exact zAi
 ·rename_i h
  unfold rBytes at *
  split at h
  ·exact absurd rfl h
  ·rename_i hc
   rw [if_neg hc]
   have : ¬ r.1.length<n:=fun h=>hc (.inr h)
   show (r.1.take n).length=32
   rw [List.length_take];omega
theorem rId_len (r:Rd):(rId r).1.length=32:=idOr_len rfl
theorem rTree_sound : ∀ (f:Nat) (r:Rd) (acc:List EntL),(∀ e∈acc,e.id.length=32) → ∀ e∈(rTree f r acc).1,e.id.length=32
 | 0,r,acc,h=>h
 | f+1,r,acc,h=>by
   rw [rTree]
   split
   ·exact h
   ·refine rTree_sound f _ _ ?_
    intro e he
    rcases List.mem_append.1 he with he | he
    ·exact h e he
    ·obtain rfl:=List.mem_singleton.1 he
     exact rId_len _
theorem rPars_sound : ∀ (n:Nat) (r:Rd) (acc:List Txt),(∀ e∈acc,e.length=32) → ∀ e∈(rPars n r acc).1,e.length=32
 | 0,r,acc,h=>h
 | f+1,r,acc,h=>by
   rw [rPars]
   split
   ·exact h
   ·refine rPars_sound f _ _ ?_
    intro e he
    rcases List.mem_append.1 he with he | he
    ·exact h e he
    ·obtain rfl:=List.mem_singleton.1 he
     exact rId_len _
theorem readO_sound (k:Nat) (r:Rd):Sound (readO k r).1:=by
 unfold readO
 split
 ·exact ⟨zAi,zAi,rTree_sound _ _ _ (by simp),(by intro p hp;cases hp),by show 0<_;omega⟩
 ·split
  ·exact ⟨rId_len _,zAi,(by intro p hp;cases hp),rPars_sound _ _ _ (by simp),Nat.mod_lt _ (by omega)⟩
  ·split
   ·exact ⟨zAi,rId_len _,(by intro p hp;cases hp),(by intro p hp;cases hp),by show 0<_;omega⟩
   ·exact ⟨zAi,zAi,(by intro p hp;cases hp),(by intro p hp;cases hp),by show 0<_;omega⟩
theorem zDg {s:Txt} {o:ObjL} (h:decO s=some o):encO o=some s∧Sound o:=by
 unfold decO at h
 match s,h with
 | c::q,h=>
   simp only at h
   split at h
   ·cases h
   ·rename_i hl
    cases ht:takeP q with
    | none=>rw [ht] at h;cases h
    | some p=>
      obtain ⟨t,b⟩:=p
      rw [ht] at h
      simp only at h
      split at h
      ·cases h
      ·rename_i hb
       have hb:b=[]:=by simpa using hb
       subst hb
       split at h
       ·cases h
       ·rename_i hc
        injection h with h
        subst h
        have h1:(readO c.toNat (t,false)).2.2=false:=by
         cases hx:(readO c.toNat (t,false)).2.2
         ·rfl
         ·exact absurd (.inl hx) hc
        have h2:(readO c.toNat (t,false)).2.1=[]:=by
         by_cases hx:(readO c.toNat (t,false)).2.1=[]
         ·exact hx
         ·exact absurd (.inr (.inl hx)) hc
        have h3:mayB (readO c.toNat (t,false)).1=true:=by
         cases hx:mayB (readO c.toNat (t,false)).1
         ·exact absurd (.inr (.inr hx)) hc
         ·rfl
        have hb:=readO_back _ _ h1 h2 h3
        refine ⟨?_,readO_sound _ _⟩
        have hw:wholeO (readO c.toNat (t,false)).1=c::q:=by
         unfold wholeO
         rw [←hb,zC5,byteK_back,zCn ht]
         simp
        unfold encO
        rw [hw,if_pos ⟨h3,by omega⟩]
theorem dec_len {s:Txt} {o:ObjL} (h:decO s=some o):s.length≤4096∧mayB o=true:=by
 have h1:=(zDg h).1
 unfold encO at h1
 split at h1
 ·rename_i hc
  injection h1 with h1
  rw [←h1]
  exact ⟨hc.2,hc.1⟩
 ·cases h1
end
section
section
variable {S T:List (Option Nat)} {w w0 w1 w2 w':World} {g B:Nat} {t:TypeId} {cs:Array Value}
theorem Far.row (h:Far S w w') (hg:some g∈S∨w.heap.size≤g) (cs:Array Value):Far S w (w'.setRow g cs):=
 h.then_ (T:=[some g]) ⟨rfl,rfl,rfl,by simp,fun k _ hn=>setRow_other _ _ _ _ (fun e=>hn (by rw [e];simp))⟩ fun k hk=>by
  simp only [List.mem_singleton,Option.some.injEq] at hk
  exact hk▸hg
theorem Far.low (h:Far S w w1) (hb:Below w.heap.size w1 w2):Far S w w2:=
 ⟨hb.os.trans h.os,hb.tape.trans h.tape,hb.output.trans h.output,Nat.le_trans h.size hb.size,fun k hk hn=>(hb.block k hk).trans (h.block k hk hn)⟩
end
end
theorem bytes_or {n:Nat} (r:Rd):(rBytes n r).1=[]∨(rBytes n r).1.length=n:=by
 unfold rBytes
 split
 ·exact .inl rfl
 ·rename_i h
  refine .inr ?_
  have : ¬ r.1.length<n:=fun e=>h (.inr e)
  show (r.1.take n).length=n
  rw [List.length_take];omega
theorem byteCells_u8s (l:Txt):Lib.byteCells l=(u8s l).toList:=by simp [Lib.byteCells,u8s,u8v]
theorem idOr_some {b:Txt} (h:b.length=32):idOr b=b:=by unfold idOr;rw [if_neg];intro e;rw [e] at h;cases h
theorem copy_id (w:World) {g:Nat} {b:Txt} (hg:Blk w g 53 (u8s noId)) (hb:b=[]∨b.length=32) (ty:TypeId) :
 ∃ v w1,(Builtin.copy_ #[23,9] ty #[.slice (some ⟨g,0,none⟩) 32 32, .string (B b)]).run Tryz.prog w = .ok v w1∧Blk w1 g 53 (u8s (idOr b))∧Far [some g] w w1:=by
 have hz:noId.length=32:=zAi
 rcases hb with rfl | hb
 ·exact ⟨_,_,Lib.run_copy_empty_string (P:=Tryz.prog) w 23 9 ty 5 (some ⟨g,0,none⟩) 32 32 (B []) Tryz.underlying23 (by kernel_rfl) rfl,hg,Far.refl _ _⟩
 ·have h:=Lib.run_copy_row_string (P:=Tryz.prog) w 23 9 ty 5 g 0 32 32 (B b) (u8s noId) 53 Tryz.underlying23 (by kernel_rfl) hg (by rw [size_B,hb];exact Nat.le_refl _) (by rw [size_B,hb,zAh,hz];exact Nat.le_refl _)
  refine ⟨_,_,h,?_,?_⟩
  ·have e:((u8s noId).toList.take 0++Lib.byteCells (B b).data.toList++(u8s noId).toList.drop (0+(B b).size)).toArray=u8s (idOr b):=by
    have hd:(u8s noId).toList.drop (0+(B b).size)=[]:=List.drop_eq_nil_of_le (by rw [u8s_len,size_B,hz,hb];exact Nat.le_refl _)
    rw [idOr_some hb,hd,byteCells_u8s]
    simp [B]
   rw [e]
   exact setRow_heap _ _ _ _ _ _ hg
  ·exact ⟨rfl,rfl,rfl,by simp,fun k _ hn=>setRow_other _ _ _ _ (fun e=>hn (by rw [e];simp))⟩
set_option maxRecDepth 100000 in
set_option maxHeartbeats 2000000 in
theorem zEW (r:Rd) (hr:r.1.length≤100000) (g:Nat) (w:World) (hb:RdB w g r):Calls Tryz.prog 119 #[.pointer (some ⟨g,0,none⟩)] w fun e w'=>e = .returned (.agg (u8s (rId r).1))∧RdB w' g (rId r).2∧Far [some g] w w':=by
 have hlt:g<w.heap.size:=Blk.lt hb
 have z0:u8s noId=(#[.int .u8 0, .int .u8 0, .int .u8 0, .int .u8 0, .int .u8 0, .int .u8 0, .int .u8 0, .int .u8 0, .int .u8 0, .int .u8 0, .int .u8 0, .int .u8 0, .int .u8 0, .int .u8 0, .int .u8 0, .int .u8 0, .int .u8 0, .int .u8 0, .int .u8 0, .int .u8 0, .int .u8 0, .int .u8 0, .int .u8 0, .int .u8 0, .int .u8 0, .int .u8 0, .int .u8 0, .int .u8 0, .int .u8 0, .int .u8 0, .int .u8 0, .int .u8 0]:Array Value):=by kernel_rfl
 obtain ⟨Z,hZ⟩ : ∃ Z,u8s noId=Z:=⟨_,rfl⟩
 have hzv : ∀ W:World,(zeroValue 53).run Tryz.prog W = .ok (.agg Z) W:=fun W=>by
  have h:(Tryz.prog.info? 53).map (·.zero)=some (some (.agg (u8s noId))):=by rw [z0];kernel_rfl
  obtain ⟨i,h1,h2⟩:=Option.map_eq_some_iff.1 h
  rw [←hZ]
  simp [zeroValue,typeInfo,h1,h2]
 obtain ⟨W1,hW1⟩ : ∃ W1,w.alloc (.cells Z 53)=W1:=⟨_,rfl⟩
 have hs1:W1.heap.size=w.heap.size+1:=by rw [←hW1];simp
 obtain ⟨W2,hW2⟩ : ∃ W2,W1.alloc (.cells Z 53)=W2:=⟨_,rfl⟩
 have hx1:Blk W1 w.heap.size 53 Z:=by rw [←hW1];exact Blk.new _ _ _
 have hx2:Blk W2 w.heap.size 53 Z:=by rw [←hW2];exact hx1.alloc _
 have hy2:Blk W2 W1.heap.size 53 Z:=by rw [←hW2];exact Blk.new _ _ _
 have b2:Below w.heap.size w W2:=by rw [←hW2,←hW1];exact ((Below.refl _ _).alloc (Nat.le_refl _) _).alloc (by simp) _
 have hr2:RdB W2.drew g r:=(hb.below b2).drewN 1
 have hcall:Calls Tryz.prog 116 #[.pointer (some ⟨g,0,none⟩), .int .i64 32] W2.drew fun e w'=>e = .returned (.string (B (rBytes 32 r).1))∧RdB w' g (rBytes 32 r).2∧Far [some g] W2.drew w':=rb_calls 32 r hr (by omega) g W2.drew hr2
 have hcall:=Lib.hid hcall
 have hbo:=bytes_or (n:=32) r
 have hid1:(rId r).1=idOr (rBytes 32 r).1:=rfl
 have hid2:(rId r).2=(rBytes 32 r).2:=rfl
 rw [hid1,hid2]
 have hil:=rId_len r
 rw [hid1] at hil
 clear hid1 hid2 hr2 hb hx1
 obtain ⟨BS,hBS⟩ : ∃ BS,(rBytes 32 r).1=BS:=⟨_,rfl⟩
 obtain ⟨R2,hR2⟩ : ∃ R2,(rBytes 32 r).2=R2:=⟨_,rfl⟩
 rw [hBS] at hcall hbo hil ⊢
 rw [hR2] at hcall ⊢
 clear hBS hR2 z0
 have H1:=Lib.hid hs1
 clear hs1
 go_enter Tryz.func119,Tryz.ntmps119
 go_wp2
 have hyd:Blk W2.drew W1.heap.size 53 (u8s noId):=by rw [hZ];exact hy2
 have hxd:Blk W2.drew w.heap.size 53 Z:=hx2
 have hne:some W1.heap.size ∉ [some g]:=by have:=H1.out;simp;omega
 have hne2:some w.heap.size ∉ [some g]:=by simp;omega
 have hlA:w.heap.size≤W1.heap.size:=by have:=H1.out;omega
 have hAN:w.heap.size≠W1.heap.size:=by have:=H1.out;omega
 have b2d:Far [some g] w W2.drew:=Far.of_below b2.drew
 have hzs:Z.size=32:=by rw [←hZ,zAh,zAi]
 have hsI:=sz32
 clear b2 hy2 hx2 H1 hW1 hW2 hZ hzv
 generalize hA:w.heap.size=A at *
 have HA:=Lib.hid hA
 clear hA
 generalize W1.heap.size=N at *
 go_region_with (first
  | ((with_reducible refine hcall.out.mono ?_);rintro e w3 ⟨rfl,hr3,hf3⟩
     obtain ⟨v4,w4,hc4,hy4,hf4⟩:=copy_id w3 (hf3.blk hyd hne) hbo 3
     clear hcall))
 have hx4:Blk w4 A 53 Z:=hf4.blk (hf3.blk hxd hne2) (by simpa using hAN)
 have hr4:RdB w4 g R2:=hf4.blk hr3 (by simp;omega)
 have hsz4:(u8s (idOr BS)).size=32:=by rw [zAh,hil]
 have hone:=u8s_one (idOr BS)
 have hff:Far [some g] w w4:=(b2d.then_ hf3 (fun k h => .inl h)).then_ hf4 (fun k h => .inr (by have:=HA.out;simp at h;omega))
 generalize hcs:u8s (idOr BS)=cs at *
 have HC:=Lib.hid hcs
 clear hcs
 clear hc4 hxd hyd hne hne2 hbo hil
 have hsc:(Tryz.prog.info? 53).map (·.size)=some cs.size:=by rw [hsz4];exact hsI
 go_wp2_with (first
  | (refine wpList_load_row rfl 53 (.tmp 3) rfl N rfl _ _ _ _ hy4 Tryz.underlying53 rfl hsc ?_)
  | (refine wpList_store_row rfl 53 (.tmp 2) (.tmp 8) rfl A cs rfl rfl _ _ hx4 hsc (by rw [hzs,hsz4]) hone ?_))
 exact bodyPost_ret (results_cell_row rfl _ _ A _ _ _ _ rfl (setRow_heap _ _ _ _ _ _ hx4) Tryz.underlying53 rfl hsc) rfl ⟨by rw [HC.out],(by unfold RdB Blk;rw [setRow_other _ _ _ _ (by omega)];exact hr4),hff.row (.inr (by have:=HA.out;omega)) cs⟩
section
section
variable {w:World} {g:Nat} {t:TypeId}
theorem Blk.splice : ∀ (vs:List Value) (o:Nat) (w:World) (pre mid post:List Value),Blk w g t (pre++(mid++post)).toArray→pre.length=o→mid.length=vs.length→Blk (w.setCells g o vs) g t (pre++(vs++post)).toArray
 | [],o,w,pre,mid,post,h,_,hm=>by
   have:mid=[]:=List.length_eq_zero_iff.1 (by simpa using hm)
   subst this
   exact h
 | v::r,o,w,pre,[],post,_,_,hm=>by simp at hm
 | v::r,o,w,pre,m::mid,post,h,hp,hm=>by
   have h1:=h.set_ o v
   have e:(pre++(m::mid++post)).toArray.setIfInBounds o v=((pre++[v])++(mid++post)).toArray:=by
    rw [List.setIfInBounds_toArray]
    congr 1
    rw [List.set_append_right _ _ (by omega),hp,Nat.sub_self]
    simp
   rw [e] at h1
   have h2:=Blk.splice r (o+1) _ (pre++[v]) mid post h1 (by simp [hp]) (by simpa using hm)
   have e2:(pre++[v])++(r++post)=pre++(v::r++post):=by simp
   rwa [e2] at h2
theorem Blk.there {cs:Array Value} (h:Blk w g t cs) {o n:Nat} (hn:o+n≤cs.size):w.there g o n:=fun j hj=>by
 refine ⟨?_,h.frozen _⟩
 rw [h.cell,Array.getElem?_eq_getElem (by omega)]
 rfl
end
end
section
section
variable {w:World} {g:Nat} {o:ObjL} {ve vp:Value}
theorem set_app {a b:List Value} {n i:Nat} {u:Value} (ha:a.length=n) (hi:n≤i):(a++b).set i u=a++b.set (i-n) u:=by rw [List.set_append_right _ _ (by omega),ha]
theorem ObjB.of_set (h:ObjB w g o ve vp) (i:Nat) (u:Value) {o':ObjL} {ve' vp':Value} (he:(objC o ve vp).set i u=objC o' ve' vp') (h1:o'.tree.length=32) (h2:o'.target.length=32):ObjB (w.setCell ⟨g,i,none⟩ u) g o' ve' vp':=by
 refine ⟨?_,h1,h2⟩
 have:=h.blk.set_ i u
 rwa [List.setIfInBounds_toArray,he] at this
theorem ObjB.setData (h:ObjB w g o ve vp) (s:Txt):ObjB (w.setCell ⟨g,1,none⟩ (.string (B s))) g { o with data:=s } ve vp:=h.of_set 1 _ rfl h.tr h.ta
theorem ObjB.setPars (h:ObjB w g o ve vp) (v:Value) (l:List Txt):ObjB (w.setCell ⟨g,35,none⟩ v) g { o with pars:=l } ve v:=h.of_set 35 _ (by
 show _::_::_::((u8s o.tree).toList++_).set 32 _=_
 rw [set_app (by rw [u8s_len,h.tr]) (Nat.le_refl _)];rfl) h.tr h.ta
theorem ObjB.setTime (h:ObjB w g o ve vp) (t:Nat):ObjB (w.setCell ⟨g,36,none⟩ (.int .u32 t)) g { o with time:=t } ve vp:=h.of_set 36 _ (by
 show _::_::_::((u8s o.tree).toList++_).set 33 _=_
 rw [set_app (by rw [u8s_len,h.tr]) (by omega)];rfl) h.tr h.ta
theorem ObjB.setText (h:ObjB w g o ve vp) (s:Txt):ObjB (w.setCell ⟨g,37,none⟩ (.string (B s))) g { o with text:=s } ve vp:=h.of_set 37 _ (by
 show _::_::_::((u8s o.tree).toList++_).set 34 _=_
 rw [set_app (by rw [u8s_len,h.tr]) (by omega)];rfl) h.tr h.ta
theorem ObjB.setOf (h:ObjB w g o ve vp) (n:Int):ObjB (w.setCell ⟨g,70,none⟩ (.int .i64 n)) g { o with of_:=n } ve vp:=h.of_set 70 _ (by
 show _::_::_::((u8s o.tree).toList++_).set 67 _=_
 rw [set_app (by rw [u8s_len,h.tr]) (by omega)]
 show _::_::_::(_++_::_::_::((u8s o.target).toList++_).set 32 _)=_
 rw [set_app (by rw [u8s_len,h.ta]) (by omega)];rfl) h.tr h.ta
theorem ObjB.setName (h:ObjB w g o ve vp) (s:Txt):ObjB (w.setCell ⟨g,71,none⟩ (.string (B s))) g { o with name:=s } ve vp:=h.of_set 71 _ (by
 show _::_::_::((u8s o.tree).toList++_).set 68 _=_
 rw [set_app (by rw [u8s_len,h.tr]) (by omega)]
 show _::_::_::(_++_::_::_::((u8s o.target).toList++_).set 33 _)=_
 rw [set_app (by rw [u8s_len,h.ta]) (by omega)];rfl) h.tr h.ta
theorem ObjB.setTree (h:ObjB w g o ve vp) (t:Txt) (ht:t.length=32):ObjB (w.setCells g 3 (u8s t).toList) g { o with tree:=t } ve vp:=by
 refine ⟨?_,ht,h.ta⟩
 have hb:Blk w g 68 ([.int .i64 o.kind, .string (B o.data),ve]++((u8s o.tree).toList++(vp :: .int .u32 o.time :: .string (B o.text)::((u8s o.target).toList++[.int .i64 o.of_, .string (B o.name)])))).toArray:=h.blk
 exact Blk.splice (u8s t).toList 3 w _ _ _ hb rfl (by rw [u8s_len,u8s_len,h.tr,ht])
theorem objC_split (o:ObjL) (ve vp:Value):objC o ve vp=(.int .i64 o.kind :: .string (B o.data)::ve::((u8s o.tree).toList++[vp, .int .u32 o.time, .string (B o.text)]))++((u8s o.target).toList++[.int .i64 o.of_, .string (B o.name)]):=by
 unfold objC
 simp
theorem ObjB.setTarget (h:ObjB w g o ve vp) (t:Txt) (ht:t.length=32):ObjB (w.setCells g 38 (u8s t).toList) g { o with target:=t } ve vp:=by
 refine ⟨?_,h.tr,ht⟩
 have hb:=h.blk
 rw [objC_split] at hb
 have:=Blk.splice (u8s t).toList 38 w _ _ _ hb (by simp [zAh,h.tr]) (by rw [u8s_len,u8s_len,h.ta,ht])
 rw [objC_split]
 exact this
theorem ObjB.there (h:ObjB w g o ve vp) (i n:Nat) (hn:i+n≤72):w.there g i n:=h.blk.there (by
 rw [List.size_toArray]
 unfold objC
 simp only [List.length_cons,List.length_append,u8s_len,h.tr,h.ta,List.length_nil]
 exact hn)
theorem ObjB.fr (h:ObjB w g o ve vp) (i:Nat):w.frozen? ⟨g,i,none⟩=false:=h.blk.frozen i
theorem ObjB.far {S:List (Option Nat)} {w':World} (h:ObjB w g o ve vp) (hf:Far S w w') (hg:some g ∉ S):ObjB w' g o ve vp:=⟨hf.blk h.blk hg,h.tr,h.ta⟩
end
theorem RdB.far {S:List (Option Nat)} {w w':World} {g:Nat} {r:Rd} (h:RdB w g r) (hf:Far S w w') (hg:some g ∉ S):RdB w' g r:=hf.blk h hg
theorem RdB.set_ {w:World} {g:Nat} {r:Rd} {p:Addr} (h:RdB w g r) (hp:g≠p.block) (u:Value):RdB (w.setCell p u) g r:=Blk.far h hp u
theorem RdB.cells_ {w:World} {g gO:Nat} {r:Rd} (h:RdB w g r) (hp:gO≠g) (vs:List Value) (o:Nat):RdB (w.setCells gO o vs) g r:=h.far (S:=[some gO]) (Far.cells (g:=gO) (.inl (by simp)) vs o _ (Far.refl _ _)) (by simp;omega)
theorem zBt {ops:Array Oper} {rest:List Oper} {a:Act} {w:World} {Q:Exit→Act→World→Prop} {d:Option Tmp} {rt:TypeId} {pos:String} {af:Array Edge} (x y:Operand) (g o:Nat) (u:Txt) (lu:u.length=32) (ht:w.there g o 32)
 (hx:a.eval x = .pointer (some ⟨g,o,none⟩)) (hy:a.eval y = .agg (u8s u)) (h:wpList Tryz.prog ops Q rest (a.put d undef) (w.setCells g o (u8s u).toList)):wpList Tryz.prog ops Q ({ dst:=d,op := .store 53 x y,type:=rt,pos:=pos,after:=af,guard:=none }::rest) a w:=
 wpList_store_mid rfl _ x y rfl g o (u8s u) hx hy (by rw [zAh,lu];exact ht) (by rw [zAh,lu];exact sz32) (u8s_one u) h
abbrev OwnEnts (w:World) (base:Nat) (v:Value) (l:List EntL):Prop:=w.ownsRow base 138 34 v l.length (rowsOf entC l)
structure Been (w:World) (gO gR base:Nat) (o:ObjL) (r:Rd) (ve vp:Value) (w':World):Prop where
 obj:ObjB w' gO o ve vp
 ents:OwnEnts w' base ve o.ents
 pars:OwnIds w' base vp o.pars
 rd:RdB w' gR r
 far:Far [some gO,some gR] w w'
def Did (w:World) (gO gR base:Nat) (x:ObjL×Rd) (w':World):Prop := ∃ ve vp,Been w gO gR base x.1 x.2 ve vp w'
end
section
attribute [local go_sem ↓] ldvI_eq ldvO_eq
set_option maxRecDepth 100000 in
set_option maxHeartbeats 2000000 in
theorem graOf_calls (l:List Txt) (hok : ∀ x∈l,x.length=32) (hbig:l.length≤900000) (v:Value) (w:World) (hv:Ids w v l) :
 Calls Tryz.prog 61 #[v] w fun e w' => ∃ v',e = .returned v'∧OwnIds w' w.heap.size v' (sortU l)∧Below w.heap.size w w':=by
 obtain ⟨W1,hW1⟩ : ∃ W1,w.alloc (.cells #[.slice none 0 0] 120)=W1:=⟨_,rfl⟩
 have n1:Blk W1 w.heap.size 120 #[.slice none 0 0]:=by rw [←hW1];exact Blk.new _ _ _
 have b1:Below w.heap.size w W1:=by rw [←hW1];exact (Below.refl _ _).alloc (Nat.le_refl _) _
 have s1:SetAt W1 w.heap.size w.heap.size (.slice none 0 0) []:=⟨n1,World.ownsRow_nil _ _ _ _,fun x hx=>by simp at hx,List.Pairwise.nil⟩
 have hzi:=zeroIdS
 have hZ32:(u8s noId).size=32:=by rw [zAh];rfl
 have hN:Hid (sortU l=sortU (l.take l.length)):=Lib.hid (by rw [List.take_length])
 generalize u8s noId=Z at *
 have hv0:=hv
 obtain ⟨A,cap,rfl,hcap1,hcap2,hat⟩:=hv
 clear n1
 generalize sortU l=R at *
 go_enter Tryz.func61,Tryz.ntmps61
 go_wp2
 go_loopg [8] l.length (fun f vi wr => ∃ (k:Nat) (vO:Value),vi = .int .i64 k∧k+f=l.length∧SetAt wr w.heap.size w.heap.size vO (sortU (l.take k))∧Below w.heap.size w wr)
 case atStart=>exact ⟨0, .slice none 0 0,rfl,by omega,s1,b1⟩
 case round=>
  clear s1 hW1
  obtain ⟨k,vO,rfl,hkf,hS,hbel⟩:=hrel
  have hbs:=hbel.size
  cases gk with
  | zero=>
    have hki : ¬ (k:Int)<(l.length:Int):=by omega
    obtain rfl:k=l.length:=by omega
    have c0:=hS.c0
    have ho:=hS.own
    rw [←hN.out] at ho
    obtain ⟨A3,c3,rfl⟩:=zAl ho
    clear hat hS
    go_wp2
    go_ret
    exact ⟨_,rfl,ho,hbel⟩
  | succ f=>
    have hki:(k:Int)<(l.length:Int):=by omega
    obtain ⟨ga,oa,rfl,hga,hca⟩:=hat (by omega)
    obtain ⟨x,hx⟩ : ∃ x,l[k]?=some x:=⟨_,List.getElem?_eq_getElem (by omega)⟩
    have hxi:=hok x (List.mem_of_getElem? hx)
    have hl1:(ldvI ⟨ga,oa+k*32,none⟩).run Tryz.prog wr = .ok (.agg (u8s x)) wr:=by
     have hr:=zAc (hca k x hx) hga hbel
     exact zAb (show World.rangeAt wr ga (oa+k*32) (u8s x).toList from hr) hxi
    have hx32:(u8s x).size=32:=by rw [zAh,hxi]
    have hx1:=u8s_one x
    have hle:(sortU (l.take k)).length≤900000:=by have:=zCQ (l.take k);rw [List.length_take] at this;omega
    have hnext:Hid (sortU (l.take (k+1))=insU (sortU (l.take k)) x):=Lib.hid (sortU_more hx)
    have hadd:=fun W (hW:Below wr.heap.size wr W)=>Lib.hid (setAdd_calls (hS.below hW) (Nat.le_trans hbs hW.size) hle x hxi)
    have hvO : ∀ q,vO.ownBlock=some q→w.heap.size≤q:=fun q hq=>(World.ownsRow.lt hS.own q hq).1
    have hld2 : ∀ W g,Blk W g 53 (u8s x)→(ldvI ⟨g,0,none⟩).run Tryz.prog W = .ok (.agg (u8s x)) W:=fun W g h=>zAb (zAk h) hxi
    clear hat hca hx hS hle
    go_wp2_with (first
     | ((with_reducible refine lit_new 53 (.tmp 5) (.tmp 11) (u8s x) 32 sz32 hx32 hx1 _ ?_ ?_ ?_ ?_)
        ·first | exact hZ32 | rfl
        ·rfl
        ·rfl
        intro W2 hb2 hbl2
        have hl2:=hld2 W2 _ hb2
        have ha2:=hadd W2 hbl2)
     | ((with_reducible refine ha2.out.mono ?_);rintro e w3 ⟨rfl,v3,hS3,hf3,_⟩))
    have hb3:Below w.heap.size w w3:=(hbel.trans (hbl2.mono hbs)).trans (hf3.below (Nat.le_trans hbs hbl2.size) fun q hq=>by
     simp only [List.mem_cons,List.not_mem_nil,or_false] at hq
     rcases hq with h | h
     ·injection h with h;omega
     ·exact hvO q h.symm)
    rw [←hnext.out] at hS3
    clear hl1 hl2 hld2 hadd ha2 hb2
    go_roundg f
    case rel=>exact ⟨k+1,v3,by go_num,by omega,hS3,hb3⟩
    case measure=>omega
theorem small_cut {o:ObjL} (h:Small o):Small { o with pars:=[] }:=⟨h.ents,h.names,by simp,h.data,h.text,h.name⟩
end
def StitsOk (l:List StL):Prop := ∀ r∈l,StitOk r
theorem stitK {l:List StL} (h:StitsOk l) : ∀ x∈l,(stitC x).length=33:=fun x hx=>zBe (h x hx)
theorem stitOne (l:List StL) : ∀ u∈rowsOf stitC l,u.oneCell'=true:=zAH fun x _=>zDN x
theorem szStit : (Tryz.prog.info? 112).map (·.size)=some 33:=by kernel_rfl
theorem sizedStit {r:StL} (h:StitOk r):(Tryz.prog.info? 112).map (·.size)=some (stitC r).length:=by rw [zBe h];exact szStit
abbrev Stits (w:World) (v:Value) (l:List StL):Prop:=SliceAt w 33 stitC v l
abbrev zAW (w:World) (base:Nat) (v:Value) (l:List StL):Prop:=w.ownsRow base 112 33 v l.length (rowsOf stitC l)
theorem zAW.refs {w:World} {base:Nat} {v:Value} {l:List StL} (hok:StitsOk l) (h:zAW w base v l):Stits w v l:=SliceAt.of_own (stitK hok) h
theorem zDC {w:World} {g:Nat} {r:StL} (h:Blk w g 112 (stitC r).toArray):w.rangeAt g 0 (stitC r):=by
 have:=zAk h
 rwa [List.toList_toArray] at this
def ldvStit (p:Addr):Sem Value:=loadVar 112 p
theorem ldvStit_eq (p:Addr):loadVar 112 p=ldvStit p:=rfl
theorem run_ldvStit {w:World} {g o:Nat} {x:StL} (h:w.rangeAt g o (stitC x)) (hx:StitOk x):(ldvStit ⟨g,o,none⟩).run Tryz.prog w = .ok (.agg (stitC x).toArray) w:=
 run_loadVar_mid (P:=Tryz.prog) w g o 112 (stitC x) _ h Tryz.underlying112 rfl (sizedStit hx)
theorem zAW.of_row {w:World} {base g cap:Nat} {l:List StL} (hok:StitsOk l) (h:Row w g 112 33 stitC cap l) (hg:base≤g) {n:Nat} (hn:n=l.length):zAW w base (.slice (some ⟨g,0,none⟩) n cap) l:=by
 subst hn
 exact h.own (stitK hok) hg
theorem zStit_cells : zStit.cells.size=33:=rfl
section
attribute [local go_sem ↓] ldvStit_eq ldvI_eq
theorem zC2 {w0 w:World} {f:FuncId} {args:Array Value} {v:Value} (hW:Below w0.heap.size w0 w) (h:Calls Tryz.prog f args w fun e w'=>e = .returned v∧Below w.heap.size w w') :
 Calls Tryz.prog f args w fun e w'=>e = .returned v∧Below w0.heap.size w0 w':=h.mono fun _ _ ⟨he,hb⟩=>⟨he,bthen hW hW.size hb⟩
set_option maxRecDepth 100000 in
set_option maxHeartbeats 4000000 in
theorem bsfStits_calls (l:List StL) (hok:StitsOk l) (hbig:l.length≤1000000) (v:Value) (w:World) (hv:Stits w v l) (f:FuncId) (hf : ∀ (a:Array Value) (W:World),(callFunc f a).run Tryz.prog W = .ok (.enter f a) W) (n:List UInt8) (hn:n.length=32) (cmp:StL→Int)
 (hcl : ∀ (W:World) (x:StL),x∈l→Below w.heap.size w W→Calls Tryz.prog f #[.agg (stitC x).toArray, .agg (u8s n)] W fun e w'=>e = .returned (.int .i64 (cmp x))∧Below W.heap.size W w')
 (p:Nat) (hp:p≤l.length) (hcmp : ∀ i x,l[i]?=some x→(cmp x<0↔i<p)) :
 Calls Tryz.prog 85 #[v, .agg (u8s n), .func (.func f) #[] #[]] w fun e w'=>
  e = .returned (.tuple #[.int .i64 p, .bool (hitAt cmp l p)])∧Below w.heap.size w w':=by
 obtain ⟨A,cap,rfl,hcap1,hcap2,hat⟩:=hv
 have hcmp:=Lib.hid hcmp
 obtain ⟨b,hb⟩ : ∃ b,Hid (b=hitAt cmp l p):=⟨_,Lib.hid rfl⟩
 rw [←hb.out]
 obtain ⟨W1,hW1⟩ : ∃ W1,w.alloc (.cells (u8s n) 53)=W1:=⟨_,rfl⟩
 have hn1:Blk W1 w.heap.size 53 (u8s n):=by rw [←hW1];exact Blk.new _ _ _
 have bW1:Below w.heap.size w W1:=by rw [←hW1];exact (Below.refl _ _).alloc (Nat.le_refl _) _
 have hsI:(Tryz.prog.info? 53).map (·.size)=some (u8s n).toList.length:=by rw [zAO,hn];exact sz32
 obtain ⟨NC,hNC⟩ : ∃ NC,u8s n=NC:=⟨_,rfl⟩
 rw [hNC] at hW1 hn1 hsI hcl ⊢
 clear hNC
 go_enter Tryz.func85,Tryz.ntmps85
 go_wp2
 go_loopw [9,10] (fun vi vj wr => ∃ lo hi:Nat,vi = .int .i64 lo∧vj = .int .i64 hi∧lo≤p∧p≤hi∧hi≤l.length∧Below W1.heap.size W1 wr) (fun vi vj _=>(intOf vj).toNat-(intOf vi).toNat)
 case atStart=>exact ⟨0,l.length,rfl,rfl,by omega,hp,by omega,Below.refl _ _⟩
 case round=>
  obtain ⟨lo,hi,rfl,rfl,hlo,hhi,hle,hbel⟩:=hrel
  clear hW1
  by_cases hlt:lo<hi
  ·have hli:(lo:Int)<(hi:Int):=by omega
   obtain ⟨m,hm⟩ : ∃ m:Nat,Hid (m=(lo+hi) / 2):=⟨_,Lib.hid rfl⟩
   have hm2:((lo:Int)+(hi:Int)) / 2=(m:Int):=by rw [hm.out];omega
   have hml:m<l.length:=by rw [hm.out];omega
   have hmi:(m:Int)<(l.length:Int):=by omega
   have hmlo:lo≤m:=by rw [hm.out];omega
   have hmhi:m<hi:=by rw [hm.out];omega
   obtain ⟨g,o,rfl,hg,hcell⟩:=hat (by omega)
   obtain ⟨x,hx⟩ : ∃ x,l[m]?=some x:=⟨_,List.getElem?_eq_getElem hml⟩
   have hxm:=List.mem_of_getElem? hx
   have hxok:=hok x hxm
   have hxr:=hcell m x hx
   have hc2:=fun W hb=>hcl W x hxm hb
   have hd:=hcmp.out m x hx
   clear hx hcell hat hcl
   go_wp2
   refine zAe (C:=fun W=>Below W1.heap.size W1 W) (by kernel_rfl) (by kernel_rfl) hbel.drew ?_
   repeat
    first
     | ((with_reducible refine zAm ?_ ?_)
        ·(go_simp;done)
        apply Exists.intro
        refine ⟨fun W hW=>?_,?_⟩
        ·have hb0:=bthen bW1 bW1.size hW
         have q0:=run_ldvStit (zAc hxr hg hb0) hxok
         have q1:(ldvI ⟨w.heap.size,0,none⟩).run Tryz.prog W = .ok (.agg NC) W:=by
          have:=run_loadVar_mid (P:=Tryz.prog) W w.heap.size 0 53 NC.toList _ (zAk (hn1.below hW hn1.lt)) Tryz.underlying53 rfl hsI
          rwa [Array.toArray_toList] at this
         have hkeep:=zC2 hW (hc2 W hb0)
         go_simp
         first
          | rfl
          | (with_reducible exact hkeep)
        simp only [Act.put,zA,zB,zC])
     | ((with_reducible refine zAj ?_ ?_)
        ·(first | rfl | (go_simp;done))
        simp only [Act.put,zA,zB,zC])
   with_reducible refine wpQuiet_nil ?_
   intro w5 hW5
   by_cases hneg:cmp x<0
   ·have hmp:m<p:=hd.1 hneg
    clear hd
    go_wp2
    go_roundw
    case rel=>exact ⟨m+1,hi,by go_num,rfl,by omega,hhi,hle,hW5⟩
    case measure=>simp [intOf];omega
   ·have hmp : ¬ m<p:=fun h=>hneg (hd.2 h)
    clear hd
    go_wp2
    go_roundw
    case rel=>exact ⟨lo,m,rfl,by go_num,hlo,by omega,by omega,hW5⟩
    case measure=>simp [intOf];omega
  ·obtain rfl:lo=p:=by omega
   obtain rfl:hi=lo:=by omega
   by_cases hlp:hi<l.length
   ·have hli:(hi:Int)<(l.length:Int):=by omega
    obtain ⟨g,o,rfl,hg,hcell⟩:=hat (by omega)
    obtain ⟨x,hx⟩ : ∃ x,l[hi]?=some x:=⟨_,List.getElem?_eq_getElem hlp⟩
    have hxm:=List.mem_of_getElem? hx
    have hxok:=hok x hxm
    have hxr:=hcell hi x hx
    have hc2:=fun W hb=>hcl W x hxm hb
    have hb':Hid (b=decide (cmp x=0)):=by show _=_;rw [hb.out,hitAt_some hx]
    clear hx hcell hat hb hcl
    go_wp2
    refine zAe (C:=fun W=>Below W1.heap.size W1 W) (by kernel_rfl) (by kernel_rfl) hbel.drew ?_
    repeat
     first
      | ((with_reducible refine zAm ?_ ?_)
         ·(go_simp;done)
         apply Exists.intro
         refine ⟨fun W hW=>?_,?_⟩
         ·have hb0:=bthen bW1 bW1.size hW
          have q0:=run_ldvStit (zAc hxr hg hb0) hxok
          have q1:(ldvI ⟨w.heap.size,0,none⟩).run Tryz.prog W = .ok (.agg NC) W:=by
           have:=run_loadVar_mid (P:=Tryz.prog) W w.heap.size 0 53 NC.toList _ (zAk (hn1.below hW hn1.lt)) Tryz.underlying53 rfl hsI
           rwa [Array.toArray_toList] at this
          have hkeep:=zC2 hW (hc2 W hb0)
          go_simp
          first
           | rfl
           | (with_reducible exact hkeep)
         simp only [Act.put,zA,zB,zC])
      | ((with_reducible refine zAj ?_ ?_)
         ·(first | rfl | (go_simp;done))
         simp only [Act.put,zA,zB,zC])
    with_reducible refine wpQuiet_nil ?_
    intro w5 hW5
    go_wp2
    go_ret2
    exact ⟨by rw [hb'.out];rfl,bthen bW1 bW1.size hW5⟩
   ·have hli : ¬ (hi:Int)<(l.length:Int):=by omega
    have hb':Hid (b=false):=by show _=_;rw [hb.out,hitAt_none (by omega)]
    clear hb hat
    go_wp2
    refine zAe (C:=fun W=>Below W1.heap.size W1 W) (by kernel_rfl) (by kernel_rfl) hbel.drew ?_
    repeat
     first
      | ((with_reducible refine zAm ?_ ?_)
         ·(go_simp;done)
         apply Exists.intro
         refine ⟨fun W hW=>?_,?_⟩
         ·go_simp
          first
           | rfl
         simp only [Act.put,zA,zB,zC])
      | ((with_reducible refine zAj ?_ ?_)
         ·(first | rfl | (go_simp;done))
         simp only [Act.put,zA,zB,zC])
    with_reducible refine wpQuiet_nil ?_
    intro w5 hW5
    go_wp2
    go_ret2
    exact ⟨by rw [hb'.out];rfl,bthen bW1 bW1.size hW5⟩
end
section
attribute [local go_sem ↓] ldvI_eq
set_option maxRecDepth 100000 in
set_option maxHeartbeats 1000000 in
theorem stoPlace1_calls (x:StL) (hx:StitOk x) (n:List UInt8) (hn:n.length=32) (w:World):Calls Tryz.prog 86 #[.agg (stitC x).toArray, .agg (u8s n)] w fun e w'=>e = .returned (.int .i64 (Lib.compareBytes x.id n))∧Below w.heap.size w w':=by
 obtain ⟨W1,hW1⟩ : ∃ W1,w.alloc (.cells (stitC x).toArray 112)=W1:=⟨_,rfl⟩
 have x1:Blk W1 w.heap.size 112 (stitC x).toArray:=by rw [←hW1];exact Blk.new _ _ _
 have b1:Below w.heap.size w W1:=by rw [←hW1];exact (Below.refl _ _).alloc (Nat.le_refl _) _
 obtain ⟨W2,hW2⟩ : ∃ W2,W1.alloc (.cells (u8s n) 53)=W2:=⟨_,rfl⟩
 have bb2:Below W1.heap.size W1 W2:=by rw [←hW2];exact (Below.refl _ _).alloc (Nat.le_refl _) _
 have x2:=x1.below bb2 x1.lt
 have n2:Blk W2 W1.heap.size 53 (u8s n):=by rw [←hW2];exact Blk.new _ _ _
 have b2:=bthen b1 b1.size bb2
 have r1:W2.rangeAt w.heap.size 0 (u8s x.id).toList:=by
  have:=zAk x2
  rw [List.toList_toArray] at this
  exact stitC_id this
 have hc:=fun (W:World) (hW:Below W2.heap.size W2 W)=>zEt x.id n hx.1 hn w.heap.size 0 W1.heap.size 0 W (zAc r1 x2.lt hW) (zAc (zAk n2) n2.lt hW)
 obtain ⟨NC,hNC⟩ : ∃ NC,u8s n=NC:=⟨_,rfl⟩
 obtain ⟨XC,hXC⟩ : ∃ XC,(stitC x).toArray=XC:=⟨_,rfl⟩
 rw [hXC] at hW1 ⊢
 rw [hNC] at hW2 ⊢
 clear hNC hXC x1 x2 n2 r1 bb2
 go_enter Tryz.func86,Tryz.ntmps86
 go_wp2
 refine zAe (C:=fun W=>Below W2.heap.size W2 W) (by kernel_rfl) (by kernel_rfl) (Below.refl _ _).drew ?_
 repeat
  first
   | ((with_reducible refine zAm ?_ ?_)
      ·(go_simp;done)
      apply Exists.intro
      refine ⟨fun W hW=>?_,?_⟩
      ·have hkeep:=(hc W hW).mono fun e w' (h:e = .returned (.int .i64 (Lib.compareBytes x.id n))∧w'=W)=>(⟨h.1,h.2.symm▸hW⟩:e = .returned (.int .i64 (Lib.compareBytes x.id n))∧Below W2.heap.size W2 w')
       go_simp
       first
        | rfl
        | (with_reducible exact hkeep)
      simp only [Act.put,zA,zB,zC])
   | ((with_reducible refine zAj ?_ ?_)
      ·(first | rfl | (go_simp;done))
      simp only [Act.put,zA,zB,zC])
 with_reducible refine wpQuiet_nil ?_
 intro w5 hW5
 go_wp2
 go_ret
 exact ⟨rfl,bthen b2 b2.size hW5⟩
theorem stoPlace1_func (a:Array Value) (W:World):(callFunc 86 a).run Tryz.prog W = .ok (.enter 86 a) W:=by kernel_rfl
end
theorem zDP (w:World) (g vb o:Nat) (cur cv:Array Value) (e ev:TypeId) (hb:Blk w g e cur) (hv:Blk w vb ev cv) (hc:0<cur.size) (hne:vb≠g) (m vc lb cb:Nat) :
 (callFunc 87 #[.slice (some ⟨vb,0,none⟩) m vc, .slice (some ⟨g,o,none⟩) lb cb]).run Tryz.prog w = .ok (.value (.bool false)) w:=by
 have hsz : ∀ w,(Go.sizeOf 112).run Tryz.prog w = .ok 33 w:=fun w=>by
  obtain ⟨i,h1,_,h3,_⟩:=Tryz.stitTy.hi
  simp [sizeOf,typeInfo,h1,h3]
 rw [run_callFunc_extern Tryz.func87 (by kernel_rfl) (by kernel_rfl) (by kernel_rfl) (e:=Extern.SlicesOverlaps.overlaps #[102,102] #[4]) (by kernel_rfl),
  Lib.run_overlaps_apart w 102 4 112 Tryz.underlying102 33 hsz ⟨vb,0,none⟩ ⟨g,o,none⟩ m vc lb cb hne ev e cv.size cur.size (by unfold World.shape?;rw [show w.heap[vb]?=_ from hv]) (by unfold World.shape?;rw [show w.heap[g]?=_ from hb]) (by omega) (hv.frozen _) (hv.frozen _)]
 rfl
set_option maxRecDepth 100000 in
set_option maxHeartbeats 2000000 in
theorem zEJ (l:List StL) (hok:StitsOk l) (w:World) (g cap i vb:Nat) (x:StL) (hx:StitOk x) (hrow:Row w g 112 33 stitC cap l) (hi:i<l.length) (hcap:l.length+1≤cap)
 (hv:Blk w vb 112 (stitC x).toArray) (hne:vb≠g) :
 Calls Tryz.prog 55 #[.slice (some ⟨g,0,none⟩) l.length cap, .int .i64 i, .slice (some ⟨vb,0,none⟩) 1 1] w fun e w'=>
  e = .returned (.slice (some ⟨g,0,none⟩) (l.length+1) cap)∧Row w' g 112 33 stitC cap (l.take i++[x]++l.drop i)∧w.grownBy w' (some g):=by
 have h63:=hrow.top63
 have hdl:(l.drop i).length=l.length-i:=List.length_drop
 have hdk : ∀ y∈l.drop i,(stitC y).length=33:=fun y hy=>stitK hok y (List.mem_of_mem_drop hy)
 have hbi:(0:Int)≤(i:Int)+1:=by omega
 have htn:((i:Int)+1).toNat=i+1:=by omega
 have hz2 : ¬ ((i:Int)=(l.length:Int)):=by omega
 have hil:(i:Int)≤(l.length:Int):=by omega
 have hil1:(i:Int)+1≤(l.length:Int)+1:=by omega
 have hil2:(i:Int)≤(l.length:Int)+1:=by omega
 have mixed:Tryz.prog.follows Departure.mixedOrders=true:=by kernel_rfl
 have hci : ¬ (cap=i):=by omega
 have hci1 : ¬ (cap=i+1):=by omega
 have hnc : ¬ ((cap:Int)<(l.length:Int)+1):=by omega
 have hcn:(l.length:Int)+1≤(cap:Int):=by omega
 have hw1:IntKind.i64.wrap ((i:Int)+1)=(i:Int)+1:=by rw [IntKind.wrap_i64];omega
 have hw2:IntKind.i64.wrap ((l.length:Int)+1)=(l.length:Int)+1:=by rw [IntKind.wrap_i64];omega
 have htl:((l.length:Int)+1).toNat=l.length+1:=by omega
 have hov : ∀ lb cb o,(callFunc 87 #[.slice (some ⟨vb,0,none⟩) 1 1, .slice (some ⟨g,o,none⟩) lb cb]).run Tryz.prog w = .ok (.value (.bool false)) w:=fun lb cb o=>by
  obtain ⟨cur,hb,hs⟩:=hrow.blk
  exact zDP w g vb o cur _ _ _ hb hv (by rw [hs];omega) hne 1 1 lb cb
 have hput:=hrow.drew.put (stitK hok) hdk (i:=i+1) (by omega) (by omega)
 have hcp1 : ∀ ty dc sc,(Builtin.copy_ #[102,102] ty #[.slice (some ⟨g,(i+1)*33,none⟩) (l.length-i) dc, .slice (some ⟨g,i*33,none⟩) (l.length+1-i) sc]).run Tryz.prog w.drew = .ok (goInt ((l.drop i).length:Nat)) (w.drew.setCells g ((i+1)*33) (rowsOf stitC (l.drop i))):=fun ty dc sc=>
  zAZ w.drew _ _ ty 112 g ((i+1)*33) _ dc ⟨g,i*33,none⟩ _ sc _ _ Tryz.underlying102 szStit (by rw [hdl];simp only [Nat.min_def];split<;>omega) (zAz hdk)
   (zAI ((hrow.drew).range_from (stitK hok) i)) ((hrow.drew).there (by rw [zAz hdk,←Nat.add_mul];exact Nat.mul_le_mul_right _ (by omega))) (stitOne _)
 obtain ⟨W1,hW1⟩ : ∃ W1,W1=w.drew.setCells g ((i+1)*33) (rowsOf stitC (l.drop i)):=⟨_,rfl⟩
 have hbel1:w.grownBy W1 (some g):=by rw [hW1];exact zCF (grown_drew (grown_refl' w _)) _ _
 rw [←hW1] at hcp1 hput
 have hv1:Blk W1 vb 112 (stitC x).toArray:=by
  rw [hW1]
  exact hv.drew.setCells_far hne _ _ _
 have hs2:StitsOk (l.take (i+1)++l.drop i++l.drop (i+1+(l.drop i).length)):=by
  intro y hy
  simp only [List.mem_append] at hy
  rcases hy with (hy | hy) | hy
  ·exact hok y (List.mem_of_mem_take hy)
  ·exact hok y (List.mem_of_mem_drop hy)
  ·exact hok y (List.mem_of_mem_drop hy)
 have hset:=hput.set (stitK hs2) (i:=i) (by simp;omega) (zBe hx)
 rw [ins_place hi] at hset
 have hcp2 : ∀ ty dc,(Builtin.copy_ #[102,102] ty #[.slice (some ⟨g,i*33,none⟩) (l.length+1-i) dc, .slice (some ⟨vb,0,none⟩) 1 1]).run Tryz.prog W1 = .ok (goInt (1:Nat)) (W1.setCells g (i*33) (stitC x)):=fun ty dc=>
  zAZ W1 _ _ ty 112 g (i*33) _ dc ⟨vb,0,none⟩ _ 1 _ _ Tryz.underlying102 szStit (by simp only [Nat.min_def];split<;>omega) (by rw [zBe hx])
   (zAI (zDC hv1)) (hput.there (by rw [zBe hx];omega)) (zDN x)
 have hbel2:=zCF hbel1 (i*33) (stitC x)
 clear hput hv hv1 hrow hs2 hdk hW1
 go_enter Tryz.func55,Tryz.ntmps55
 go_wp2_with (simp only [hov])
 go_region_law_o (refine zBW rfl _ _ 102 102 rfl (.slice (some ⟨g,(i+1)*33,none⟩) (l.length-i) (cap-(i+1))) (.slice (some ⟨g,i*33,none⟩) (l.length+1-i) (cap-i)) (by simp [Act.eval,Act.put]) (by simp [Act.eval,Act.put]) (hcp1 _ _ _) ?_)
 go_wp2_with (at_builtin;refine zBx _ rfl _ _ 102 102 rfl _ _ rfl rfl (hcp2 _ _) ?_)
 go_ret
 exact ⟨rfl,hset,hbel2⟩
set_option maxRecDepth 100000 in
set_option maxHeartbeats 500000 in
theorem zEN (l:List StL) (hok:StitsOk l) (hbig:l.length≤1000000) (w:World) (base g cap i vb:Nat) (x:StL) (hx:StitOk x) (hbase:base≤w.heap.size) (hrow:Row w g 112 33 stitC cap l) (hi:i<l.length) (hcap:cap<l.length+1)
 (hv:Blk w vb 112 (stitC x).toArray) :
 Calls Tryz.prog 55 #[.slice (some ⟨g,0,none⟩) l.length cap, .int .i64 i, .slice (some ⟨vb,0,none⟩) 1 1] w fun e w'=>
  ∃ G,e = .returned (.slice (some ⟨w.heap.size,0,none⟩) (l.length+1) G)∧Row w' w.heap.size 112 33 stitC G (l.take i++[x]++l.drop i)∧Below base w w':=by
 have h63:=hrow.top63
 have hle:=hrow.le
 have hgw:=hrow.lt
 have hdl:(l.drop i).length=l.length-i:=List.length_drop
 have htkl:(l.take i).length=i:=by simp;omega
 have hdk : ∀ y∈l.drop i,(stitC y).length=33:=fun y hy=>stitK hok y (List.mem_of_mem_drop hy)
 have htk : ∀ y∈l.take i,(stitC y).length=33:=fun y hy=>stitK hok y (List.mem_of_mem_take hy)
 have hbi:(0:Int)≤(i:Int)+1:=by omega
 have htn:((i:Int)+1).toNat=i+1:=by omega
 have hz2 : ¬ ((i:Int)=(l.length:Int)):=by omega
 have hil:(i:Int)≤(l.length:Int):=by omega
 have hil0:(i:Int)≤(cap:Int):=by omega
 have hil1:(i:Int)+1≤(l.length:Int)+1:=by omega
 have hil2:(i:Int)≤(l.length:Int)+1:=by omega
 have mixed:Tryz.prog.follows Departure.mixedOrders=true:=by kernel_rfl
 have hci : ¬ (cap=i):=by omega
 have hnc:(cap:Int)<(l.length:Int)+1:=by omega
 have hw1:IntKind.i64.wrap ((i:Int)+1)=(i:Int)+1:=by rw [IntKind.wrap_i64];omega
 have hw2:IntKind.i64.wrap ((l.length:Int)+1)=(l.length:Int)+1:=by rw [IntKind.wrap_i64];omega
 have hw3:IntKind.i64.wrap ((l.length:Int)+1-(i:Int))=(l.length:Int)+1-(i:Int):=by rw [IntKind.wrap_i64];omega
 have hkk:(l.length:Int)+1-(i:Int)=((l.length+1-i:Nat):Int):=by omega
 have hik:i+(l.length+1-i)=l.length+1:=by omega
 obtain ⟨i0,hi0,hz0,hzs,hzb⟩:=Tryz.stitTy.hi
 have hold:(Builtin.firstCells i0.size i (.slice (some ⟨g,0,none⟩) i cap)).run Tryz.prog w.drew = .ok (rowsOf stitC (l.take i)).toArray w.drew:=by
  rw [hzs]
  refine run_firstCells_some w.drew 33 i ⟨g,0,none⟩ i cap _ (by rw [zAz htk,htkl]) (zAI ?_)
  have:=(hrow.cut i).drew.range_from htk 0
  rw [Nat.zero_mul,List.drop_zero] at this
  exact this
 have hrz : ∀ ty,(Builtin.append_ #[102,3] ty #[.slice (some ⟨g,0,none⟩) i cap, .int .i64 ((l.length:Int)+1-(i:Int))]).run Tryz.prog w =
  .ok (.slice (some ⟨w.heap.size,0,none⟩) (l.length+1) (grownCap w (l.length+1) cap 112)) (w.drew.alloc (.cells ((rowsOf stitC (l.take i)).toArray++Builtin.zeroCells zStit.cells (l.length+1-i)++Builtin.zeroCells zStit.cells (grownCap w (l.length+1) cap 112-(l.length+1))) 112)):=fun ty=>by
  have h:=Lib.run_append_grow_zeros w 102 3 ty 112 i0 _ .i64 .i64 Tryz.underlying102 Tryz.underlying3 hi0 hz0 (some ⟨g,0,none⟩) i cap (rowsOf stitC (l.take i)) hold (l.length+1-i) (by omega) (by omega) (by omega) (by omega) (by rw [hzb];omega) (by rw [hzb,hik];exact growslice_fits hcap (by omega))
  rw [hik] at h
  rw [hkk]
  exact h
 obtain ⟨G,hG⟩ : ∃ G,G=grownCap w (l.length+1) cap 112:=⟨_,rfl⟩
 have hGn:l.length+1≤G:=by rw [hG];exact grownCap_ge w _ _ _
 have hGt:G≤maxLen:=by rw [hG];exact grownCap_le_maxLen w _ cap _ (by unfold maxLen;omega)
 have hG63:G≤9223372036854775807:=by simpa [maxLen] using hGt
 rw [←hG] at hrz
 have hnew:=Row.of_new (s:=l.take i) (enc:=stitC) (e:=112) (cap:=G) htk w.drew (Builtin.zeroCells zStit.cells (l.length+1-i)++Builtin.zeroCells zStit.cells (G-(l.length+1))) (by
  rw [htkl,Array.size_append,size_zeroCells,size_zeroCells,zStit_cells];omega) (by rw [htkl];omega) hGt
 rw [←Array.append_assoc] at hnew
 have hbel0:Below base w (w.drew.alloc (.cells ((rowsOf stitC (l.take i)).toArray++Builtin.zeroCells zStit.cells (l.length+1-i)++Builtin.zeroCells zStit.cells (G-(l.length+1))) 112)):=(Below.refl _ _).drew.alloc hbase _
 have hoff:Below w.heap.size w (w.drew.alloc (.cells ((rowsOf stitC (l.take i)).toArray++Builtin.zeroCells zStit.cells (l.length+1-i)++Builtin.zeroCells zStit.cells (G-(l.length+1))) 112)):=(Below.refl _ _).drew.alloc (Nat.le_refl _) _
 obtain ⟨W1,hW1⟩ : ∃ W1,W1=w.drew.alloc (.cells ((rowsOf stitC (l.take i)).toArray++Builtin.zeroCells zStit.cells (l.length+1-i)++Builtin.zeroCells zStit.cells (G-(l.length+1))) 112):=⟨_,rfl⟩
 rw [←hW1] at hrz hnew hbel0 hoff
 clear hW1 hG
 have hold1:=hrow.below hoff
 have hv1:=hv.below hoff hv.lt
 obtain ⟨N,hN⟩ : ∃ N,N=w.heap.size:=⟨_,rfl⟩
 have hgN:g≠N:=by omega
 have hbN:base≤N:=by omega
 have hnew':Row W1 N 112 33 stitC G (l.take i):=by rw [hN];exact hnew
 rw [←hN] at hrz ⊢
 clear hnew hoff hold hN
 have hput:=hnew'.put htk (t:=[x]) (fun y hy=>by simp at hy;subst hy;exact zBe hx) (i:=i) (by omega) (by simp;omega)
 have e1:(l.take i).take i=l.take i:=List.take_of_length_le (by omega)
 have e2:(l.take i).drop (i+[x].length)=[]:=List.drop_of_length_le (by simp;omega)
 rw [zAp,e1,e2,List.append_nil] at hput
 have hcp1 : ∀ ty dc,(Builtin.copy_ #[102,102] ty #[.slice (some ⟨N,i*33,none⟩) (l.length+1-i) dc, .slice (some ⟨vb,0,none⟩) 1 1]).run Tryz.prog W1 = .ok (goInt (1:Nat)) (W1.setCells N (i*33) (stitC x)):=fun ty dc=>
  zAZ W1 _ _ ty 112 N (i*33) _ dc ⟨vb,0,none⟩ _ 1 _ _ Tryz.underlying102 szStit (by simp only [Nat.min_def];split<;>omega) (by rw [zBe hx])
   (zAI (zDC hv1)) (hnew'.there (by rw [zBe hx];omega)) (zDN x)
 have hbel1:=zBb (stitC x) (i*33) w W1 hbel0 hbN
 have hold2:Row (W1.setCells N (i*33) (stitC x)) g 112 33 stitC cap l:=by
  obtain ⟨cur,hb,hs⟩:=hold1.blk
  exact ⟨⟨cur,hb.setCells_far hgN _ _ _,hs⟩,fun j y hy=>World.rangeAt_setCells_apart (hold1.at_ j y hy) _ _ _ (.inl hgN),hold1.le,hold1.top⟩
 obtain ⟨W2,hW2⟩ : ∃ W2,W2=W1.setCells N (i*33) (stitC x):=⟨_,rfl⟩
 rw [←hW2] at hcp1 hput hbel1 hold2
 clear hW2 hold1 hv1 hnew' hbel0 hrow hv
 have hk2 : ∀ y∈l.take i++[x],(stitC y).length=33:=by
  intro y hy
  rcases List.mem_append.1 hy with hy | hy
  ·exact htk y hy
  ·simp at hy;subst hy;exact zBe hx
 have hput2:=hput.drew.put hk2 hdk (i:=i+1) (by simp;omega) (by omega)
 have e3:(l.take i++[x]).take (i+1)=l.take i++[x]:=List.take_of_length_le (by simp;omega)
 have e4:(l.take i++[x]).drop (i+1+(l.drop i).length)=[]:=List.drop_of_length_le (by simp;omega)
 rw [e3,e4,List.append_nil] at hput2
 have hcp2 : ∀ ty dc sc,(Builtin.copy_ #[102,102] ty #[.slice (some ⟨N,(i+1)*33,none⟩) (l.length-i) dc, .slice (some ⟨g,i*33,none⟩) (l.length-i) sc]).run Tryz.prog W2.drew = .ok (goInt ((l.drop i).length:Nat)) (W2.drew.setCells N ((i+1)*33) (rowsOf stitC (l.drop i))):=fun ty dc sc=>
  zAZ W2.drew _ _ ty 112 N ((i+1)*33) _ dc ⟨g,i*33,none⟩ _ sc _ _ Tryz.underlying102 szStit (by rw [hdl];simp only [Nat.min_def];split<;>omega) (zAz hdk)
   (zAI (hold2.drew.range_from (stitK hok) i)) (hput.drew.there (by rw [zAz hdk,←Nat.add_mul];exact Nat.mul_le_mul_right _ (by omega))) (stitOne _)
 have hbel2:=zBb (rowsOf stitC (l.drop i)) ((i+1)*33) w W2.drew hbel1.drew hbN
 obtain ⟨W3,hW3⟩ : ∃ W3,W3=W2.drew.setCells N ((i+1)*33) (rowsOf stitC (l.drop i)):=⟨_,rfl⟩
 rw [←hW3] at hcp2 hput2 hbel2
 clear hW3 hput hold2 hk2 hdk htk hbel1 e1 e2 e3 e4 hi0 hz0 hzs hzb hbig hGt hkk hik hdl htkl hgw
 have hGi : ¬ (G=i):=by omega
 have hGim : ¬ (G=i+1):=by omega
 go_enter Tryz.func55,Tryz.ntmps55
 go_wp2_with (first
  | (at_builtin;refine Lib.wpList_append_run _ rfl _ _ _ _ rfl _ _ rfl rfl _ _ (hrz _) ?_)
  | (at_builtin;refine zBx _ rfl _ _ 102 102 rfl _ _ rfl rfl (hcp1 _ _) ?_))
 go_region_law_o (refine zBW rfl _ _ 102 102 rfl (.slice (some ⟨N,(i+1)*33,none⟩) (l.length-i) (G-(i+1))) (.slice (some ⟨g,i*33,none⟩) (l.length-i) (cap-i)) (by simp [Act.eval,Act.put]) (by simp [Act.eval,Act.put]) (hcp2 _ _ _) ?_)
 go_wp2
 go_ret
 exact ⟨G,rfl,hput2,hbel2⟩
theorem stitsOk_ins {l:List StL} (hok:StitsOk l) (i:Nat) {x:StL} (hx:StitOk x):StitsOk (l.take i++[x]++l.drop i):=by
 intro y hy
 simp only [List.mem_append,List.mem_singleton] at hy
 rcases hy with (hy | rfl) | hy
 ·exact hok y (List.mem_of_mem_take hy)
 ·exact hx
 ·exact hok y (List.mem_of_mem_drop hy)
set_option maxRecDepth 100000 in
set_option maxHeartbeats 500000 in
theorem insertStits_end (l:List StL) (hok:StitsOk l) (hbig:l.length≤1000000) (v:Value) (w:World) (base vb:Nat) (x:StL) (hx:StitOk x) (hbase:base≤w.heap.size) (hown:zAW w base v l)
 (hv:Blk w vb 112 (stitC x).toArray) :
 Calls Tryz.prog 55 #[v, .int .i64 (l.length:Nat), .slice (some ⟨vb,0,none⟩) 1 1] w fun e w'=>
  ∃ v',e = .returned v'∧zAW w' base v' (l++[x])∧w.grownBy w' v.ownBlock∧Newer w v v':=by
 have hcap : ∃ A cap,v = .slice A l.length cap∧l.length≤cap∧cap≤9223372036854775807∧(A=none→l.length=0∧cap=0):=by
  rcases Row.of_own (stitK hok) hown with ⟨rfl,rfl⟩ | ⟨g,cap,rfl,hg,hrow⟩
  ·exact ⟨none,0,rfl,by simp,by omega,fun _=>⟨rfl,rfl⟩⟩
  ·exact ⟨_,cap,rfl,hrow.le,hrow.top63,fun h=>by cases h⟩
 obtain ⟨A,cap,rfl,hc1,hc2,hnil⟩:=hcap
 have hlk:=zBe hx
 have hone : ∀ u∈(stitC x).toArray.toList,u.oneCell'=true:=fun u hu=>zDN x u (by simpa using hu)
 have h1:l.length+1≤9223372036854775807:=by omega
 have h2:(l.length+1)*48≤140737488355328:=by omega
 have hlen:l.length≤9223372036854775807:=by omega
 clear hbig
 go_enter Tryz.func55,Tryz.ntmps55
 go_wp2_with (first
  | (at_builtin
     (with_reducible refine zDE (.tmp 23) (.tmp 24) 1 _ Tryz.stitTy hown hv (by rw [List.size_toArray,hlk]) hone h1 h2 hbase ?_ ?_ ?_);rfl;rfl
     intro v' w' hown3 hg3 hnw3))
 all_goals
  go_ret
  have hown4:zAW w' base v' (l++[x]):=by
   unfold zAW
   rw [List.length_append,List.length_singleton,zAo,zAp]
   exact hown3
  first
   | exact ⟨_,rfl,hown4,hg3,hnw3⟩
   | exact ⟨_,rfl,hown4,by cases A<;>exact hg3,by cases A<;>exact hnw3⟩
theorem zEa (l:List StL) (hok:StitsOk l) (hbig:l.length≤1000000) (v:Value) (w:World) (base i vb:Nat) (x:StL) (hx:StitOk x) (hbase:base≤w.heap.size) (hown:zAW w base v l) (hi:i≤l.length)
 (hv:Blk w vb 112 (stitC x).toArray) (hne:v.ownBlock≠some vb) :
 Calls Tryz.prog 55 #[v, .int .i64 i, .slice (some ⟨vb,0,none⟩) 1 1] w fun e w'=>
  ∃ v',e = .returned v'∧zAW w' base v' (l.take i++[x]++l.drop i)∧w.grownBy w' v.ownBlock∧Newer w v v':=by
 rcases Nat.lt_or_ge i l.length with hlt | hge
 ·rcases Row.of_own (stitK hok) hown with ⟨rfl,rfl⟩ | ⟨g,cap,rfl,hg,hrow⟩
  ·simp at hlt
  have hlen:l.length+1=(l.take i++[x]++l.drop i).length:=by simp;omega
  by_cases hcap:l.length+1≤cap
  ·refine (zEJ l hok w g cap i vb x hx hrow hlt hcap hv (fun e=>hne (by rw [e];rfl))).mono ?_
   rintro e w' ⟨rfl,h1,h2⟩
   exact ⟨_,rfl,zAW.of_row (stitsOk_ins hok i hx) h1 hg hlen,h2, .inl rfl⟩
  ·refine (zEN l hok hbig w w.heap.size g cap i vb x hx (Nat.le_refl _) hrow hlt (by omega) hv).mono ?_
   rintro e w' ⟨G,rfl,h1,h2⟩
   exact ⟨_,rfl,zAW.of_row (stitsOk_ins hok i hx) h1 hbase hlen,zDk h2 _, .inr fun k hk=>by simp only [Value.ownBlock,Option.some.injEq] at hk;omega⟩
 ·obtain rfl:i=l.length:=by omega
  rw [List.take_length,List.drop_length,List.append_nil]
  exact insertStits_end l hok hbig v w base vb x hx hbase hown hv
end Go.Proofs.YtbcbmjdmlcldjaaGreatDoor
