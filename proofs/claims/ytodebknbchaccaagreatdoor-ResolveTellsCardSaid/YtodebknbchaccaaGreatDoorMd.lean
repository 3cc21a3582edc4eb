/- Texts of this claim, laid together: Shelf, ShaS, StrId, ShaT, ShaU, ShaV, PkD, PkU, PkV, TxW, Nums, StitCl, StitBs, Cmp, Sto, InsP. -/
import Derived.Test.YtodebknbchaccaaGreatDoorMc
import Derived.Test.YtodebknbchaccaaGreatDoorProg
import Derived.Shelf.Strings.Builder1
import Derived.Shelf.Strings.Builder2
import Derived.Shelf.Strings.OnBuilder
import Derived.Shelf.Small.Strs
import Derived.Shelf.Strings.BuilderF
import Derived.Shelf.Strings.BuilderK
import Derived.Shelf.Strings.Builder2Cap
import Derived.Shelf.Strings.Search1
import Derived.Shelf.Strings.Prefix
import Derived.Shelf.Bits.Mul64
import Derived.Shelf.Strings.Repeat
import Derived.Shelf.Strings.BuilderCap
import Derived.Lib.SliceRun
import Derived.Lib.Bytealg
namespace Go.Proofs
open Go.Shelf
def Tryz.lays156_ren : Go.Shelf.Ren:=⟨fun | 156=>99 | 165=>127 | 166=>60 | 169=>65 | 240=>96 | 241=>149 | 276=>123 | 277=>156 | n=>n,fun | 31=>40 | 9=>9 | 3=>3 | 4=>4 | 0=>0 | 20=>20 | 72=>143 | 76=>146 | 70=>141 | 37=>24 | 75=>145 | 127=>190 | 164=>218 | 5=>5 | 80=>151 | n=>n,fun | n=>n⟩
theorem Tryz.lays156 : Go.Proofs.Lays.n156 Tryz.prog Tryz.lays156_ren:={
 mixed:=by kernel_rfl
 f156:=Tryz.func99.trans (congrArg some (by kernel_rfl))
 f165:=Tryz.func127.trans (congrArg some (by kernel_rfl))
 f166:=Tryz.func60.trans (congrArg some (by kernel_rfl))
 f169:=Tryz.func65.trans (congrArg some (by kernel_rfl))
 f240:=Tryz.func96.trans (congrArg some (by kernel_rfl))
 f241:=Tryz.func149.trans (congrArg some (by kernel_rfl))
 f276:=Tryz.func123.trans (congrArg some (by kernel_rfl))
 f277:=Tryz.func156.trans (congrArg some (by kernel_rfl))
 t0:=Tryz.underlying0
 a0:=Tryz.isAgg0
 z0:=Tryz.sizeOf0
 v0:=Tryz.zeroValue0
 t3:=Tryz.underlying3
 a3:=Tryz.isAgg3
 z3:=Tryz.sizeOf3
 v3:=Tryz.zeroValue3
 t4:=Tryz.underlying4
 a4:=Tryz.isAgg4
 z4:=Tryz.sizeOf4
 v4:=Tryz.zeroValue4
 t9:=Tryz.underlying9
 a9:=Tryz.isAgg9
 z9:=Tryz.sizeOf9
 v9:=Tryz.zeroValue9
 t20:=Tryz.underlying20
 a20:=Tryz.isAgg20
 z20:=Tryz.sizeOf20
 v20:=Tryz.zeroValue20
 t31:=Tryz.underlying40
 a31:=Tryz.isAgg40
 z31:=Tryz.sizeOf40
 v31:=Tryz.zeroValue40
 t37:=Tryz.underlying24
 a37:=Tryz.isAgg24
 z37:=Tryz.sizeOf24
 v37:=Tryz.zeroValue24
 t70:=Tryz.underlying141
 a70:=Tryz.isAgg141
 z70:=Tryz.sizeOf141
 v70:=Tryz.zeroValue141
 t72:=Tryz.underlying143
 a72:=Tryz.isAgg143
 z72:=Tryz.sizeOf143
 v72:=Tryz.zeroValue143
 t75:=Tryz.underlying145
 a75:=Tryz.isAgg145
 z75:=Tryz.sizeOf145
 v75:=Tryz.zeroValue145
 t76:=Tryz.underlying146
 a76:=Tryz.isAgg146
 z76:=Tryz.sizeOf146
 v76:=Tryz.zeroValue146
 t127:=Tryz.underlying190
 a127:=Tryz.isAgg190
 z127:=Tryz.sizeOf190
 v127:=Tryz.zeroValue190
 t164:=Tryz.underlying218
 a164:=Tryz.isAgg218
 z164:=Tryz.sizeOf218
 v164:=Tryz.zeroValue218 }
theorem Tryz.Builder_Extra_156 : Builder.Extra Tryz.prog Tryz.lays156_ren:={
 sizeBuilder:=by kernel_rfl
 liesBuilder:=by kernel_rfl
 t5:=Tryz.underlying5
 a5:=Tryz.isAgg5
 z5:=Tryz.sizeOf5
 v5:=Tryz.zeroValue5
 infoByte:=by kernel_rfl
 cellsByte:=by kernel_rfl
 sizeByte:=by kernel_rfl
 neB5:=by decide }
open Go.RowKit in
theorem Tryz.strings_Join_none (a:Option Addr) (c:Nat) (sep:ByteArray) (w:World) :
 Calls Tryz.prog 99 #[.slice a 0 c, .string sep] w fun e w'=>e = .returned (.string ⟨#[]⟩)∧w'=w:=Any.strings_Join_none Tryz.lays156 Tryz.Builder_Extra_156 a c sep w
open Go.RowKit in
theorem Tryz.strings_Join (bk o c:Nat) (xs:List ByteArray) (sep:ByteArray) (w:World) (hcells : ∀ (j:Nat) x,xs[j]?=some x→w.cell? ⟨bk,o+j,none⟩=some (.string x)) (hbk:bk<w.heap.size) (hN:xs.length≤140737488355328) (hcap:xs.length≤c) (hlen:(Lib.join (xs.map (·.data.toList)) sep.data.toList).length≤140737488355328) :
 Calls Tryz.prog 99 #[.slice (some ⟨bk,o,none⟩) xs.length c, .string sep] w fun e w'=>e = .returned (.string ⟨(Lib.join (xs.map (·.data.toList)) sep.data.toList).toArray⟩)∧Below w.heap.size w w':=Any.strings_Join Tryz.lays156 Tryz.Builder_Extra_156 bk o c xs sep w hcells hbk hN hcap hlen
def Tryz.lays137_ren : Go.Shelf.Ren:=⟨fun | 137=>154 | 217=>158 | 266=>159 | n=>n,fun | 9=>9 | 5=>5 | 3=>3 | n=>n,fun | n=>n⟩
theorem Tryz.lays137 : Go.Proofs.Lays.n137 Tryz.prog Tryz.lays137_ren:={
 mixed:=by kernel_rfl
 f137:=Tryz.func154.trans (congrArg some (by kernel_rfl))
 f217:=Tryz.func158.trans (congrArg some (by kernel_rfl))
 f266:=Tryz.func159.trans (congrArg some (by kernel_rfl))
 t3:=Tryz.underlying3
 a3:=Tryz.isAgg3
 z3:=Tryz.sizeOf3
 v3:=Tryz.zeroValue3
 t5:=Tryz.underlying5
 a5:=Tryz.isAgg5
 z5:=Tryz.sizeOf5
 v5:=Tryz.zeroValue5
 t9:=Tryz.underlying9
 a9:=Tryz.isAgg9
 z9:=Tryz.sizeOf9
 v9:=Tryz.zeroValue9 }
open Go.RowKit in
theorem Tryz.strings_IndexByte (s:ByteArray) (c:Int) (w:World) :
 Calls Tryz.prog 154 #[.string s, .int .u8 c] w fun e w'=>e = .returned (.int .i64 (Lib.indexByte s.data.toList c.toNat.toUInt8))∧w'=w:=Any.strings_IndexByte Tryz.lays137 s c w
def Tryz.lays105_ren : Go.Shelf.Ren:=⟨fun | 105=>100 | 212=>128 | 99=>129 | 165=>127 | 166=>60 | 170=>67 | 169=>65 | 263=>150 | 264=>151 | 206=>152 | 240=>96 | 241=>149 | 276=>123 | 277=>156 | n=>n,fun | 9=>9 | 3=>3 | 4=>4 | 20=>20 | 0=>0 | 46=>127 | 109=>224 | 5=>5 | 72=>143 | 76=>146 | 51=>72 | 146=>242 | 53=>115 | 148=>244 | 70=>141 | 37=>24 | 75=>145 | 127=>190 | 164=>218 | 80=>151 | n=>n,fun | n=>n⟩
theorem Tryz.lays105 : Go.Proofs.Lays.n105 Tryz.prog Tryz.lays105_ren:={
 mixed:=by kernel_rfl
 f99:=Tryz.func129.trans (congrArg some (by kernel_rfl))
 f105:=Tryz.func100.trans (congrArg some (by kernel_rfl))
 f165:=Tryz.func127.trans (congrArg some (by kernel_rfl))
 f166:=Tryz.func60.trans (congrArg some (by kernel_rfl))
 f169:=Tryz.func65.trans (congrArg some (by kernel_rfl))
 f170:=Tryz.func67.trans (congrArg some (by kernel_rfl))
 f206:=Tryz.func152.trans (congrArg some (by kernel_rfl))
 f212:=Tryz.func128.trans (congrArg some (by kernel_rfl))
 f240:=Tryz.func96.trans (congrArg some (by kernel_rfl))
 f241:=Tryz.func149.trans (congrArg some (by kernel_rfl))
 f263:=Tryz.func150.trans (congrArg some (by kernel_rfl))
 f264:=Tryz.func151.trans (congrArg some (by kernel_rfl))
 f276:=Tryz.func123.trans (congrArg some (by kernel_rfl))
 f277:=Tryz.func156.trans (congrArg some (by kernel_rfl))
 t0:=Tryz.underlying0
 a0:=Tryz.isAgg0
 z0:=Tryz.sizeOf0
 v0:=Tryz.zeroValue0
 t3:=Tryz.underlying3
 a3:=Tryz.isAgg3
 z3:=Tryz.sizeOf3
 v3:=Tryz.zeroValue3
 t4:=Tryz.underlying4
 a4:=Tryz.isAgg4
 z4:=Tryz.sizeOf4
 v4:=Tryz.zeroValue4
 t5:=Tryz.underlying5
 a5:=Tryz.isAgg5
 z5:=Tryz.sizeOf5
 v5:=Tryz.zeroValue5
 t9:=Tryz.underlying9
 a9:=Tryz.isAgg9
 z9:=Tryz.sizeOf9
 v9:=Tryz.zeroValue9
 t20:=Tryz.underlying20
 a20:=Tryz.isAgg20
 z20:=Tryz.sizeOf20
 v20:=Tryz.zeroValue20
 t37:=Tryz.underlying24
 a37:=Tryz.isAgg24
 z37:=Tryz.sizeOf24
 v37:=Tryz.zeroValue24
 t46:=Tryz.underlying127
 a46:=Tryz.isAgg127
 z46:=Tryz.sizeOf127
 v46:=Tryz.zeroValue127
 t51:=Tryz.underlying72
 a51:=Tryz.isAgg72
 z51:=Tryz.sizeOf72
 v51:=Tryz.zeroValue72
 t53:=Tryz.underlying115
 a53:=Tryz.isAgg115
 z53:=Tryz.sizeOf115
 v53:=Tryz.zeroValue115
 t70:=Tryz.underlying141
 a70:=Tryz.isAgg141
 z70:=Tryz.sizeOf141
 v70:=Tryz.zeroValue141
 t72:=Tryz.underlying143
 a72:=Tryz.isAgg143
 z72:=Tryz.sizeOf143
 v72:=Tryz.zeroValue143
 t75:=Tryz.underlying145
 a75:=Tryz.isAgg145
 z75:=Tryz.sizeOf145
 v75:=Tryz.zeroValue145
 t76:=Tryz.underlying146
 a76:=Tryz.isAgg146
 z76:=Tryz.sizeOf146
 v76:=Tryz.zeroValue146
 t109:=Tryz.underlying224
 a109:=Tryz.isAgg224
 z109:=Tryz.sizeOf224
 v109:=Tryz.zeroValue224
 t127:=Tryz.underlying190
 a127:=Tryz.isAgg190
 z127:=Tryz.sizeOf190
 v127:=Tryz.zeroValue190
 t146:=Tryz.underlying242
 a146:=Tryz.isAgg242
 z146:=Tryz.sizeOf242
 v146:=Tryz.zeroValue242
 t148:=Tryz.underlying244
 a148:=Tryz.isAgg244
 z148:=Tryz.sizeOf244
 v148:=Tryz.zeroValue244
 t164:=Tryz.underlying218
 a164:=Tryz.isAgg218
 z164:=Tryz.sizeOf218
 v164:=Tryz.zeroValue218 }
theorem Tryz.Builder_Extra_105 : Builder.Extra Tryz.prog Tryz.lays105_ren:={
 sizeBuilder:=by kernel_rfl
 liesBuilder:=by kernel_rfl
 t5:=Tryz.underlying5
 a5:=Tryz.isAgg5
 z5:=Tryz.sizeOf5
 v5:=Tryz.zeroValue5
 infoByte:=by kernel_rfl
 cellsByte:=by kernel_rfl
 sizeByte:=by kernel_rfl
 neB5:=by decide }
open Go.RowKit Go.Lib in
theorem Tryz.strings_Repeat (s:ByteArray) (c:Nat) (w:World) (hc:c≤9223372036854775807) (hlen:s.size*c≤140737488355328) :
 Calls Tryz.prog 100 #[.string s, .int .i64 c] w fun e w'=>e = .returned (.string ⟨(Lib.repeatL s.data.toList c).toArray⟩)∧Below w.heap.size w w':=Any.strings_Repeat Tryz.lays105 Tryz.Builder_Extra_105 s c w hc hlen
end Go.Proofs
namespace Go.Proofs.YtodebknbchaccaaGreatDoor
open Go.RowKit
section
attribute [local go_sem ↓] Go.wp_at_zero Go.wp_at_succ
def Strs (w:World) (v:Value) (ls:List (List UInt8)):Prop:=
 (ls=[] ∧ ∃ a c,v = .slice a 0 c) ∨
 ∃ bk o c,v = .slice (some ⟨bk,o,none⟩) ls.length c∧(∀ (j:Nat) l,ls[j]?=some l→w.cell? ⟨bk,o+j,none⟩=some (.string (B l)))∧bk<w.heap.size∧ls.length≤c∧ls.length≤140737488355328
theorem Strs.below {w w':World} {v:Value} {ls:List (List UInt8)} (h:Strs w v ls) (hb:Below w.heap.size w w'):Strs w' v ls:=by
 rcases h with h | ⟨bk,o,c,h1,h2,h3,h4,h5⟩
 ·exact .inl h
 ·exact .inr ⟨bk,o,c,h1,fun j l hj=>(hb.cell (p:=⟨bk,o+j,none⟩) h3).trans (h2 j l hj),Nat.lt_of_lt_of_le h3 hb.size,h4,h5⟩
theorem zDR (ls:List (List UInt8)):Lib.join ls []=ls.flatten:=by
 have : ∀ l:List (List UInt8),(l.intersperse []).flatten=l.flatten:=by
  intro l
  induction l with
  | nil=>rfl
  | cons a r ih=>
    cases r with
    | nil=>rfl
    | cons b r=>rw [List.intersperse_cons_cons,List.flatten_cons,List.flatten_cons,ih];rfl
 exact this ls
theorem join_calls (ls:List (List UInt8)) (v:Value) (w:World) (hv:Strs w v ls) (hlen:ls.flatten.length≤140737488355328) :
 Calls Tryz.prog 99 #[v, .string ⟨#[]⟩] w fun e w'=>e = .returned (.string (B ls.flatten))∧Below w.heap.size w w':=by
 rcases hv with ⟨rfl,a,c,rfl⟩ | ⟨bk,o,c,rfl,h1,h2,h3,h4⟩
 ·exact (Tryz.strings_Join_none a c ⟨#[]⟩ w).mono fun e w' h=>⟨h.1,h.2▸Below.refl _ _⟩
 ·have hm:(ls.map B).map (·.data.toList)=ls:=by simp [List.map_map,Function.comp_def,B]
  have:=Tryz.strings_Join bk o c (ls.map B) ⟨#[]⟩ w (fun j x hj=>by
   rw [List.getElem?_map] at hj
   obtain ⟨l,hl,rfl⟩:=Option.map_eq_some_iff.1 hj
   exact h1 j l hl) h2 (by simpa using h4) (by simpa using h3) (by rw [hm,zDR];exact hlen)
  rw [List.length_map,hm,zDR] at this
  exact this
theorem repeat_zeros (n:Nat):Lib.repeatL [0] n=List.replicate n 0:=by
 induction n with
 | zero=>rfl
 | succ n ih=>rw [Lib.repeatL,ih,List.replicate_succ];rfl
theorem zeros_calls (n:Nat) (hn:n≤64) (w:World) :
 Calls Tryz.prog 100 #[.string ⟨#[0]⟩, .int .i64 n] w fun e w'=>e = .returned (.string (B (List.replicate n 0)))∧Below w.heap.size w w':=by
 have:=Tryz.strings_Repeat ⟨#[0]⟩ n w (by omega) (by show 1*n≤_;omega)
 rw [show (⟨#[0]⟩:ByteArray).data.toList=[0] from rfl,repeat_zeros] at this
 exact this
def ldv8 (p:Addr):Sem Value:=loadVar 128 p
def stv8 (p:Addr) (v:Value):Sem Unit:=storeVar 128 p v
theorem ldv8_eq (p:Addr):loadVar 128 p=ldv8 p:=rfl
theorem stv8_eq (p:Addr) (v:Value):storeVar 128 p v=stv8 p v:=rfl
theorem run_ldv8 (w:World) (g:Nat) (hh:HasRow w g 128 8):(ldv8 ⟨g,0,none⟩).run Tryz.prog w = .ok (.agg (RowOf w g)) w:=by
 obtain ⟨cs,hn,h⟩:=hh
 rw [zBU h]
 exact run_loadVar_row w g _ _ _ _ _ h Tryz.underlying128 rfl (by rw [hn];exact sz8)
theorem run_stv8 (w:World) (g:Nat) (r:H8) (hh:HasRow w g 128 8):(stv8 ⟨g,0,none⟩ (.agg (u32s r.list))).run Tryz.prog w = .ok () (w.setRow g (u32s r.list)):=by
 obtain ⟨cs,hn,h⟩:=hh
 exact run_storeVar_row w g _ _ _ _ h (by rw [zAp];exact sz8) (by rw [zAp,hn]) (zBr _)
attribute [local go_sem ↓] ldv8_eq stv8_eq
attribute [local go_sem] run_ldv8 run_stv8
theorem zC0 (n k:Nat) (hk:k<8):(zAV n).take k++[UInt8.ofNat ((n:Int)*8 / 2 ^ (56-8*k)%256).toNat]=(zAV n).take (k+1):=by
 have hlen:(zAV n).length=8:=by simp [zAV]
 have e:((n:Int)*8 / 2 ^ (56-8*k)%256).toNat=8*n / 2 ^ (56-8*k)%256:=by
  have:(n:Int)*8 / 2 ^ (56-8*k)%256=((8*n / 2 ^ (56-8*k)%256:Nat):Int):=by
   rw [Int.mul_comm];simp
  rw [this];rfl
 rw [e,List.take_add_one,List.getElem?_eq_getElem (by omega)]
 simp [zAV]
theorem zA9 (n:Nat):(zAV n).length=8:=by simp [zAV]
theorem zDl (l:List UInt8) : ∃ m,(padded l).length=64*m:=by
 refine ⟨(padded l).length / 64,?_⟩
 have:(padded l).length=l.length+1+padLen l.length+8:=by simp [padded,zA9];omega
 rw [this]
 unfold padLen
 omega
theorem take_set (L:List UInt8) (i n:Nat) (hi:i<L.length) (hn:n=L.length):(L.take i++List.replicate (n-i) 0).set i (L.getD i 0)=L.take (i+1)++List.replicate (n-(i+1)) 0:=by
 subst hn
 have hl:(L.take i).length=i:=by simp;omega
 rw [List.set_append_right _ _ (by omega),hl,Nat.sub_self,show L.length-i=(L.length-(i+1))+1 from by omega,List.replicate_succ,List.set_cons_zero,List.take_add_one,List.append_assoc,List.getElem?_eq_getElem hi]
 simp [List.getD,List.getElem?_eq_getElem hi]
theorem zAL (s:H8):(idOf s).length=32:=by simp [idOf]
theorem idOf_get (s:H8) (i:Nat) (hi:i<32):(idOf s).getD i 0=(s.list.getD (i / 4) 0 / 2 ^ (24-8*(i%4))%256).toUInt8:=by
 have:i<(idOf s).length:=by rw [zAL];exact hi
 rw [List.getD,List.getElem?_eq_getElem this]
 simp only [idOf,List.getElem_map,List.getElem_range,Option.getD_some]
set_option maxRecDepth 100000 in
set_option maxHeartbeats 2000000 in
theorem sum_calls (ls:List (List UInt8)) (v:Value) (w:World) (hK:TabK w) (hv:Strs w v ls) (hlen:ls.flatten.length≤1099511627776) :
 Calls Tryz.prog 64 #[v] w fun e w'=>e = .returned (.agg (u8s (shaOf ls.flatten)))∧Below w.heap.size w w':=by
 go_enter Tryz.func64,Tryz.ntmps64
 obtain ⟨l,hl⟩ : ∃ l,ls.flatten=l:=⟨_,rfl⟩
 rw [hl] at hlen ⊢
 have hll:(l.length:Int)≤1099511627776:=by omega
 obtain ⟨p,hpe⟩ : ∃ p,Hid (padLen l.length=p):=⟨_,rfl⟩
 have hp64:p≤64:=by rw [←hpe.out];unfold padLen;omega
 have hp1:(120-((l.length:Int)+1))%64=(p:Int):=by rw [←hpe.out];unfold padLen;omega
 have hp2:(120-((l.length:Int)+1)%64)%64=(p:Int):=by rw [←hpe.out];unfold padLen;omega
 go_wp2_with (first
  | (go_at_call 99;go_must (refine (join_calls ls v _ (hv.below ((Below.refl _ _).alloc (Nat.le_refl _) _)) (by rw [hl];omega)).mono ?_);rw [hl];rintro e w1 ⟨rfl,hb1⟩)
  | (go_at_call 100;go_must (refine (zeros_calls p hp64 _).mono ?_);rintro e w2 ⟨rfl,hb2⟩))
 have hr1:Blk w1 w.heap.size 28 (u8s (List.replicate 32 0)):=Blk.below (Blk.new w _ _) hb1 (by rw [zBk];omega)
 have hl1:Below w.heap.size w w1:=bthen ((Below.refl _ _).alloc (Nat.le_refl _) _) (by rw [zBk];omega) hb1
 have hr2:Blk w2 w.heap.size 28 (u8s (List.replicate 32 0)):=hr1.below hb2 hr1.lt
 have hl2:Below w.heap.size w w2:=bthen hl1 hl1.size hb2
 clear hb1 hb2 hr1 hl1
 have hbase0:(l++128::List.replicate p 0).length=l.length+1+p:=by simp;omega
 generalize hbs:l++128::List.replicate p 0=bs at *
 have hbsh:=Lib.hid hbs
 have hbase:=Lib.hid hbase0
 have hbl:bs.length≤1099511627776+100:=by omega
 clear hbs hbase0
 go_loopw [25,3] (fun i tx wr => ∃ k:Nat,i = .int .i64 k∧k≤8∧tx = .string (B (bs++(zAV l.length).take k))∧Blk wr w.heap.size 28 (u8s (List.replicate 32 0))∧Below w.heap.size w wr) (fun i _ _=>8-(intOf i).toNat)
 case atStart=>exact ⟨0,rfl,by omega,by rw [List.take_zero,List.append_nil],hr2,hl2⟩
 case round=>
  obtain ⟨k,rfl,hk,rfl,hr,hbel⟩:=hrel
  have hrl:=hr.lt
  by_cases hk8:k<8
  ·have hki:(k:Int)<8:=by omega
   have hst1:=Tryz.str_of_one
   go_wp2
   have hstep:=Lib.hid (zC0 l.length k hk8)
   go_roundw
   case rel=>exact ⟨k+1,by go_num,by omega,by rw [hstep.out],hr.alloc _,hbel.alloc (by omega) _⟩
   case measure=>simp [intOf];omega
  ·have hk8':k=8:=by omega
   have hki : ¬ (k:Int)<8:=by omega
   have hpd:bs++(zAV l.length).take k=padded l:=by
    rw [hk8',List.take_of_length_le (by rw [zA9];omega),←hbsh.out,←hpe.out]
    simp [padded]
   rw [hpd]
   clear hk8' hpd
   obtain ⟨m0,hm0⟩:=zDl l
   have hst0:Hid (blocks m0 H0 (padded l)=stateOf l):=by
    show _=_
    rw [stateOf,hm0,Nat.mul_div_cancel_left _ (by omega)]
   have hpdl:(padded l).length≤1099511627976:=by
    have:(padded l).length=l.length+1+padLen l.length+8:=by simp [padded,zA9];omega
    rw [this,hpe.out];omega
   generalize padded l=pd at *
   have hi8:(Tryz.prog.info? 128).map (·.size)=some (u32s H0.list).size:=by rw [zAp];exact sz8
   have hall:=zBr H0.list
   have hold:(u32s (List.replicate 8 0)).size=(u32s H0.list).size:=rfl
   have hv0:=Blk.new wr 128 (u32s (List.replicate 8 0))
   go_wp2_with (first
    | (refine wpList_store_row rfl 128 (.tmp 6) (.tmp 39) rfl wr.heap.size (u32s H0.list) rfl rfl _ _ hv0 hi8 hold hall ?_))
   have h1:Blk (World.setRow (wr.alloc (.cells (u32s (List.replicate 8 0)) 128)) wr.heap.size (u32s H0.list)) wr.heap.size 128 (u32s H0.list):=setRow_heap _ _ _ _ _ _ hv0
   have h2:Blk (World.setRow (wr.alloc (.cells (u32s (List.replicate 8 0)) 128)) wr.heap.size (u32s H0.list)) w.heap.size 28 (u8s (List.replicate 32 0)):=by
    unfold Blk;rw [setRow_other _ _ _ _ (by omega)];exact hr.alloc _
   have h3:Below w.heap.size w (World.setRow (wr.alloc (.cells (u32s (List.replicate 8 0)) 128)) wr.heap.size (u32s H0.list)):=zAa (hbel.alloc (by omega) _) (by omega) _
   clear hv0 hr hbel
   obtain ⟨vb,hvb⟩ : ∃ vb,wr.heap.size=vb:=⟨_,rfl⟩
   have hvw:w.heap.size<vb:=by omega
   go_loopw [3] (fun tx wr => ∃ (m:Nat) (rest:List UInt8) (s:H8),tx = .string (B rest)∧Hid (rest.length=64*m)∧rest.length≤1099511627976∧Hid (blocks m s rest=stateOf l)∧s.Fit∧Blk wr vb 128 (u32s s.list)∧Blk wr w.heap.size 28 (u8s (List.replicate 32 0))∧Below w.heap.size w wr) (fun tx _=>(strOf tx).length)
   case atStart=>exact ⟨m0,pd,H0,rfl,hm0,hpdl,hst0,H0_fit,hvb▸h1,h2,h3⟩
   case round=>
    rw [hvb]
    clear h1 h2 h3 hvb
    obtain ⟨m,rest,s,rfl,hm,hrl2,hst,hfit,h1,h2,h3⟩:=hrel
    have hbs1:=h1.lt
    by_cases hre:rest=[]
    ·have hemp:rest.isEmpty=true:=by rw [hre];rfl
     have hsl:Hid (s=stateOf l):=by
      have hm0':m=0:=by have:=hm.out;rw [hre] at this;simp at this;omega
      have:=hst.out
      rw [hm0'] at this
      exact this
     clear hst hm hre
     have hg0:=Blk.new wr 28 (u8s (List.replicate 32 0))
     have k1:=h1.alloc (.cells (u8s (List.replicate 32 0)) 28)
     have k2:=h2.alloc (.cells (u8s (List.replicate 32 0)) 28)
     have k3:=h3.alloc (Nat.le_of_lt h2.lt) (.cells (u8s (List.replicate 32 0)) 28)
     go_wp2
     obtain ⟨ib,hib⟩ : ∃ ib,wr.heap.size=ib:=⟨_,rfl⟩
     rw [hib] at hg0 ⊢
     have hvi:vb<ib:=by omega
     clear h1 h2 h3 hib
     go_loopw [48] (fun i wr => ∃ k:Nat,i = .int .i64 k∧k≤32∧Blk wr ib 28 (u8s ((idOf s).take k++List.replicate (32-k) 0))∧Blk wr vb 128 (u32s s.list)∧Blk wr w.heap.size 28 (u8s (List.replicate 32 0))∧Below w.heap.size w wr) (fun i _=>32-(intOf i).toNat)
     case atStart=>exact ⟨0,rfl,by omega,hg0,k1,k2,k3⟩
     case round=>
      clear hg0 k1 k2 k3
      obtain ⟨i,rfl,hi,h0,h1,h2,h3⟩:=hrel
      have hbi:=h0.lt
      by_cases hi32:i<32
      ·have hii:(i:Int)<32:=by omega
       have hq:(i:Int) / 4<8:=by omega
       have hq0:(0:Int)≤(i:Int) / 4:=by omega
       have hqn:i / 4<8:=by omega
       have cw:wr.cell? ⟨vb,i / 4,none⟩=some (.int .u32 (s.list.getD (i / 4) 0:Nat)):=by
        rw [h1.cell,zA0 _ _ hqn]
       have cz:wr.cell? ⟨ib,i,none⟩=some (.int .u8 ((((idOf s).take i++List.replicate (32-i) 0).getD i 0).toNat:Nat)):=by
        rw [h0.cell,u8s_get _ _ (by rw [List.length_append,List.length_take,zAL,List.length_replicate];omega)]
       have fz:=h0.frozen i
       have hset:=Lib.hid (take_set (idOf s) i 32 (by rw [zAL];exact hi32) (zAL s).symm)
       have hget:=Lib.hid (idOf_get s i hi32)
       generalize (((idOf s).take i++List.replicate (32-i) 0).getD i 0).toNat=oz at *
       generalize s.list.getD (i / 4) 0=x at *
       go_wp2
       have hvv:(x:Int) / 2 ^ (24-8*(i%4))%256=((x / 2 ^ (24-8*(i%4))%256:Nat):Int):=by simp
       rw [hvv]
       have hlt:=Nat.mod_lt (x / 2 ^ (24-8*(i%4))) (show 0<256 by omega)
       have hn:=h0.set_ i (.int .u8 ((x / 2 ^ (24-8*(i%4))%256:Nat):Int))
       rw [u8s_set _ _ _ hlt,←hget.out,hset.out] at hn
       go_roundw
       case rel=>exact ⟨i+1,by go_num,by omega,hn,h1.far (by simp;omega) _,h2.far (by simp;omega) _,h3.setCell (by simp;omega) _⟩
       case measure=>simp [intOf];omega
      ·have hi32':i=32:=by omega
       have hii : ¬ (i:Int)<32:=by omega
       have h0':Blk wr ib 28 (u8s (idOf s)):=by
        rw [hi32',List.take_of_length_le (by rw [zAL];omega),Nat.sub_self,List.replicate_zero,List.append_nil] at h0
        exact h0
       clear hi32' h0
       have hid:(idOf s).length=32:=zAL s
       have hfin:Hid (shaOf l=idOf s):=by show _=_;rw [hsl.out];rfl
       clear hsl
       generalize idOf s=id at *
       have hi':(Tryz.prog.info? 28).map (·.size)=some (u8s id).size:=by rw [zAh,hid];exact sz32
       have hall':=u8s_one id
       have hold':(u8s (List.replicate 32 0)).size=(u8s id).size:=by rw [zAh,zAh,hid,List.length_replicate]
       go_wp2_with (first
        | (refine wpList_load_row rfl 28 (.tmp 7) rfl ib rfl _ _ _ _ h0' Tryz.underlying28 rfl hi' ?_)
        | (refine wpList_store_row rfl 28 (.tmp 2) (.tmp 64) rfl w.heap.size (u8s id) rfl rfl _ _ h2 hi' hold' hall' ?_))
       exact bodyPost_ret (results_cell_row rfl _ _ w.heap.size _ _ _ _ rfl (setRow_heap _ _ _ _ _ _ h2) Tryz.underlying28 rfl hi') rfl ⟨by rw [hfin.out],zAa h3 (Nat.le_refl _) _⟩
    ·have hemp:rest.isEmpty=false:=by cases rest with | nil=>exact absurd rfl hre | cons=>rfl
     have h64:64≤rest.length:=by
      have:=hm.out
      have h0:rest.length≠0:=fun h=>hre (List.length_eq_zero_iff.1 h)
      omega
     have h64i:(64:Int)≤(rest.length:Int):=by omega
     have hR:HasRow wr vb 128 8:=zB7 h1 (zAp s)
     have hO:RowOf wr vb=u32s s.list:=zBU h1
     have hRd:HasRow wr.drew vb 128 8:=hR
     have hOd:RowOf wr.drew vb=u32s s.list:=hO
     have hKd:TabK wr.drew:=hK.below h3.drew
     have h1d:Blk wr.drew vb 128 (u32s s.list):=h1
     have hbs1d:vb<wr.drew.heap.size:=hbs1
     go_wp2
     go_region_with (first
      | (go_at_call 101;go_must (refine (block_calls s hfit (rest.take 64) (by rw [List.length_take];omega) _ hKd).mono ?_);rintro e w1 ⟨rfl,hb1⟩;have hRc:=zB7 (h1d.below hb1 hbs1d) (zAp s);have hOc:=zBU (h1d.below hb1 hbs1d)))
     have e1:=setRow_heap w1 vb _ (u32s (blockOf s (rest.take 64)).list) _ _ (h1d.below hb1 hbs1d)
     have e2:Blk (w1.setRow vb (u32s (blockOf s (rest.take 64)).list)) w.heap.size 28 (u8s (List.replicate 32 0)):=by
      unfold Blk;rw [setRow_other _ _ _ _ (by omega)];exact Blk.below (w:=wr.drew) h2 hb1 h2.lt
     have e3:=zAa (bthen h3.drew (Nat.le_of_lt h2.lt) hb1) (Nat.le_of_lt hvw) (u32s (blockOf s (rest.take 64)).list)
     have hnst:Hid (blocks (m-1) (blockOf s (rest.take 64)) (rest.drop 64)=stateOf l):=by
      have:=hst.out
      obtain ⟨m',rfl⟩ : ∃ m',m=m'+1:=⟨m-1,by have:=hm.out;omega⟩
      exact this
     have hnm:Hid ((rest.drop 64).length=64*(m-1)):=by have:=hm.out;show _=_;rw [List.length_drop];omega
     have hdl:(rest.drop 64).length=rest.length-64:=List.length_drop
     have hfit2:(blockOf s (rest.take 64)).Fit:=plus_fit _ _
     generalize blockOf s (rest.take 64)=s' at *
     clear hRc hOc hb1
     generalize w1.setRow vb (u32s s'.list)=wz at *
     go_wp2
     go_roundw
     case rel=>exact ⟨m-1,rest.drop 64,s',rfl,hnm,by omega,hnst,hfit2,e1,e2,e3⟩
     case measure=>rw [strOf_B,strOf_B];omega
end
theorem str_of_blk (w:World) {t:TypeId} {g:Nat} {l:List UInt8} (h:Blk w g t (u8s l)) :
 (convert 24 9 (.slice (some ⟨g,0,none⟩) l.length l.length)).run Tryz.prog w = .ok (.string (B l)) w:=by
 rw [run_convert_bytes_arg w 24 5 Tryz.underlying24 Tryz.underlying5 g 0 l.length l.length (l.map fun c=>(c.toNat:Int)) (by simp) (fun i hi=>by
  rw [Nat.zero_add,h.cell,u8s_get l i hi]
  simp [List.getD,List.getElem?_map,List.getElem?_eq_getElem hi]) 9 Tryz.underlying9]
 have hl:(l.map fun c=>(c.toNat:Int)).map (fun n=>UInt8.ofNat n.toNat)=l:=by
  rw [List.map_map]
  exact (List.map_congr_left (g:=id) (fun c _=>by simp)).trans (List.map_id l)
 rw [strOfNums,hl]
 rfl
set_option maxRecDepth 100000 in
set_option maxHeartbeats 400000 in
theorem turn_calls (x n:Nat) (hx:x<4294967296) (h0:1≤n) (h1:n≤31) (w:World) :
 Calls Tryz.prog 85 #[.int .u32 x, .int .u64 n] w fun e w'=>e = .returned (.int .u32 (rotr x n))∧w=w':=by
 have hn0:0≤(n:Int):=by omega
 have hn1:(n:Int)≤31:=by omega
 go_enter Tryz.func85,Tryz.ntmps85
 go_wp2
 go_ret
 refine ⟨congrArg (fun n:Int=>Ending.returned (.int .u32 n)) ?_,rfl⟩
 have e:((rotr x n:Nat):Int)=(x:Int) / 2 ^ n+(x:Int)*2 ^ (32-n)%4294967296:=by simp [rotr]
 have:=rotr_lt hx h0 h1
 rw [←e]
 omega
set_option maxRecDepth 100000 in
set_option maxHeartbeats 400000 in
theorem k_calls (w:World) :
 Calls Tryz.prog 53 #[] w fun e w'=>e = .returned (.agg (u32s K256))∧Below w.heap.size w w':=by
 have hi':(Tryz.prog.info? 129).map (·.size)=some (u32s K256).size:=by rw [zBe,zBl];exact sz64
 have hall':=zBr K256
 have hold':(u32s (List.replicate 64 0)).size=(u32s K256).size:=by rw [zBe,zBe,zBl,List.length_replicate]
 have hv0:=Blk.new w 129 (u32s (List.replicate 64 0))
 go_enter Tryz.func53,Tryz.ntmps53
 go_wp2_with (first
  | (refine wpList_store_row rfl 129 (.tmp 0) (.tmp 1) rfl w.heap.size (u32s K256) rfl rfl _ _ hv0 hi' hold' hall' ?_))
 exact bodyPost_ret (results_cell_row rfl _ _ w.heap.size _ _ _ _ rfl (setRow_heap _ _ _ _ _ _ hv0) Tryz.underlying129 rfl hi') rfl ⟨rfl,zAa ((Below.refl _ _).alloc (Nat.le_refl _) _) (Nat.le_refl _) _⟩
section
attribute [local go_sem ↓] Go.wp_at_zero Go.wp_at_succ
theorem turn_at (x n:Nat) (m:Int) (hm:m=(n:Int)) (hx:x<4294967296) (h0:1≤n) (h1:n≤31) (w:World) :
 Calls Tryz.prog 85 #[.int .u32 x, .int .u64 m] w fun e w'=>e = .returned (.int .u32 (rotr x n))∧w=w':=hm▸turn_calls x n hx h0 h1 w
def zeros (n:Nat):List Nat:=List.replicate n 0
theorem zBB (n:Nat):(zeros n).length=n:=List.length_replicate
theorem first_step (b:List UInt8) (k:Nat) (hk:k<16):(first b k++List.replicate (64-k) 0).set k (be4 b k)=first b (k+1)++List.replicate (64-(k+1)) 0:=by
 have hl:=zBz b k
 have:=zDF (first b k) (64-k) (be4 b k) (by omega)
 rw [hl] at this
 rw [this,show 64-k-1=64-(k+1) from by omega]
 congr 1
 simp [first,List.range_succ]
theorem at_byte (b:List UInt8) (i:Nat) (h:i<b.length):((b[i]).toNat:Nat)=byteAt b i:=by
 simp [byteAt,List.getD,List.getElem?_eq_getElem h]
theorem blk_new4 (w:World) (o1 o2 o3:Obj) (t:TypeId) (cs:Array Value):Blk ((((w.alloc o1).alloc o2).alloc o3).alloc (.cells cs t)) (w.heap.size+3) t cs:=by
 have:=Blk.new (((w.alloc o1).alloc o2).alloc o3) t cs
 rwa [show (((w.alloc o1).alloc o2).alloc o3).heap.size=w.heap.size+3 from by simp] at this
theorem zBK {P:Program} {f:FuncId} {args:Array Value} {w:World} {n:Nat} {v:Value}
 (h:Calls P f args (w.drewN n) fun e w'=>e = .returned v∧w.drewN n=w'):Calls P f args (w.drewN n) fun e w''=>e = .returned v ∧ ∃ m,w''=w.drewN m:=
 h.mono fun _ _ ⟨he,hm⟩=>⟨he,n,hm.symm⟩
set_option maxRecDepth 100000 in
set_option maxHeartbeats 4000000 in
theorem refBlock_calls (s0:H8) (hs0:s0.Fit) (b:List UInt8) (hb:b.length=64) (w:World) :
 Calls Tryz.prog 54 #[.agg (u32s s0.list), .string (B b), .agg (u32s K256)] w fun e w'=>e = .returned (.agg (u32s (blockOf s0 b).list))∧Below w.heap.size w w':=by
 obtain ⟨KK,hKK⟩ : ∃ KK,Hid (K256=KK):=⟨_,rfl⟩
 rw [hKK.out]
 have hKl:KK.length=64:=by rw [←hKK.out];exact zBl
 go_enter Tryz.func54,Tryz.ntmps54
 have hv0:=blk_new4 w (.cells (u32s s0.list) 128) (.cells (u32s KK) 129) (.cells (u32s (List.replicate 8 0)) 128) 129 (u32s (zeros 64))
 have hi':(Tryz.prog.info? 129).map (·.size)=some (u32s (zeros 64)).size:=by rw [zBe,zBB];exact sz64
 have hall':=zBr (zeros 64)
 go_wp2_with (first
  | (refine wpList_store_row rfl 129 (.tmp 7) (.tmp 17) rfl (w.heap.size+3) (u32s (zeros 64)) rfl rfl _ _ hv0 hi' rfl hall' ?_))
 have h1:=setRow_heap _ _ _ (u32s (zeros 64)) _ _ hv0
 obtain ⟨wz,hwz⟩ : ∃ wz,wz=World.setRow ((((w.alloc (.cells (u32s s0.list) 128)).alloc (.cells (u32s KK) 129)).alloc (.cells (u32s (List.replicate 8 0)) 128)).alloc (.cells (u32s (zeros 64)) 129)) (w.heap.size+3) (u32s (zeros 64)):=⟨_,rfl⟩
 have b1:Blk wz (w.heap.size+1+1+1) 129 (u32s (first b 0++zeros (64-0))):=by rw [hwz];exact h1
 have b2:Blk wz w.heap.size 128 (u32s s0.list):=by
  rw [hwz];unfold Blk;rw [setRow_other _ _ _ _ (by omega)];exact (((Blk.new w _ _).alloc _).alloc _).alloc _
 have b3:Blk wz (w.heap.size+1) 129 (u32s KK):=by
  rw [hwz];unfold Blk;rw [setRow_other _ _ _ _ (by omega)];exact ((blk_new2 w _ _ _).alloc _).alloc _
 have b4:Blk wz (w.heap.size+1+1) 128 (u32s (List.replicate 8 0)):=by
  rw [hwz];unfold Blk;rw [setRow_other _ _ _ _ (by omega)];exact (blk_new3 w _ _ _ _).alloc _
 have b5:Below w.heap.size w wz:=by
  rw [hwz]
  exact zAa (((((Below.refl _ _).alloc (Nat.le_refl _) _).alloc (by simp) _).alloc (by simp;omega) _).alloc (by simp;omega) _) (by omega) _
 clear h1 hv0
 obtain ⟨g,hg⟩ : ∃ g,g=w.heap.size:=⟨_,rfl⟩
 go_loopw [8] (fun i wr => ∃ k:Nat,i = .int .i64 k∧k≤16∧Blk wr (w.heap.size+1+1+1) 129 (u32s (first b k++zeros (64-k)))∧Blk wr w.heap.size 128 (u32s s0.list)∧Blk wr (w.heap.size+1) 129 (u32s KK)∧Blk wr (w.heap.size+1+1) 128 (u32s (List.replicate 8 0))∧Below w.heap.size w wr) (fun i _=>16-(intOf i).toNat)
 case atStart=>exact ⟨0,rfl,by omega,hwz▸b1,hwz▸b2,hwz▸b3,hwz▸b4,hwz▸b5⟩
 case round=>
  clear b1 b2 b3 b4 b5 hwz
  obtain ⟨k,rfl,hk,h1,h2,h3,h4,hbel⟩:=hrel
  have hbs:=h1.lt
  by_cases hlt:k<16
  ·have hki:(k:Int)<16:=by omega
   have hcz:wr.cell? ⟨w.heap.size+1+1+1,k,none⟩=some (.int .u32 ((first b k++zeros (64-k)).getD k 0:Nat)):=by
    rw [h1.cell,zA0 _ _ (by rw [List.length_append,zBz,zBB];omega)]
   have hf:=h1.frozen k
   have hset:=Lib.hid (first_step b k hlt)
   have y0:=at_byte b (4*k) (by omega)
   have y1:=at_byte b (4*k+1) (by omega)
   have y2:=at_byte b (4*k+2) (by omega)
   have y3:=at_byte b (4*k+3) (by omega)
   have l0:=zA4 b (4*k)
   have l1:=zA4 b (4*k+1)
   have l2:=zA4 b (4*k+2)
   have l3:=zA4 b (4*k+3)
   have hbe:Hid (be4 b k=byteAt b (4*k)*16777216+byteAt b (4*k+1)*65536+byteAt b (4*k+2)*256+byteAt b (4*k+3)):=rfl
   generalize (first b k++zeros (64-k)).getD k 0=oz at *
   generalize byteAt b (4*k)=c0 at *
   generalize byteAt b (4*k+1)=c1 at *
   generalize byteAt b (4*k+2)=c2 at *
   generalize byteAt b (4*k+3)=c3 at *
   have i0:(4*(k:Int))<64:=by omega
   have j0:0≤(4*(k:Int)):=by omega
   have i1:(4*(k:Int)+1)<64:=by omega
   have j1:0≤(4*(k:Int)+1):=by omega
   have i2:(4*(k:Int)+2)<64:=by omega
   have j2:0≤(4*(k:Int)+2):=by omega
   have i3:(4*(k:Int)+3)<64:=by omega
   have j3:0≤(4*(k:Int)+3):=by omega
   have hk64:(k:Int)<64:=by omega
   go_wp2
   go_region
   go_wp2
   have hv:(c0:Int)*16777216+(c1:Int)*65536+(c2:Int)*256+(c3:Int)=((be4 b k:Nat):Int):=by rw [hbe.out];simp
   rw [hv]
   have hn:=(h1.set_ k (.int .u32 (be4 b k:Nat))).drew
   rw [zB2,show (first b k++zeros (64-k)).set k (be4 b k)=first b (k+1)++zeros (64-(k+1)) from hset.out] at hn
   go_roundw
   case rel=>exact ⟨k+1,by go_num,by omega,hn,(h2.far (by simp;omega) _).drew,(h3.far (by simp) _).drew,(h4.far (by simp) _).drew,(hbel.setCell (by simp;omega) _).drew⟩
   case measure=>simp [intOf];omega
  ·have hk16:k=16:=by omega
   have hki : ¬ (k:Int)<16:=by omega
   rw [hk16] at h1
   clear hk16
   have hgoal:Hid (sched 48 (first b 16)=wordsOf b):=rfl
   go_wp2
   go_loopw [9] (fun i wr => ∃ (t:Nat) (l:List Nat),i = .int .i64 t∧16≤t∧t≤64∧Hid (l.length=t)∧Hid (Fit32 l)∧Hid (sched (64-t) l=wordsOf b)∧Blk wr (w.heap.size+1+1+1) 129 (u32s (l++zeros (64-t)))∧Blk wr w.heap.size 128 (u32s s0.list)∧Blk wr (w.heap.size+1) 129 (u32s KK)∧Blk wr (w.heap.size+1+1) 128 (u32s (List.replicate 8 0))∧Below w.heap.size w wr) (fun i _=>64-(intOf i).toNat)
   case atStart=>exact ⟨16,first b 16,rfl,by omega,by omega,zBz b 16,first_fit b 16,hgoal,h1,h2,h3,h4,hbel⟩
   case round=>
    clear h1 h2 h3 h4 hbel hbs
    obtain ⟨t,l,rfl,ht0,ht1,hlen,hfit,hsc,h1,h2,h3,h4,hbel⟩:=hrel
    have hbs:=h1.lt
    by_cases hlt:t<64
    ·have hti:(t:Int)<64:=by omega
     have get (j:Nat) (hj:j<t):wr.cell? ⟨w.heap.size+1+1+1,j,none⟩=some (.int .u32 (l.getD j 0:Nat)):=by
      rw [h1.cell,zA0 _ _ (by rw [List.length_append,hlen.out,zBB];omega),getD_left (by rw [hlen.out];exact hj)]
     have c16:=get (t-16) (by omega)
     have c15:=get (t-15) (by omega)
     have c7:=get (t-7) (by omega)
     have c2:=get (t-2) (by omega)
     have ct:wr.cell? ⟨w.heap.size+1+1+1,t,none⟩=some (.int .u32 ((l++zeros (64-t)).getD t 0:Nat)):=by
      rw [h1.cell,zA0 _ _ (by rw [List.length_append,hlen.out,zBB];omega)]
     have hft:=h1.frozen t
     have b16:=hfit.out (t-16)
     have b15:=hfit.out (t-15)
     have b7:=hfit.out (t-7)
     have b2:=hfit.out (t-2)
     have hnext:Hid (nextW l=(l.getD (t-16) 0+l.getD (t-7) 0+sig0 (l.getD (t-15) 0)+sig1 (l.getD (t-2) 0))%4294967296):=by
      unfold nextW;rw [hlen.out];rfl
     clear get
     generalize l.getD (t-16) 0=x16 at *
     generalize l.getD (t-15) 0=x15 at *
     generalize l.getD (t-7) 0=x7 at *
     generalize l.getD (t-2) 0=x2 at *
     generalize (l++zeros (64-t)).getD t 0=old at *
     obtain ⟨u16,i16,v16⟩ : ∃ u:Nat,IntKind.i64.wrap ((t:Int)-16)=(u:Int)∧u=t-16:=⟨t-16,by rw [IntWalk.i64_in _ (by omega)];omega,rfl⟩
     rw [←v16] at c16
     have m16:(u16:Int)<64:=by omega
     have n16:u16<64:=by omega
     have v16h:=Lib.hid v16
     clear v16
     obtain ⟨u15,i15,v15⟩ : ∃ u:Nat,IntKind.i64.wrap ((t:Int)-15)=(u:Int)∧u=t-15:=⟨t-15,by rw [IntWalk.i64_in _ (by omega)];omega,rfl⟩
     rw [←v15] at c15
     have m15:(u15:Int)<64:=by omega
     have n15:u15<64:=by omega
     have v15h:=Lib.hid v15
     clear v15
     obtain ⟨u7,i7,v7⟩ : ∃ u:Nat,IntKind.i64.wrap ((t:Int)-7)=(u:Int)∧u=t-7:=⟨t-7,by rw [IntWalk.i64_in _ (by omega)];omega,rfl⟩
     rw [←v7] at c7
     have m7:(u7:Int)<64:=by omega
     have n7:u7<64:=by omega
     have v7h:=Lib.hid v7
     clear v7
     obtain ⟨u2,i2,v2⟩ : ∃ u:Nat,IntKind.i64.wrap ((t:Int)-2)=(u:Int)∧u=t-2:=⟨t-2,by rw [IntWalk.i64_in _ (by omega)];omega,rfl⟩
     rw [←v2] at c2
     have m2:(u2:Int)<64:=by omega
     have n2:u2<64:=by omega
     have v2h:=Lib.hid v2
     clear v2
     have r1:=rotr_lt (n:=7) b15 (by omega) (by omega)
     have r2:=rotr_lt (n:=18) b15 (by omega) (by omega)
     have r3:=rotr_lt (n:=17) b2 (by omega) (by omega)
     have r4:=rotr_lt (n:=19) b2 (by omega) (by omega)
     have e1:bits .xor .u32 (rotr x15 7:Int) (rotr x15 18:Int)=((rotr x15 7 ^^^ rotr x15 18:Nat):Int):=u32_xor_nat _ _ r1 r2
     have e2:bits .xor .u32 ((rotr x15 7 ^^^ rotr x15 18:Nat):Int) ((x15:Int) / 8)=((sig0 x15:Nat):Int):=by
      rw [show (x15:Int) / 8=((x15 / 8:Nat):Int) from by omega];exact u32_xor_nat _ _ (xor_lt r1 r2) (by omega)
     have e3:bits .xor .u32 (rotr x2 17:Int) (rotr x2 19:Int)=((rotr x2 17 ^^^ rotr x2 19:Nat):Int):=u32_xor_nat _ _ r3 r4
     have e4:bits .xor .u32 ((rotr x2 17 ^^^ rotr x2 19:Nat):Int) ((x2:Int) / 1024)=((sig1 x2:Nat):Int):=by
      rw [show (x2:Int) / 1024=((x2 / 1024:Nat):Int) from by omega];exact u32_xor_nat _ _ (xor_lt r3 r4) (by omega)
     go_wp2
     go_region_held3 (fun w'=>w'.cell? ⟨w.heap.size+1+1+1,u15,none⟩=some (.int .u32 (x15:Int))) (first | exact c15 | go_keep)
      (first
        | (go_at_call 85;(with_reducible refine (turn_at x15 7 7 rfl b15 (by omega) (by omega) _).mono ?_);rintro e w1 ⟨rfl,rfl⟩)
        | (go_at_call 85;(with_reducible refine (turn_at x15 18 18 rfl b15 (by omega) (by omega) _).mono ?_);rintro e w1 ⟨rfl,rfl⟩))
     go_wp2
     have c2d:wr.drew.cell? ⟨w.heap.size+1+1+1,u2,none⟩=some (.int .u32 (x2:Int)):=c2
     go_region_held3 (fun w'=>w'.cell? ⟨w.heap.size+1+1+1,u2,none⟩=some (.int .u32 (x2:Int))) (first | exact c2 | exact c2d | go_keep)
      (first
        | (go_at_call 85;(with_reducible refine (turn_at x2 17 17 rfl b2 (by omega) (by omega) _).mono ?_);rintro e w1 ⟨rfl,rfl⟩)
        | (go_at_call 85;(with_reducible refine (turn_at x2 19 19 rfl b2 (by omega) (by omega) _).mono ?_);rintro e w1 ⟨rfl,rfl⟩))
     go_wp2
     have c16d:wr.drew.drew.cell? ⟨w.heap.size+1+1+1,u16,none⟩=some (.int .u32 (x16:Int)):=c16
     have c7d:wr.drew.drew.cell? ⟨w.heap.size+1+1+1,u7,none⟩=some (.int .u32 (x7:Int)):=c7
     have ctd:wr.drew.drew.cell? ⟨w.heap.size+1+1+1,t,none⟩=some (.int .u32 (old:Int)):=ct
     have h1d:=h1.drew.drew
     have h2d:=h2.drew.drew
     have h3d:=h3.drew.drew
     have h4d:=h4.drew.drew
     have hbeld:=hbel.drew.drew
     have hftd:wr.drew.drew.frozen? ⟨w.heap.size+1+1+1,t,none⟩=false:=hft
     clear h1 h2 h3 h4 hbel hft c16 c15 c7 c2 ct c2d e1 e2 e3 e4 r1 r2 r3 r4
     generalize wr.drew.drew=wo at *
     obtain ⟨nx,hval,hnx⟩ : ∃ nx:Nat,IntKind.u32.wrap (IntKind.u32.wrap (IntKind.u32.wrap ((x16:Int)+((sig0 x15:Nat):Int))+(x7:Int))+((sig1 x2:Nat):Int))=(nx:Int)∧nx=nextW l:=by
      refine ⟨nextW l,?_,rfl⟩
      rw [hnext.out,IntKind.wrap_u32,IntKind.wrap_u32,IntKind.wrap_u32]
      omega
     have hnxh:=Lib.hid hnx
     clear hnx
     have ne16:u16≠t:=by have:=v16h.out;omega
     have ne7:u7≠t:=by have:=v7h.out;omega
     go_region_held3 (fun w'=>w'.cell? ⟨w.heap.size+1+1+1,u16,none⟩=some (.int .u32 (x16:Int))∧w'.cell? ⟨w.heap.size+1+1+1,u7,none⟩=some (.int .u32 (x7:Int))) (first | exact ⟨c16d,c7d⟩ | exact ⟨zEs c16d ne16,zEs c7d ne7⟩ | go_keep) (fail)
     go_wp2
     have hn1:Blk ((wo.setCell ⟨w.heap.size+1+1+1,t,none⟩ (.int .u32 (nx:Int))).drew) (w.heap.size+1+1+1) 129 (u32s ((l++[nx])++zeros (64-(t+1)))):=by
      have:=(h1d.set_ t (.int .u32 (nx:Int)))
      have hs:(l++zeros (64-t)).set l.length nx=(l++[nx])++zeros (64-t-1):=zDF l (64-t) nx (by omega)
      rw [hlen.out] at hs
      rw [zB2,hs,show 64-t-1=64-(t+1) from by omega] at this
      exact this.drew
     have hnlen:Hid ((l++[nx]).length=t+1):=by rw [List.length_append,hlen.out];rfl
     have hnfit:Hid (Fit32 (l++[nx])):=hfit.out.append (by rw [hnxh.out];exact nextW_lt l)
     have hnsc:Hid (sched (64-(t+1)) (l++[nx])=wordsOf b):=by
      rw [←hsc.out,show 64-t=(64-(t+1))+1 from by omega,sched,←hnxh.out];rfl
     go_roundw
     case rel=>exact ⟨t+1,l++[nx],by go_num,by omega,by omega,hnlen,hnfit,hnsc,hn1,(h2d.far (by simp;omega) _).drew,(h3d.far (by simp) _).drew,(h4d.far (by simp) _).drew,(hbeld.setCell (by simp;omega) _).drew⟩
     case measure=>simp [intOf];omega
    ·have ht64:t=64:=by omega
     have hti : ¬ (t:Int)<64:=by omega
     have hl:l=wordsOf b:=by have:=hsc.out;rw [ht64] at this;exact this
     rw [ht64,hl,show zeros (64-64)=[] from rfl,List.append_nil] at h1
     clear ht64 hl hsc hfit hlen
     have q0:=Blk.new wr 128 (u32s (List.replicate 8 0))
     have hi8:(Tryz.prog.info? 128).map (·.size)=some (u32s s0.list).size:=by rw [zAp];exact sz8
     have hall:=zBr s0.list
     have hold:(u32s (List.replicate 8 0)).size=(u32s s0.list).size:=by rw [zAp];rfl
     go_wp2_with (first
      | (refine wpList_load_row rfl 128 (.tmp 3) rfl w.heap.size rfl _ _ _ _ h2 Tryz.underlying128 rfl hi8 ?_)
      | (refine wpList_store_row rfl 128 (.tmp 12) (.tmp 106) rfl wr.heap.size (u32s s0.list) rfl rfl _ _ q0 hi8 hold hall ?_))
     obtain ⟨vb,hvb⟩ : ∃ vb,vb=wr.heap.size:=⟨_,rfl⟩
     obtain ⟨wz,hwz⟩ : ∃ wz,wz=World.setRow (wr.alloc (.cells (u32s (List.replicate 8 0)) 128)) wr.heap.size (u32s s0.list):=⟨_,rfl⟩
     have p0:Blk wz vb 128 (u32s s0.list):=by rw [hwz,hvb];exact setRow_heap _ _ _ _ _ _ q0
     have p1:Blk wz (w.heap.size+1+1+1) 129 (u32s (wordsOf b)):=by rw [hwz];unfold Blk;rw [setRow_other _ _ _ _ (by omega)];exact h1.alloc _
     have p2:Blk wz w.heap.size 128 (u32s s0.list):=by rw [hwz];unfold Blk;rw [setRow_other _ _ _ _ (by omega)];exact h2.alloc _
     have p3:Blk wz (w.heap.size+1) 129 (u32s KK):=by rw [hwz];unfold Blk;rw [setRow_other _ _ _ _ (by omega)];exact h3.alloc _
     have p4:Blk wz (w.heap.size+1+1) 128 (u32s (List.replicate 8 0)):=by rw [hwz];unfold Blk;rw [setRow_other _ _ _ _ (by omega)];exact h4.alloc _
     have p5:Below w.heap.size w wz:=by rw [hwz];exact zAa (hbel.alloc (by omega) _) (by omega) _
     have hvw:w.heap.size+1+1+1<vb:=by omega
     clear h1 h2 h3 h4 hbel q0
     go_loopw [13] (fun i wr => ∃ (t:Nat) (s:H8),i = .int .i64 t∧t≤64∧Hid (s=after (wordsOf b) s0 t)∧s.Fit∧Blk wr vb 128 (u32s s.list)∧Blk wr (w.heap.size+1+1+1) 129 (u32s (wordsOf b))∧Blk wr w.heap.size 128 (u32s s0.list)∧Blk wr (w.heap.size+1) 129 (u32s KK)∧Blk wr (w.heap.size+1+1) 128 (u32s (List.replicate 8 0))∧Below w.heap.size w wr) (fun i _=>64-(intOf i).toNat)
     case atStart=>exact ⟨0,s0,rfl,by omega,rfl,hs0,hwz▸p0,hwz▸p1,hwz▸p2,hwz▸p3,hwz▸p4,hwz▸p5⟩
     case round=>
      rw [←hvb]
      clear p0 p1 p2 p3 p4 p5 hwz hbs hvb
      obtain ⟨t,s,rfl,ht,hst,hfit,h0,h1,h2,h3,h4,hbel⟩:=hrel
      have hbs:=h0.lt
      by_cases hlt:t<64
      ·have hti:(t:Int)<64:=by omega
       have hnext:Hid (after (wordsOf b) s0 (t+1)=rnd s (KK.getD t 0) ((wordsOf b).getD t 0)):=by rw [←hKK.out,hst.out];rfl
       have bw:=wordsOf_fit b t
       have bk:KK.getD t 0<4294967296:=by rw [←hKK.out];exact K256_fit t
       have ck:wr.cell? ⟨w.heap.size+1,t,none⟩=some (.int .u32 (KK.getD t 0:Nat)):=by rw [h3.cell,zA0 _ _ (by omega)]
       have cw:wr.cell? ⟨w.heap.size+1+1+1,t,none⟩=some (.int .u32 ((wordsOf b).getD t 0:Nat)):=by rw [h1.cell,zA0 _ _ (by rw [zB4];omega)]
       generalize (wordsOf b).getD t 0=wt at *
       generalize KK.getD t 0=kt at *
       obtain ⟨xa,xb,xc,xd,xe,xf,xg,xh⟩:=s
       obtain ⟨ba,bb,bc,bd,be,bf,bg,bh⟩:=hfit
       simp only at ba bb bc bd be bf bg bh
       have c0:wr.cell? ⟨vb,0,none⟩=some (.int .u32 (xa:Int)):=h0.cell 0
       have c1:wr.cell? ⟨vb,1,none⟩=some (.int .u32 (xb:Int)):=h0.cell 1
       have c2:wr.cell? ⟨vb,2,none⟩=some (.int .u32 (xc:Int)):=h0.cell 2
       have c3:wr.cell? ⟨vb,3,none⟩=some (.int .u32 (xd:Int)):=h0.cell 3
       have c4:wr.cell? ⟨vb,4,none⟩=some (.int .u32 (xe:Int)):=h0.cell 4
       have c5:wr.cell? ⟨vb,5,none⟩=some (.int .u32 (xf:Int)):=h0.cell 5
       have c6:wr.cell? ⟨vb,6,none⟩=some (.int .u32 (xg:Int)):=h0.cell 6
       have c7:wr.cell? ⟨vb,7,none⟩=some (.int .u32 (xh:Int)):=h0.cell 7
       have r6:=rotr_lt (n:=6) be (by omega) (by omega)
       have r11:=rotr_lt (n:=11) be (by omega) (by omega)
       have r25:=rotr_lt (n:=25) be (by omega) (by omega)
       have r2:=rotr_lt (n:=2) ba (by omega) (by omega)
       have r13:=rotr_lt (n:=13) ba (by omega) (by omega)
       have r22:=rotr_lt (n:=22) ba (by omega) (by omega)
       have e1:bits .xor .u32 (rotr xe 6:Int) (rotr xe 11:Int)=((rotr xe 6 ^^^ rotr xe 11:Nat):Int):=u32_xor_nat _ _ r6 r11
       have e2:bits .xor .u32 ((rotr xe 6 ^^^ rotr xe 11:Nat):Int) (rotr xe 25:Int)=((sum1 xe:Nat):Int):=u32_xor_nat _ _ (xor_lt r6 r11) r25
       have e3:bits .and .u32 (xe:Int) (xf:Int)=((xe &&& xf:Nat):Int):=u32_and_nat _ _ be bf
       have e4:bits .xor .u32 IntKind.u32.max (xe:Int)=((4294967295 ^^^ xe:Nat):Int):=u32_xor_nat 4294967295 _ (by omega) be
       have bn:4294967295 ^^^ xe<4294967296:=xor_lt (by omega) be
       have e5:bits .and .u32 ((4294967295 ^^^ xe:Nat):Int) (xg:Int)=(((4294967295 ^^^ xe) &&& xg:Nat):Int):=u32_and_nat _ _ bn bg
       have e6:bits .xor .u32 ((xe &&& xf:Nat):Int) (((4294967295 ^^^ xe) &&& xg:Nat):Int)=(((xe &&& xf) ^^^ ((4294967295 ^^^ xe) &&& xg):Nat):Int):=u32_xor_nat _ _ (and_lt bf) (and_lt bg)
       obtain ⟨X,hX,hXe⟩ : ∃ X:Nat,IntKind.u32.wrap (IntKind.u32.wrap (IntKind.u32.wrap (IntKind.u32.wrap ((xh:Int)+((sum1 xe:Nat):Int))+(((xe &&& xf) ^^^ ((4294967295 ^^^ xe) &&& xg):Nat):Int))+(kt:Int))+(wt:Int))=(X:Int)∧X=rndX ⟨xa,xb,xc,xd,xe,xf,xg,xh⟩ kt wt:=by
        refine ⟨_,?_,rfl⟩
        unfold rndX
        generalize ((xe &&& xf) ^^^ ((4294967295 ^^^ xe) &&& xg))=ch
        simp only [IntKind.wrap_u32]
        omega
       have hXh:=Lib.hid hXe
       clear hXe
       have f1:bits .xor .u32 (rotr xa 2:Int) (rotr xa 13:Int)=((rotr xa 2 ^^^ rotr xa 13:Nat):Int):=u32_xor_nat _ _ r2 r13
       have f2:bits .xor .u32 ((rotr xa 2 ^^^ rotr xa 13:Nat):Int) (rotr xa 22:Int)=((sum0 xa:Nat):Int):=u32_xor_nat _ _ (xor_lt r2 r13) r22
       have f3:bits .and .u32 (xa:Int) (xb:Int)=((xa &&& xb:Nat):Int):=u32_and_nat _ _ ba bb
       have f4:bits .and .u32 (xa:Int) (xc:Int)=((xa &&& xc:Nat):Int):=u32_and_nat _ _ ba bc
       have f5:bits .and .u32 (xb:Int) (xc:Int)=((xb &&& xc:Nat):Int):=u32_and_nat _ _ bb bc
       have f6:bits .xor .u32 ((xa &&& xb:Nat):Int) ((xa &&& xc:Nat):Int)=(((xa &&& xb) ^^^ (xa &&& xc):Nat):Int):=u32_xor_nat _ _ (and_lt bb) (and_lt bc)
       have f7:bits .xor .u32 (((xa &&& xb) ^^^ (xa &&& xc):Nat):Int) ((xb &&& xc:Nat):Int)=(((xa &&& xb) ^^^ (xa &&& xc) ^^^ (xb &&& xc):Nat):Int):=u32_xor_nat _ _ (xor_lt (and_lt bb) (and_lt bc)) (and_lt bc)
       obtain ⟨Y,hY,hYe⟩ : ∃ Y:Nat,IntKind.u32.wrap (((sum0 xa:Nat):Int)+(((xa &&& xb) ^^^ (xa &&& xc) ^^^ (xb &&& xc):Nat):Int))=(Y:Int)∧Y=rndY ⟨xa,xb,xc,xd,xe,xf,xg,xh⟩:=by
        refine ⟨_,?_,rfl⟩
        unfold rndY
        generalize (xa &&& xb) ^^^ (xa &&& xc) ^^^ (xb &&& xc)=mj
        simp only [IntKind.wrap_u32]
        omega
       have hYh:=Lib.hid hYe
       clear hYe
       go_wp2
       go_quiet (first
        | (go_at_call 85;with_reducible exact zBK (turn_at xe 6 6 rfl be (by omega) (by omega) _))
        | (go_at_call 85;with_reducible exact zBK (turn_at xe 11 11 rfl be (by omega) (by omega) _))
        | (go_at_call 85;with_reducible exact zBK (turn_at xe 25 25 rfl be (by omega) (by omega) _)))
       have k0:=h0.drewN nq
       have k1:=h1.drewN nq
       have k2:=h2.drewN nq
       have k3:=h3.drewN nq
       have k4:=h4.drewN nq
       have kbel:=bdrewN hbel nq
       have c0':(wr.drewN nq).cell? ⟨vb,0,none⟩=some (.int .u32 (xa:Int)):=c0
       have c1':(wr.drewN nq).cell? ⟨vb,1,none⟩=some (.int .u32 (xb:Int)):=c1
       have c2':(wr.drewN nq).cell? ⟨vb,2,none⟩=some (.int .u32 (xc:Int)):=c2
       have hX2:(((xh:Int)+((sum1 xe:Nat):Int)+bits .xor .u32 ((xe &&& xf:Nat):Int) (bits .and .u32 (bits .xor .u32 (if IntKind.u32.signed=true then -1 else IntKind.u32.max) (xe:Int)) (xg:Int))+(kt:Int))%4294967296+(wt:Int))%4294967296=(X:Int):=by
        rw [show (if IntKind.u32.signed=true then (-1:Int) else IntKind.u32.max)=IntKind.u32.max from rfl,e4,e5,e6,hXh.out,rndX]
        generalize ((xe &&& xf) ^^^ ((4294967295 ^^^ xe) &&& xg))=ch
        simp only
        omega
       rw [hX2]
       clear hX2
       clear h0 h1 h2 h3 h4 hbel c0 c1 c2 c3 c4 c5 c6 c7 ck cw hX e1 e2 e3 e4 e5 e6
       generalize wr.drewN nq=wo at *
       go_simp
       go_step
       go_step
       go_quiet (first
        | (go_at_call 85;with_reducible exact zBK (turn_at xa 2 2 rfl ba (by omega) (by omega) _))
        | (go_at_call 85;with_reducible exact zBK (turn_at xa 13 13 rfl ba (by omega) (by omega) _))
        | (go_at_call 85;with_reducible exact zBK (turn_at xa 22 22 rfl ba (by omega) (by omega) _)))
       have g0:=k0.drewN nq
       have g1:=k1.drewN nq
       have g2:=k2.drewN nq
       have g3:=k3.drewN nq
       have g4:=k4.drewN nq
       have gbel:=bdrewN kbel nq
       clear k0 k1 k2 k3 k4 kbel c0' c1' c2' f1 f2 f3 f4 f5 f6 f7 hY r2 r13 r22 r6 r11 r25
       generalize wo.drewN nq=wp at *
       go_simp
       go_step
       have d0:wp.cell? ⟨vb,0,none⟩=some (.int .u32 (xa:Int)):=g0.cell 0
       have d1:wp.cell? ⟨vb,1,none⟩=some (.int .u32 (xb:Int)):=g0.cell 1
       have d2:wp.cell? ⟨vb,2,none⟩=some (.int .u32 (xc:Int)):=g0.cell 2
       have d3:wp.cell? ⟨vb,3,none⟩=some (.int .u32 (xd:Int)):=g0.cell 3
       have d4:wp.cell? ⟨vb,4,none⟩=some (.int .u32 (xe:Int)):=g0.cell 4
       have d5:wp.cell? ⟨vb,5,none⟩=some (.int .u32 (xf:Int)):=g0.cell 5
       have d6:wp.cell? ⟨vb,6,none⟩=some (.int .u32 (xg:Int)):=g0.cell 6
       obtain ⟨D,hD,hDe⟩ : ∃ D:Nat,IntKind.u32.wrap ((xd:Int)+(X:Int))=(D:Int)∧D=(xd+X)%4294967296:=⟨_,by rw [IntKind.wrap_u32];omega,rfl⟩
       obtain ⟨A0,hA,hAe⟩ : ∃ A0:Nat,IntKind.u32.wrap ((X:Int)+(Y:Int))=(A0:Int)∧A0=(X+Y)%4294967296:=⟨_,by rw [IntKind.wrap_u32];omega,rfl⟩
       have hDh:=Lib.hid hDe
       have hAh:=Lib.hid hAe
       clear hDe hAe
       have hiN:(Tryz.prog.info? 128).map (·.size)=some (u32s (H8.mk A0 xa xb xc D xe xf xg).list).size:=by rw [zAp];exact sz8
       have hallN:=zBr (H8.mk A0 xa xb xc D xe xf xg).list
       go_wp2_with (first
        | (refine wpList_store_row rfl 128 (.tmp 12) (.tmp 194) rfl vb (u32s (H8.mk A0 xa xb xc D xe xf xg).list) rfl rfl _ _ g0 hiN rfl hallN ?_))
       have e0:Blk (wp.setRow vb (u32s (H8.mk A0 xa xb xc D xe xf xg).list)) vb 128 (u32s (H8.mk A0 xa xb xc D xe xf xg).list):=setRow_heap _ _ _ _ _ _ g0
       have e1:Blk (wp.setRow vb (u32s (H8.mk A0 xa xb xc D xe xf xg).list)) (w.heap.size+1+1+1) 129 (u32s (wordsOf b)):=by unfold Blk;rw [setRow_other _ _ _ _ (by omega)];exact g1
       have e2:Blk (wp.setRow vb (u32s (H8.mk A0 xa xb xc D xe xf xg).list)) w.heap.size 128 (u32s s0.list):=by unfold Blk;rw [setRow_other _ _ _ _ (by omega)];exact g2
       have e3:Blk (wp.setRow vb (u32s (H8.mk A0 xa xb xc D xe xf xg).list)) (w.heap.size+1) 129 (u32s KK):=by unfold Blk;rw [setRow_other _ _ _ _ (by omega)];exact g3
       have e4:Blk (wp.setRow vb (u32s (H8.mk A0 xa xb xc D xe xf xg).list)) (w.heap.size+1+1) 128 (u32s (List.replicate 8 0)):=by unfold Blk;rw [setRow_other _ _ _ _ (by omega)];exact g4
       have e5:Below w.heap.size w (wp.setRow vb (u32s (H8.mk A0 xa xb xc D xe xf xg).list)):=zAa gbel (by omega) _
       have hns:Hid (H8.mk A0 xa xb xc D xe xf xg=after (wordsOf b) s0 (t+1)):=by
        show _=_
        rw [hnext.out,rnd,hAh.out,hDh.out,hXh.out,hYh.out]
       have hnf:(H8.mk A0 xa xb xc D xe xf xg).Fit:=⟨by have:=hAh.out;show A0<_;omega,ba,bb,bc,by have:=hDh.out;show D<_;omega,be,bf,bg⟩
       clear d0 d1 d2 d3 d4 d5 d6 hD hA hiN hallN
       generalize wp.setRow vb (u32s (H8.mk A0 xa xb xc D xe xf xg).list)=wq at *
       go_wp2
       go_roundw
       case rel=>exact ⟨t+1,_,by go_num,by omega,hns,hnf,e0,e1,e2,e3,e4,e5⟩
       case measure=>simp [intOf];omega
      ·have ht64:t=64:=by omega
       have hti : ¬ (t:Int)<64:=by omega
       obtain ⟨R,hR⟩ : ∃ R,Hid (blockOf s0 b=R):=⟨_,rfl⟩
       have hsv:Hid (R=s.plus s0):=by show _=_;rw [←hR.out,blockOf,←ht64,←hst.out]
       clear ht64 hst
       go_wp2
       go_loopw [16] (fun i wr => ∃ i':Nat,i = .int .i64 i'∧i'≤8∧Blk wr vb 128 (u32s (mixed s.list s0.list i'))∧Blk wr w.heap.size 128 (u32s s0.list)∧Blk wr (w.heap.size+1+1) 128 (u32s (List.replicate 8 0))∧Below w.heap.size w wr) (fun i _=>8-(intOf i).toNat)
       case atStart=>exact ⟨0,rfl,by omega,h0,h2,h4,hbel⟩
       case round=>
        clear h0 h1 h2 h3 h4 hbel hbs
        obtain ⟨i,rfl,hi,h1,h2,h3,hbel⟩:=hrel
        have hbs:=h1.lt
        by_cases hi8:i<8
        ·have hii:(i:Int)<8:=by omega
         have ml:(mixed s.list s0.list i).length=8:=zD0 s.list s0.list rfl i hi
         have cv:wr.cell? ⟨vb,i,none⟩=some (.int .u32 (s.list.getD i 0:Nat)):=by
          rw [h1.cell,zA0 _ _ (by omega),mixed_get s.list s0.list rfl i hi8]
         have cs:wr.cell? ⟨w.heap.size,i,none⟩=some (.int .u32 (s0.list.getD i 0:Nat)):=by
          rw [h2.cell,zA0 _ _ hi8]
         have zv:=h1.frozen i
         have hms:=Lib.hid (mixed_step s.list s0.list rfl i hi8)
         unfold add32 at hms
         generalize s.list.getD i 0=xv at *
         generalize s0.list.getD i 0=xs at *
         obtain ⟨N,hN,hNe⟩ : ∃ N:Nat,IntKind.u32.wrap ((xv:Int)+(xs:Int))=(N:Int)∧N=(xv+xs)%4294967296:=⟨_,by rw [IntKind.wrap_u32];omega,rfl⟩
         have hNh:=Lib.hid hNe
         clear hNe
         go_wp2
         go_region
         go_wp2
         go_roundw
         case rel=>
          refine ⟨i+1,by go_num,by omega,?_,?_,?_,?_⟩
          ·have:=(h1.set_ i (.int .u32 (N:Int))).drew
           rw [zB2,hNh.out,hms.out] at this
           rw [hNh.out]
           exact this
          ·exact (h2.far (p:=⟨vb,i,none⟩) (by simp;omega) _).drew
          ·exact (h3.far (p:=⟨vb,i,none⟩) (by simp;omega) _).drew
          ·exact (hbel.setCell (p:=⟨vb,i,none⟩) (by simp;omega) _).drew
         case measure=>simp [intOf];omega
        ·have hi8':i=8:=by omega
         have hii : ¬ (i:Int)<8:=by omega
         rw [hi8',mixed_all,←hsv.out] at h1
         clear hi8'
         have hi':(Tryz.prog.info? 128).map (·.size)=some (u32s R.list).size:=by rw [zAp];exact sz8
         have hall':=zBr R.list
         have hold':(u32s (List.replicate 8 0)).size=(u32s R.list).size:=by rw [zAp];rfl
         go_wp2_with (first
          | (refine wpList_load_row rfl 128 (.tmp 12) rfl vb rfl _ _ _ _ h1 Tryz.underlying128 rfl hi' ?_)
          | (refine wpList_store_row rfl 128 (.tmp 6) (.tmp 208) rfl (w.heap.size+1+1) (u32s R.list) rfl rfl _ _ h3 hi' hold' hall' ?_))
         exact bodyPost_ret (results_cell_row rfl _ _ (w.heap.size+1+1) _ _ _ _ rfl (setRow_heap _ _ _ _ _ _ h3) Tryz.underlying128 rfl hi') rfl ⟨by rw [hR.out],zAa hbel (by omega) _⟩
end
section
attribute [local go_sem ↓] Go.wp_at_zero Go.wp_at_succ
attribute [local go_sem ↓] ldv8_eq stv8_eq
attribute [local go_sem] run_ldv8 run_stv8
def ldv64 (p:Addr):Sem Value:=loadVar 129 p
theorem ldv64_eq (p:Addr):loadVar 129 p=ldv64 p:=rfl
theorem run_ldv64 (w:World) (g:Nat) (hh:HasRow w g 129 64):(ldv64 ⟨g,0,none⟩).run Tryz.prog w = .ok (.agg (RowOf w g)) w:=by
 obtain ⟨cs,hn,h⟩:=hh
 rw [zBU h]
 exact run_loadVar_row w g _ _ _ _ _ h Tryz.underlying129 rfl (by rw [hn];exact sz64)
attribute [local go_sem ↓] ldv64_eq
attribute [local go_sem] run_ldv64
theorem pad_done (n j:Nat) (hj:j≤padLen n) (h:(n+1+j)%64=56):j=padLen n:=by unfold padLen at *;omega
theorem pad_more (n j:Nat) (hj:j≤padLen n) (h:(n+1+j)%64≠56):j+1≤padLen n:=by unfold padLen at *;omega
theorem lenBytes_step' (n j:Nat) (hj:j<8):(zAV n).take (7-j)++[UInt8.ofNat ((n:Int)*8 / 2 ^ (8*j)%256).toNat]=(zAV n).take (8-j):=by
 have:=zC0 n (7-j) (by omega)
 rwa [show 56-8*(7-j)=8*j from by omega,show 7-j+1=8-j from by omega] at this
theorem blocks_take (m:Nat) (s:H8) (l:List UInt8):blocks (m+1) s l=blocks m (blockOf s (l.take 64)) (l.drop 64):=rfl
theorem k_calls' (KK:List Nat) (h:Hid (K256=KK)) (w:World) :
 Calls Tryz.prog 53 #[] w fun e w'=>e = .returned (.agg (u32s KK))∧Below w.heap.size w w':=h.out▸k_calls w
theorem refBlock_calls' (KK:List Nat) (h:Hid (K256=KK)) (s0:H8) (hs0:s0.Fit) (b:List UInt8) (hb:b.length=64) (w:World) :
 Calls Tryz.prog 54 #[.agg (u32s s0.list), .string (B b), .agg (u32s KK)] w fun e w'=>e = .returned (.agg (u32s (blockOf s0 b).list))∧Below w.heap.size w w':=h.out▸refBlock_calls s0 hs0 b hb w
set_option maxRecDepth 100000 in
set_option maxHeartbeats 2000000 in
theorem zD2 (l:List UInt8) (w:World) (hlen:l.length≤1099511627776) :
 Calls Tryz.prog 23 #[.string (B l)] w fun e w'=>e = .returned (.agg (u8s (shaOf l)))∧Below w.heap.size w w':=by
 have hll:(l.length:Int)≤1099511627776:=by omega
 obtain ⟨KK,hKK⟩ : ∃ KK,Hid (K256=KK):=⟨_,rfl⟩
 have hKl:KK.length=64:=by rw [←hKK.out];exact zBl
 have hst1:=Tryz.str_of_one
 have hst2:=fun (o:Obj) (x:Int)=>Tryz.str_of_oneAt (w.alloc o) (w.heap.size+1) x (by simp)
 go_enter Tryz.func23,Tryz.ntmps23
 go_wp2
 clear hst2
 have g0:=(Blk.new w 28 (u8s (List.replicate 32 0))).alloc (.cells #[.int .u8 128] 5)
 have b0:Below w.heap.size w ((w.alloc (.cells (u8s (List.replicate 32 0)) 28)).alloc (.cells #[.int .u8 128] 5)):=((Below.refl _ _).alloc (Nat.le_refl _) _).alloc (by simp) _
 go_loopw [4] (fun tx wr => ∃ (j:Nat),j≤padLen l.length∧tx = .string (B (l++128::List.replicate j 0))∧Blk wr w.heap.size 28 (u8s (List.replicate 32 0))∧Below w.heap.size w wr) (fun tx _=>l.length+1+64-(strOf tx).length)
 case atStart=>exact ⟨0,by omega,by simp,g0,b0⟩
 case round=>
  clear g0 b0
  obtain ⟨j,hj,rfl,hr,hbel⟩:=hrel
  have hrl:=hr.lt
  have hp64:padLen l.length<64:=by unfold padLen;omega
  have hjl:(j:Int)<64:=by omega
  have hlen0:(l++128::List.replicate j 0).length=l.length+1+j:=by simp;omega
  by_cases hd:(l.length+1+j)%64=56
  ·have hje:=pad_done _ _ hj hd
   have ht1:(((l++128::List.replicate j 0).length:Int)%64 != 56)=false:=by rw [hlen0];simp;omega
   have ht2:(((l.length:Int)+((j:Int)+1))%64 != 56)=false:=by simp;omega
   have ht3:(((l.length:Int)+1+(j:Int))%64 != 56)=false:=by simp;omega
   have hbsl:=Lib.hid hlen0
   have hbse:Hid (l++128::List.replicate j 0=l++128::List.replicate (padLen l.length) 0):=by show _=_;rw [←hje]
   clear hje hd hj
   generalize l++128::List.replicate j 0=bs at *
   have hbl:bs.length≤1099511627776+65:=by omega
   clear hlen0
   go_wp2
   go_loopw [5,4] (fun i tx wr => ∃ k:Nat,i = .int .i64 (7-(k:Int))∧k≤8∧tx = .string (B (bs++(zAV l.length).take k))∧Blk wr w.heap.size 28 (u8s (List.replicate 32 0))∧Below w.heap.size w wr) (fun i _ _=>(intOf i+1).toNat)
   case atStart=>exact ⟨0,rfl,by omega,by rw [List.take_zero,List.append_nil],hr,hbel⟩
   case round=>
    clear hr hbel hrl ht1 ht2 ht3
    obtain ⟨k,rfl,hk,rfl,hr,hbel⟩:=hrel
    have hrl:=hr.lt
    by_cases hk8:k<8
    ·obtain ⟨i,hi⟩ : ∃ i:Nat,(7-(k:Int))=(i:Int):=⟨7-k,by omega⟩
     have hi8:i<8:=by omega
     have hii:(i:Int)<8:=by omega
     have hstep:=lenBytes_step' l.length i hi8
     rw [show 7-i=k from by omega,show 8-i=k+1 from by omega] at hstep
     have hsteph:=Lib.hid hstep
     clear hstep
     have hnext:Hid ((i:Int)-1=7-((k+1:Nat):Int)):=by show _=_;omega
     rw [hi]
     clear hi
     have ht0:((zAV l.length).take k).length≤8:=by rw [List.length_take];omega
     generalize (zAV l.length).take k=t0 at *
     go_wp2
     go_roundw
     case rel=>exact ⟨k+1,congrArg (Value.int .i64) hnext.out,by omega,by rw [←hsteph.out],hr.alloc _,hbel.alloc (by omega) _⟩
     case measure=>simp [intOf]
    ·have hk8':k=8:=by omega
     have hki:(7-(k:Int))<0:=by omega
     have hpd:bs++(zAV l.length).take k=padded l:=by
      rw [hk8',List.take_of_length_le (by rw [zA9];omega),hbse.out]
      simp [padded]
     rw [hpd]
     clear hpd hk8'
     obtain ⟨m0,hm0⟩:=zDl l
     have hst0:Hid (blocks m0 H0 (padded l)=stateOf l):=by
      show _=_
      rw [stateOf,hm0,Nat.mul_div_cancel_left _ (by omega)]
     have hpdl:(padded l).length≤1099511627976:=by
      have:(padded l).length=l.length+1+padLen l.length+8:=by simp [padded,zA9];omega
      rw [this];omega
     have hm0h:=Lib.hid hm0
     clear hm0 hbse hbsl
     generalize padded l=pd at *
     have hi8:(Tryz.prog.info? 128).map (·.size)=some (u32s H0.list).size:=by rw [zAp];exact sz8
     have hall:=zBr H0.list
     have hold:(u32s (List.replicate 8 0)).size=(u32s H0.list).size:=rfl
     have hv0:=Blk.new wr 128 (u32s (List.replicate 8 0))
     have h0:Blk (World.setRow (wr.alloc (.cells (u32s (List.replicate 8 0)) 128)) wr.heap.size (u32s H0.list)) wr.heap.size 128 (u32s H0.list):=setRow_heap _ _ _ _ _ _ hv0
     have h1:Blk (World.setRow (wr.alloc (.cells (u32s (List.replicate 8 0)) 128)) wr.heap.size (u32s H0.list)) w.heap.size 28 (u8s (List.replicate 32 0)):=by
      unfold Blk;rw [setRow_other _ _ _ _ (by omega)];exact hr.alloc _
     have h2:Below w.heap.size w (World.setRow (wr.alloc (.cells (u32s (List.replicate 8 0)) 128)) wr.heap.size (u32s H0.list)):=zAa (hbel.alloc (by omega) _) (by omega) _
     have hi64:(Tryz.prog.info? 129).map (·.size)=some (u32s KK).size:=by rw [zBe,hKl];exact sz64
     have hall64:=zBr KK
     have hold64:(u32s (zeros 64)).size=(u32s KK).size:=by rw [zBe,zBe,hKl,zBB]
     go_wp2_with (first
      | (refine wpList_store_row rfl 128 (.tmp 6) (.tmp 41) rfl wr.heap.size (u32s H0.list) rfl rfl _ _ hv0 hi8 hold hall ?_)
      | (refine wpList_store_row rfl 129 (.tmp 7) (.tmp 42) rfl w1.heap.size (u32s KK) rfl rfl _ _ (Blk.new w1 129 (u32s (zeros 64))) hi64 hold64 hall64 ?_)
      | (go_at_call 53;go_must (refine (k_calls' KK hKK _).mono ?_);rintro e w1 ⟨rfl,hb1⟩))
     clear hv0 hr hbel hall hold hi8 hold64 hall64 hi64
     have k0:=h0.below hb1 h0.lt
     have k1:=h1.below hb1 h1.lt
     have k2:=bthen h2 h2.size hb1
     have hvw1:wr.heap.size<w1.heap.size:=k0.lt
     have hv1:=Blk.new w1 129 (u32s (zeros 64))
     have q0:Blk (World.setRow (w1.alloc (.cells (u32s (zeros 64)) 129)) w1.heap.size (u32s KK)) w1.heap.size 129 (u32s KK):=setRow_heap _ _ _ _ _ _ hv1
     have q1:Blk (World.setRow (w1.alloc (.cells (u32s (zeros 64)) 129)) w1.heap.size (u32s KK)) wr.heap.size 128 (u32s H0.list):=by
      unfold Blk;rw [setRow_other _ _ _ _ (by omega)];exact k0.alloc _
     have q2:Blk (World.setRow (w1.alloc (.cells (u32s (zeros 64)) 129)) w1.heap.size (u32s KK)) w.heap.size 28 (u8s (List.replicate 32 0)):=by
      unfold Blk;rw [setRow_other _ _ _ _ (by omega)];exact k1.alloc _
     have q3:Below w.heap.size w (World.setRow (w1.alloc (.cells (u32s (zeros 64)) 129)) w1.heap.size (u32s KK)):=zAa (k2.alloc (by omega) _) (by omega) _
     obtain ⟨vb,hvb⟩ : ∃ vb,wr.heap.size=vb:=⟨_,rfl⟩
     obtain ⟨kb,hkb⟩ : ∃ kb,w1.heap.size=kb:=⟨_,rfl⟩
     have hvw:w.heap.size<vb:=by omega
     have hkw:vb<kb:=by omega
     obtain ⟨wz,hwz⟩ : ∃ wz,World.setRow (w1.alloc (.cells (u32s (zeros 64)) 129)) w1.heap.size (u32s KK)=wz:=⟨_,rfl⟩
     rw [hwz] at q0 q1 q2 q3
     clear h0 h1 h2 k0 k1 k2 hb1 hv1 hvw1
     go_loopw [8] (fun i wr => ∃ (i' m:Nat) (s:H8),i = .int .i64 i'∧i'≤1099511627976∧Hid (pd.length=i'+64*m)∧Hid (blocks m s (pd.drop i')=stateOf l)∧s.Fit∧Blk wr kb 129 (u32s KK)∧Blk wr vb 128 (u32s s.list)∧Blk wr w.heap.size 28 (u8s (List.replicate 32 0))∧Below w.heap.size w wr) (fun i _=>pd.length+64-(intOf i).toNat)
     case atStart=>exact ⟨0,m0,H0,rfl,by omega,by rw [Nat.zero_add];exact hm0h,hst0,H0_fit,hwz▸hkb▸q0,hwz▸hvb▸q1,hwz▸q2,hwz▸q3⟩
     case round=>
      rw [hvb,hkb]
      clear q0 q1 q2 q3 hwz hvb hkb hm0h hst0 hrl
      obtain ⟨i,m,s,rfl,hi,hm,hst,hfit,h0,h1,h2,h3⟩:=hrel
      have hbs1:=h1.lt
      by_cases hlt:i+64≤pd.length
      ·have hlti:(i:Int)+64≤(pd.length:Int):=by omega
       have hR:HasRow wr vb 128 8:=zB7 h1 (zAp s)
       have hO:RowOf wr vb=u32s s.list:=zBU h1
       have hRd:HasRow wr.drew vb 128 8:=hR
       have hOd:RowOf wr.drew vb=u32s s.list:=hO
       have hRk:HasRow wr kb 129 64:=zB7 h0 (by rw [zBe];exact hKl)
       have hOk:RowOf wr kb=u32s KK:=zBU h0
       have hRkd:HasRow wr.drew kb 129 64:=hRk
       have hOkd:RowOf wr.drew kb=u32s KK:=hOk
       have h0d:Blk wr.drew kb 129 (u32s KK):=h0
       have h1d:Blk wr.drew vb 128 (u32s s.list):=h1
       have hbs1d:vb<wr.drew.heap.size:=hbs1
       have hbs0d:kb<wr.drew.heap.size:=h0.lt
       go_wp2
       have s1:IntKind.i64.wrap ((i:Int)+64)=(i:Int)+64:=IntWalk.i64_in _ (by omega)
       have s2:0≤(i:Int)+64:=by omega
       have s3:(i:Int)≤(i:Int)+64:=by omega
       have s4:((i:Int)+64).toNat=i+64:=by omega
       have s5:i+64-i=64:=by omega
       go_region_with (first
        | (go_at_call 54;go_must (refine (refBlock_calls' KK hKK s hfit ((pd.drop i).take 64) (by rw [List.length_take,List.length_drop];omega) _).mono ?_);rintro e w1 ⟨rfl,hb1⟩;have hRc:=zB7 (h1d.below hb1 hbs1d) (zAp s);have hOc:=zBU (h1d.below hb1 hbs1d)))
       all_goals
        clear s1 s2 s3 s4 s5
        have e0:Blk (w1.setRow vb (u32s (blockOf s ((pd.drop i).take 64)).list)) kb 129 (u32s KK):=by
         unfold Blk;rw [setRow_other _ _ _ _ (by omega)];exact Blk.below (w:=wr.drew) h0 hb1 h0.lt
        have e1:=setRow_heap w1 vb _ (u32s (blockOf s ((pd.drop i).take 64)).list) _ _ (h1d.below hb1 hbs1d)
        have e2:Blk (w1.setRow vb (u32s (blockOf s ((pd.drop i).take 64)).list)) w.heap.size 28 (u8s (List.replicate 32 0)):=by
         unfold Blk;rw [setRow_other _ _ _ _ (by omega)];exact Blk.below (w:=wr.drew) h2 hb1 h2.lt
        have e3:=zAa (bthen h3.drew (Nat.le_of_lt h2.lt) hb1) (Nat.le_of_lt hvw) (u32s (blockOf s ((pd.drop i).take 64)).list)
        have hml:=hm.out
        obtain ⟨m',rfl⟩ : ∃ m',m=m'+1:=⟨m-1,by omega⟩
        have hnst:Hid (blocks m' (blockOf s ((pd.drop i).take 64)) (pd.drop (i+64))=stateOf l):=by
         have:=hst.out
         rw [blocks_take,List.drop_drop] at this
         exact this
        have hnm:Hid (pd.length=i+64+64*m'):=by show _=_;omega
        have hfit2:(blockOf s ((pd.drop i).take 64)).Fit:=plus_fit _ _
        generalize blockOf s ((pd.drop i).take 64)=s' at *
        clear hRc hOc hb1 hml hm hst
        generalize w1.setRow vb (u32s s'.list)=wz at *
        go_wp2
        go_roundw
        case rel=>exact ⟨i+64,m',s',by go_num,by omega,hnm,hnst,hfit2,e0,e1,e2,e3⟩
        case measure=>simp [intOf];omega
      ·have hlti:(pd.length:Int)<(i:Int)+64:=by omega
       have hsl:Hid (s=stateOf l):=by
        have hm0':m=0:=by have:=hm.out;omega
        have:=hst.out
        rw [hm0'] at this
        exact this
       clear hst hm
       have hg0:=Blk.new wr 28 (u8s (List.replicate 32 0))
       have k0:Blk (World.setRow (wr.alloc (.cells (u8s (List.replicate 32 0)) 28)) wr.heap.size (u8s (List.replicate 32 0))) wr.heap.size 28 (u8s (List.replicate 32 0)):=setRow_heap _ _ _ _ _ _ hg0
       have k1:Blk (World.setRow (wr.alloc (.cells (u8s (List.replicate 32 0)) 28)) wr.heap.size (u8s (List.replicate 32 0))) vb 128 (u32s s.list):=by
        unfold Blk;rw [setRow_other _ _ _ _ (by omega)];exact h1.alloc _
       have k2:Blk (World.setRow (wr.alloc (.cells (u8s (List.replicate 32 0)) 28)) wr.heap.size (u8s (List.replicate 32 0))) w.heap.size 28 (u8s (List.replicate 32 0)):=by
        unfold Blk;rw [setRow_other _ _ _ _ (by omega)];exact h2.alloc _
       have k3:Below w.heap.size w (World.setRow (wr.alloc (.cells (u8s (List.replicate 32 0)) 28)) wr.heap.size (u8s (List.replicate 32 0))):=zAa (h3.alloc (Nat.le_of_lt h2.lt) _) (by omega) _
       have hi':(Tryz.prog.info? 28).map (·.size)=some (u8s (List.replicate 32 0)).size:=by rw [zAh,List.length_replicate];exact sz32
       have hall':=u8s_one (List.replicate 32 0)
       go_wp2_with (first
        | (refine wpList_store_row rfl 28 (.tmp 9) (.tmp 58) rfl wr.heap.size (u8s (List.replicate 32 0)) rfl rfl _ _ hg0 hi' rfl hall' ?_))
       obtain ⟨ib,hib⟩ : ∃ ib,wr.heap.size=ib:=⟨_,rfl⟩
       have hvi:vb<ib:=by omega
       clear h0 h1 h2 h3 hg0
       obtain ⟨wz,hwz⟩ : ∃ wz,World.setRow (wr.alloc (.cells (u8s (List.replicate 32 0)) 28)) wr.heap.size (u8s (List.replicate 32 0))=wz:=⟨_,rfl⟩
       rw [hwz] at k0 k1 k2 k3
       go_loopw [10] (fun i wr => ∃ k:Nat,i = .int .i64 k∧k≤32∧Blk wr ib 28 (u8s ((idOf s).take k++List.replicate (32-k) 0))∧Blk wr vb 128 (u32s s.list)∧Blk wr w.heap.size 28 (u8s (List.replicate 32 0))∧Below w.heap.size w wr) (fun i _=>32-(intOf i).toNat)
       case atStart=>exact ⟨0,rfl,by omega,hwz▸hib▸k0,hwz▸k1,hwz▸k2,hwz▸k3⟩
       case round=>
        rw [hib]
        clear k0 k1 k2 k3 hwz hib hbs1
        obtain ⟨i,rfl,hi,h0,h1,h2,h3⟩:=hrel
        have hbi:=h0.lt
        by_cases hi32:i<32
        ·have hii:(i:Int)<32:=by omega
         have hq:(i:Int) / 4<8:=by omega
         have hq0:(0:Int)≤(i:Int) / 4:=by omega
         have hqn:i / 4<8:=by omega
         have cw:wr.cell? ⟨vb,i / 4,none⟩=some (.int .u32 (s.list.getD (i / 4) 0:Nat)):=by
          rw [h1.cell,zA0 _ _ hqn]
         have cz:wr.cell? ⟨ib,i,none⟩=some (.int .u8 ((((idOf s).take i++List.replicate (32-i) 0).getD i 0).toNat:Nat)):=by
          rw [h0.cell,u8s_get _ _ (by rw [List.length_append,List.length_take,zAL,List.length_replicate];omega)]
         have fz:=h0.frozen i
         have hset:=Lib.hid (take_set (idOf s) i 32 (by rw [zAL];exact hi32) (zAL s).symm)
         have hget:=Lib.hid (idOf_get s i hi32)
         generalize (((idOf s).take i++List.replicate (32-i) 0).getD i 0).toNat=oz at *
         generalize s.list.getD (i / 4) 0=x at *
         go_wp2
         have hvv:(x:Int) / 2 ^ (24-8*(i%4))%256=((x / 2 ^ (24-8*(i%4))%256:Nat):Int):=by simp
         rw [hvv]
         have hlt:=Nat.mod_lt (x / 2 ^ (24-8*(i%4))) (show 0<256 by omega)
         have hn:=h0.set_ i (.int .u8 ((x / 2 ^ (24-8*(i%4))%256:Nat):Int))
         rw [u8s_set _ _ _ hlt,←hget.out,hset.out] at hn
         go_roundw
         case rel=>exact ⟨i+1,by go_num,by omega,hn,h1.far (by simp;omega) _,h2.far (by simp;omega) _,h3.setCell (by simp;omega) _⟩
         case measure=>simp [intOf];omega
        ·have hi32':i=32:=by omega
         have hii : ¬ (i:Int)<32:=by omega
         have h0':Blk wr ib 28 (u8s (idOf s)):=by
          rw [hi32',List.take_of_length_le (by rw [zAL];omega),Nat.sub_self,List.replicate_zero,List.append_nil] at h0
          exact h0
         clear hi32' h0
         have hid:(idOf s).length=32:=zAL s
         have hfin:Hid (shaOf l=idOf s):=by show _=_;rw [hsl.out];rfl
         clear hsl
         generalize idOf s=id at *
         have hi2:(Tryz.prog.info? 28).map (·.size)=some (u8s id).size:=by rw [zAh,hid];exact sz32
         have hall2:=u8s_one id
         have hold2:(u8s (List.replicate 32 0)).size=(u8s id).size:=by rw [zAh,zAh,hid,List.length_replicate]
         go_wp2_with (first
          | (refine wpList_load_row rfl 28 (.tmp 9) rfl ib rfl _ _ _ _ h0' Tryz.underlying28 rfl hi2 ?_)
          | (refine wpList_store_row rfl 28 (.tmp 2) (.tmp 76) rfl w.heap.size (u8s id) rfl rfl _ _ h2 hi2 hold2 hall2 ?_))
         exact bodyPost_ret (results_cell_row rfl _ _ w.heap.size _ _ _ _ rfl (setRow_heap _ _ _ _ _ _ h2) Tryz.underlying28 rfl hi2) rfl ⟨by rw [hfin.out],zAa h3 (Nat.le_refl _) _⟩
  ·have hjm:=pad_more _ _ hj hd
   have ht1:(((l++128::List.replicate j 0).length:Int)%64 != 56)=true:=by rw [hlen0];simp;omega
   have ht2:(((l.length:Int)+((j:Int)+1))%64 != 56)=true:=by simp;omega
   have ht3:(((l.length:Int)+1+(j:Int))%64 != 56)=true:=by simp;omega
   have hq:Hid ((l++128::List.replicate j 0)++[0]=l++128::List.replicate (j+1) 0):=by
    show _=_
    rw [List.append_assoc,List.cons_append,←List.replicate_succ']
   go_wp2
   go_roundw
   case rel=>exact ⟨j+1,hjm,by rw [←hq.out];simp,hr.alloc _,hbel.alloc (by omega) _⟩
   case measure=>rw [strOf_B,strOf_B];simp;omega
end
section
attribute [local go_sem ↓] ldvP_eq
abbrev OwnPits (w:World) (B:Nat) (v:Value) (l:List Pl):Prop:=w.ownsRow B 30 35 v l.length (rowsOf (fun p:Pl=>pitC p.1) l)
abbrev OwnPls (w:World) (B:Nat) (v:Value) (l:List Pl):Prop:=w.ownsRow B 122 2 v l.length (rowsOf plC l)
def ReadR (w:World) (x:List Pl×Nat) (e:Ending) (w':World):Prop := ∃ vl va,e = .returned (.tuple #[vl,va, .int .i64 x.2])∧OwnPits w' w.heap.size vl x.1∧OwnPls w' w.heap.size va x.1∧Below w.heap.size w w'
theorem ReadR.nil {w w':World} {k:Nat} (hb:Below w.heap.size w w'):ReadR w ([],k) (.returned (.tuple #[.slice none 0 0, .slice none 0 0, .int .i64 k])) w':=⟨_,_,rfl,World.ownsRow_nil _ _ _ _,World.ownsRow_nil _ _ _ _,hb⟩
end
section
attribute [local go_sem ↓] zDs
abbrev OwnRits (w:World) (B:Nat) (v:Value) (l:List Pl):Prop:=w.ownsRow B 50 37 v l.length (rowsOf ritC l)
end
section
abbrev Pits (w:World) (v:Value) (l:List PItL):Prop:=SliceAt w 35 pitC v l
abbrev Rits (w:World) (v:Value) (l:List Pl):Prop:=SliceAt w 37 ritC v l
theorem OwnRits.rits {w:World} {base:Nat} {v:Value} {l:List Pl} (hok : ∀ p∈l,p.1.base.length=32) (h:OwnRits w base v l):Rits w v l:=SliceAt.of_own (fun x hx=>ritC_len (hok x hx)) h
theorem rowsOf_map {α β:Type} {f:α→β} {enc:β→List Value} (l:List α):rowsOf enc (l.map f)=rowsOf (fun x=>enc (f x)) l:=by simp [rowsOf,List.flatMap_map]
theorem OwnPits.pits {w:World} {base:Nat} {v:Value} {l:List Pl} (hok : ∀ p∈l,p.1.base.length=32) (h:OwnPits w base v l):Pits w v (l.map (·.1)):=by
 refine SliceAt.of_own (base:=base) (e:=30) (fun x hx=>?_) ?_
 ·obtain ⟨p,hp,rfl⟩:=List.mem_map.1 hx
  exact zEq (hok p hp)
 ·rw [rowsOf_map,List.length_map]
  exact h
section
variable {w:World} {g o:Nat}
theorem zEl {x:PItL} (h:w.rangeAt g o (pitC x)):w.cell? ⟨g,o,none⟩=some (.int .i64 x.kind):=by have:=h 0 _ rfl;rwa [Nat.add_zero] at this
theorem pit_back {x:PItL} (h:w.rangeAt g o (pitC x)):w.cell? ⟨g,o+1,none⟩=some (.int .i64 x.back):=h 1 _ rfl
theorem pit_base {x:PItL} (h:w.rangeAt g o (pitC x)):w.rangeAt g (o+2) (u8s x.base).toList:=fun j u hu=>by
 have:=h (2+j) u (by
  unfold pitC
  rw [show 2+j=(j+1)+1 from by omega,List.getElem?_cons_succ,List.getElem?_cons_succ,List.getElem?_append_left (List.getElem?_eq_some_iff.1 hu).1]
  exact hu)
 rwa [←Nat.add_assoc] at this
theorem pit_data {x:PItL} (hx:x.base.length=32) (h:w.rangeAt g o (pitC x)):w.cell? ⟨g,o+34,none⟩=some (.string (B x.data)):=h 34 _ (by
 unfold pitC
 rw [show 34=(32+1)+1 from rfl,List.getElem?_cons_succ,List.getElem?_cons_succ,List.getElem?_append_right (by rw [zAT,hx];omega),zAT,hx]
 rfl)
theorem rit_kind {x:Pl} (h:w.rangeAt g o (ritC x)):w.cell? ⟨g,o,none⟩=some (.int .i64 x.1.kind):=by have:=h 0 _ rfl;rwa [Nat.add_zero] at this
theorem rit_back {x:Pl} (h:w.rangeAt g o (ritC x)):w.cell? ⟨g,o+1,none⟩=some (.int .i64 x.1.back):=h 1 _ rfl
theorem rit_base {x:Pl} (h:w.rangeAt g o (ritC x)):w.rangeAt g (o+2) (u8s x.1.base).toList:=fun j u hu=>by
 have:=h (2+j) u (by
  unfold ritC
  rw [show 2+j=(j+1)+1 from by omega,List.getElem?_cons_succ,List.getElem?_cons_succ,List.getElem?_append_left (List.getElem?_eq_some_iff.1 hu).1]
  exact hu)
 rwa [←Nat.add_assoc] at this
theorem rit_tail {x:Pl} (hx:x.1.base.length=32) (h:w.rangeAt g o (ritC x)) (i:Nat) {v:Value} (hv:[Value.string (B x.1.data), .int .i64 x.2.1, .int .i64 x.2.2][i]?=some v):w.cell? ⟨g,o+(34+i),none⟩=some v:=h (34+i) _ (by
 unfold ritC
 rw [show 34+i=(32+i+1)+1 from by omega,List.getElem?_cons_succ,List.getElem?_cons_succ,List.getElem?_append_right (by rw [zAT,hx];omega),zAT,hx,Nat.add_sub_cancel_left]
 exact hv)
theorem rit_data {x:Pl} (hx:x.1.base.length=32) (h:w.rangeAt g o (ritC x)):w.cell? ⟨g,o+34,none⟩=some (.string (B x.1.data)):=rit_tail hx h 0 rfl
end
theorem zCL {w:World} {g o:Nat} {l:Txt} (h:w.rangeAt g o (u8s l).toList) (hl:l.length=32):(ldvI ⟨g,o,none⟩).run Tryz.prog w = .ok (.agg (u8s l)) w:=by
 have:=run_loadVar_mid (P:=Tryz.prog) w g o 28 (u8s l).toList _ h Tryz.underlying28 rfl (by rw [zAT,hl];exact sz32)
 rwa [Array.toArray_toList] at this
end
def txC (t:Txt):List Value:=[.string (B t)]
theorem txC_one (l:List Txt) : ∀ x∈l,(txC x).length=1:=fun _ _=>rfl
abbrev Txs (w:World) (v:Value) (l:List Txt):Prop:=SliceAt w 1 txC v l
abbrev OwnTxs (w:World) (base:Nat) (v:Value) (l:List Txt):Prop:=w.ownsRow base 9 1 v l.length (rowsOf txC l)
theorem Tryz.txTy : SliceTy Tryz.prog 40 9 (.string ⟨#[]⟩) 1 16:=⟨Tryz.underlying40,info_parts (by kernel_rfl),rfl,by omega⟩
theorem OwnTxs.txs {w:World} {base:Nat} {v:Value} {l:List Txt} (h:OwnTxs w base v l):Txs w v l:=SliceAt.of_own (txC_one l) h
theorem OwnTxs.more {w:World} {base:Nat} {v:Value} {o:List Txt} {r:Txt} (h:w.ownsRow base 9 1 v (o.length+1) (rowsOf txC o++[.string (B r)])):OwnTxs w base v (o++[r]):=by
 unfold OwnTxs
 rw [zAo,zAx,List.length_append]
 exact h
def natC (n:Nat):List Value:=[.int .i64 n]
theorem natK (l:List Nat) : ∀ x∈l,(natC x).length=1:=fun _ _=>rfl
abbrev OwnNs (w:World) (base:Nat) (e:TypeId) (v:Value) (l:List Nat):Prop:=w.ownsRow base e 1 v l.length (rowsOf natC l)
theorem zB8 {w:World} {base base':Nat} {e e':TypeId} {size size' n n':Nat} {v v':Value} {xs xs':List Value} (h:w.ownsRow base e size v n xs) (h':w.ownsRow base' e' size' v' n' xs') (hne:e'≠e):v.ownBlock=none∨v.ownBlock≠v'.ownBlock:=by
 rcases h.2 with ⟨rfl,_⟩ | ⟨g,cap,cur,rfl,_,hh,_⟩
 ·exact .inl rfl
 ·exact .inr (zAD h' (show Blk w g e cur from hh) hne)
theorem Row.frozen {α:Type} {w:World} {g:Nat} {e:TypeId} {k cap:Nat} {enc:α→List Value} {s:List α} (h:Row w g e k enc cap s) (i:Nat):w.frozen? ⟨g,i,none⟩=false:=by
 obtain ⟨cur,hc,_⟩:=h.blk
 exact hc.frozen i
def StitsOk (l:List StL):Prop := ∀ r∈l,StitOk r
theorem stitK {l:List StL} (h:StitsOk l) : ∀ x∈l,(stitC x).length=33:=fun x hx=>zA8 (h x hx)
theorem stitOne (l:List StL) : ∀ u∈rowsOf stitC l,u.oneCell'=true:=rowsOf_one' fun x _=>zDf x
theorem szStit : (Tryz.prog.info? 165).map (·.size)=some 33:=by kernel_rfl
theorem sizedStit {r:StL} (h:StitOk r):(Tryz.prog.info? 165).map (·.size)=some (stitC r).length:=by rw [zA8 h];exact szStit
abbrev Stits (w:World) (v:Value) (l:List StL):Prop:=SliceAt w 33 stitC v l
abbrev zAS (w:World) (base:Nat) (v:Value) (l:List StL):Prop:=w.ownsRow base 165 33 v l.length (rowsOf stitC l)
theorem zAS.refs {w:World} {base:Nat} {v:Value} {l:List StL} (hok:StitsOk l) (h:zAS w base v l):Stits w v l:=SliceAt.of_own (stitK hok) h
theorem zDd {w:World} {g:Nat} {r:StL} (h:Blk w g 165 (stitC r).toArray):w.rangeAt g 0 (stitC r):=by
 have:=zAj h
 rwa [List.toList_toArray] at this
def ldvStit (p:Addr):Sem Value:=loadVar 165 p
theorem ldvStit_eq (p:Addr):loadVar 165 p=ldvStit p:=rfl
theorem run_ldvStit {w:World} {g o:Nat} {x:StL} (h:w.rangeAt g o (stitC x)) (hx:StitOk x):(ldvStit ⟨g,o,none⟩).run Tryz.prog w = .ok (.agg (stitC x).toArray) w:=
 run_loadVar_mid (P:=Tryz.prog) w g o 165 (stitC x) _ h Tryz.underlying165 rfl (sizedStit hx)
theorem zAS.of_row {w:World} {base g cap:Nat} {l:List StL} (hok:StitsOk l) (h:Row w g 165 33 stitC cap l) (hg:base≤g) {n:Nat} (hn:n=l.length):zAS w base (.slice (some ⟨g,0,none⟩) n cap) l:=by
 subst hn
 exact h.own (stitK hok) hg
theorem zStit_cells : zStit.cells.size=33:=rfl
section
attribute [local go_sem ↓] ldvStit_eq ldvI_eq
theorem zCO {w0 w:World} {f:FuncId} {args:Array Value} {v:Value} (hW:Below w0.heap.size w0 w) (h:Calls Tryz.prog f args w fun e w'=>e = .returned v∧Below w.heap.size w w') :
 Calls Tryz.prog f args w fun e w'=>e = .returned v∧Below w0.heap.size w0 w':=h.mono fun _ _ ⟨he,hb⟩=>⟨he,bthen hW hW.size hb⟩
set_option maxRecDepth 100000 in
set_option maxHeartbeats 4000000 in
theorem bsfStits_calls (l:List StL) (hok:StitsOk l) (hbig:l.length≤1000000) (v:Value) (w:World) (hv:Stits w v l) (f:FuncId) (hf : ∀ (a:Array Value) (W:World),(callFunc f a).run Tryz.prog W = .ok (.enter f a) W) (n:List UInt8) (hn:n.length=32) (cmp:StL→Int)
 (hcl : ∀ (W:World) (x:StL),x∈l→Below w.heap.size w W→Calls Tryz.prog f #[.agg (stitC x).toArray, .agg (u8s n)] W fun e w'=>e = .returned (.int .i64 (cmp x))∧Below W.heap.size W w')
 (p:Nat) (hp:p≤l.length) (hcmp : ∀ i x,l[i]?=some x→(cmp x<0↔i<p)) :
 Calls Tryz.prog 111 #[v, .agg (u8s n), .func (.func f) #[] #[]] w fun e w'=>
  e = .returned (.tuple #[.int .i64 p, .bool (hitAt cmp l p)])∧Below w.heap.size w w':=by
 obtain ⟨A,cap,rfl,hcap1,hcap2,hat⟩:=hv
 have hcmp:=Lib.hid hcmp
 obtain ⟨b,hb⟩ : ∃ b,Hid (b=hitAt cmp l p):=⟨_,Lib.hid rfl⟩
 rw [←hb.out]
 obtain ⟨W1,hW1⟩ : ∃ W1,w.alloc (.cells (u8s n) 28)=W1:=⟨_,rfl⟩
 have hn1:Blk W1 w.heap.size 28 (u8s n):=by rw [←hW1];exact Blk.new _ _ _
 have bW1:Below w.heap.size w W1:=by rw [←hW1];exact (Below.refl _ _).alloc (Nat.le_refl _) _
 have hsI:(Tryz.prog.info? 28).map (·.size)=some (u8s n).toList.length:=by rw [zAW,hn];exact sz32
 obtain ⟨NC,hNC⟩ : ∃ NC,u8s n=NC:=⟨_,rfl⟩
 rw [hNC] at hW1 hn1 hsI hcl ⊢
 clear hNC
 go_enter Tryz.func111,Tryz.ntmps111
 go_wp2
 go_loopw [9,10] (fun vi vj wr => ∃ lo hi:Nat,vi = .int .i64 lo∧vj = .int .i64 hi∧lo≤p∧p≤hi∧hi≤l.length∧Below W1.heap.size W1 wr) (fun vi vj _=>(intOf vj).toNat-(intOf vi).toNat)
 case atStart=>exact ⟨0,l.length,rfl,rfl,by omega,hp,by omega,Below.refl _ _⟩
 case round=>
  obtain ⟨lo,hi,rfl,rfl,hlo,hhi,hle,hbel⟩:=hrel
  clear hW1
  by_cases hlt:lo<hi
  ·have hli:(lo:Int)<(hi:Int):=by omega
   obtain ⟨m,hm⟩ : ∃ m:Nat,Hid (m=(lo+hi) / 2):=⟨_,Lib.hid rfl⟩
   have hm2:((lo:Int)+(hi:Int)) / 2=(m:Int):=by rw [hm.out];omega
   have hml:m<l.length:=by rw [hm.out];omega
   have hmi:(m:Int)<(l.length:Int):=by omega
   have hmlo:lo≤m:=by rw [hm.out];omega
   have hmhi:m<hi:=by rw [hm.out];omega
   obtain ⟨g,o,rfl,hg,hcell⟩:=hat (by omega)
   obtain ⟨x,hx⟩ : ∃ x,l[m]?=some x:=⟨_,List.getElem?_eq_getElem hml⟩
   have hxm:=List.mem_of_getElem? hx
   have hxok:=hok x hxm
   have hxr:=hcell m x hx
   have hc2:=fun W hb=>hcl W x hxm hb
   have hd:=hcmp.out m x hx
   clear hx hcell hat hcl
   go_wp2
   refine zAg (C:=fun W=>Below W1.heap.size W1 W) (by kernel_rfl) (by kernel_rfl) hbel.drew ?_
   repeat
    first
     | ((with_reducible refine zAs ?_ ?_)
        ·(go_simp;done)
        apply Exists.intro
        refine ⟨fun W hW=>?_,?_⟩
        ·have hb0:=bthen bW1 bW1.size hW
         have q0:=run_ldvStit (zAb hxr hg hb0) hxok
         have q1:(ldvI ⟨w.heap.size,0,none⟩).run Tryz.prog W = .ok (.agg NC) W:=by
          have:=run_loadVar_mid (P:=Tryz.prog) W w.heap.size 0 28 NC.toList _ (zAj (hn1.below hW hn1.lt)) Tryz.underlying28 rfl hsI
          rwa [Array.toArray_toList] at this
         have hkeep:=zCO hW (hc2 W hb0)
         go_simp
         first
          | rfl
          | (with_reducible exact hkeep)
        simp only [Act.put,zA,zB,zC])
     | ((with_reducible refine zAk ?_ ?_)
        ·(first | rfl | (go_simp;done))
        simp only [Act.put,zA,zB,zC])
   with_reducible refine wpQuiet_nil ?_
   intro w5 hW5
   by_cases hneg:cmp x<0
   ·have hmp:m<p:=hd.1 hneg
    clear hd
    go_wp2
    go_roundw
    case rel=>exact ⟨m+1,hi,by go_num,rfl,by omega,hhi,hle,hW5⟩
    case measure=>simp [intOf];omega
   ·have hmp : ¬ m<p:=fun h=>hneg (hd.2 h)
    clear hd
    go_wp2
    go_roundw
    case rel=>exact ⟨lo,m,rfl,by go_num,hlo,by omega,by omega,hW5⟩
    case measure=>simp [intOf];omega
  ·obtain rfl:lo=p:=by omega
   obtain rfl:hi=lo:=by omega
   by_cases hlp:hi<l.length
   ·have hli:(hi:Int)<(l.length:Int):=by omega
    obtain ⟨g,o,rfl,hg,hcell⟩:=hat (by omega)
    obtain ⟨x,hx⟩ : ∃ x,l[hi]?=some x:=⟨_,List.getElem?_eq_getElem hlp⟩
    have hxm:=List.mem_of_getElem? hx
    have hxok:=hok x hxm
    have hxr:=hcell hi x hx
    have hc2:=fun W hb=>hcl W x hxm hb
    have hb':Hid (b=decide (cmp x=0)):=by show _=_;rw [hb.out,hitAt_some hx]
    clear hx hcell hat hb hcl
    go_wp2
    refine zAg (C:=fun W=>Below W1.heap.size W1 W) (by kernel_rfl) (by kernel_rfl) hbel.drew ?_
    repeat
     first
      | ((with_reducible refine zAs ?_ ?_)
         ·(go_simp;done)
         apply Exists.intro
         refine ⟨fun W hW=>?_,?_⟩
         ·have hb0:=bthen bW1 bW1.size hW
          have q0:=run_ldvStit (zAb hxr hg hb0) hxok
          have q1:(ldvI ⟨w.heap.size,0,none⟩).run Tryz.prog W = .ok (.agg NC) W:=by
           have:=run_loadVar_mid (P:=Tryz.prog) W w.heap.size 0 28 NC.toList _ (zAj (hn1.below hW hn1.lt)) Tryz.underlying28 rfl hsI
           rwa [Array.toArray_toList] at this
          have hkeep:=zCO hW (hc2 W hb0)
          go_simp
          first
           | rfl
           | (with_reducible exact hkeep)
         simp only [Act.put,zA,zB,zC])
      | ((with_reducible refine zAk ?_ ?_)
         ·(first | rfl | (go_simp;done))
         simp only [Act.put,zA,zB,zC])
    with_reducible refine wpQuiet_nil ?_
    intro w5 hW5
    go_wp2
    go_ret2
    exact ⟨by rw [hb'.out];rfl,bthen bW1 bW1.size hW5⟩
   ·have hli : ¬ (hi:Int)<(l.length:Int):=by omega
    have hb':Hid (b=false):=by show _=_;rw [hb.out,hitAt_none (by omega)]
    clear hb hat
    go_wp2
    refine zAg (C:=fun W=>Below W1.heap.size W1 W) (by kernel_rfl) (by kernel_rfl) hbel.drew ?_
    repeat
     first
      | ((with_reducible refine zAs ?_ ?_)
         ·(go_simp;done)
         apply Exists.intro
         refine ⟨fun W hW=>?_,?_⟩
         ·go_simp
          first
           | rfl
         simp only [Act.put,zA,zB,zC])
      | ((with_reducible refine zAk ?_ ?_)
         ·(first | rfl | (go_simp;done))
         simp only [Act.put,zA,zB,zC])
    with_reducible refine wpQuiet_nil ?_
    intro w5 hW5
    go_wp2
    go_ret2
    exact ⟨by rw [hb'.out];rfl,bthen bW1 bW1.size hW5⟩
end
set_option maxRecDepth 100000 in
theorem isNaN_calls (x:Nat) (w:World):Calls Tryz.prog 145 #[.int .u8 x] w fun e w'=>e = .returned (.bool false)∧w'=w:=by
 go_enter Tryz.func145,Tryz.ntmps145
 go_wp2
 go_ret
 exact ⟨rfl,rfl⟩
def cmpB (x y:UInt8):Int:=if x<y then -1 else if y<x then 1 else 0
set_option maxRecDepth 100000 in
set_option maxHeartbeats 1000000 in
theorem cmpByte_calls (x y:UInt8) (w:World):Calls Tryz.prog 117 #[.int .u8 (x.toNat:Nat), .int .u8 (y.toNat:Nat)] w fun e w'=>e = .returned (.int .i64 (cmpB x y))∧w'=w:=by
 have h1:=Lib.hid (isNaN_calls x.toNat w)
 have h2:=Lib.hid (isNaN_calls y.toNat w)
 obtain ⟨r,hr⟩ : ∃ r,Hid (cmpB x y=r):=⟨_,Lib.hid rfl⟩
 rw [hr.out]
 by_cases hxy:x<y
 ·have hrr:Hid (r = -1):=by show _=_;rw [←hr.out];unfold cmpB;rw [if_pos hxy]
  have i1:(x.toNat:Int)<(y.toNat:Int):=by rw [UInt8.lt_iff_toNat_lt] at hxy;omega
  clear hxy hr
  go_enter Tryz.func117,Tryz.ntmps117
  go_wp2_with (first
   | ((with_reducible refine h1.out.mono ?_);rintro e w1 ⟨rfl,rfl⟩)
   | ((with_reducible refine h2.out.mono ?_);rintro e w2 ⟨rfl,rfl⟩))
  all_goals try (exfalso;omega)
  go_ret
  exact ⟨by rw [hrr.out];rfl,rfl⟩
 ·by_cases hyx:y<x
  ·have hrr:Hid (r=1):=by show _=_;rw [←hr.out];unfold cmpB;rw [if_neg hxy,if_pos hyx]
   have i1:(y.toNat:Int)<(x.toNat:Int):=by rw [UInt8.lt_iff_toNat_lt] at hyx;omega
   have i2 : ¬ (x.toNat:Int)<(y.toNat:Int):=by omega
   clear hxy hyx hr
   go_enter Tryz.func117,Tryz.ntmps117
   go_wp2_with (first
    | ((with_reducible refine h1.out.mono ?_);rintro e w1 ⟨rfl,rfl⟩)
    | ((with_reducible refine h2.out.mono ?_);rintro e w2 ⟨rfl,rfl⟩))
   all_goals try (exfalso;omega)
   go_ret
   exact ⟨by rw [hrr.out];rfl,rfl⟩
  ·have hrr:Hid (r=0):=by show _=_;rw [←hr.out];unfold cmpB;rw [if_neg hxy,if_neg hyx]
   have i1 : ¬ (y.toNat:Int)<(x.toNat:Int):=by rw [UInt8.lt_iff_toNat_lt] at hyx;omega
   have i2 : ¬ (x.toNat:Int)<(y.toNat:Int):=by rw [UInt8.lt_iff_toNat_lt] at hxy;omega
   clear hxy hyx hr
   go_enter Tryz.func117,Tryz.ntmps117
   go_wp2_with (first
    | ((with_reducible refine h1.out.mono ?_);rintro e w1 ⟨rfl,rfl⟩)
    | ((with_reducible refine h2.out.mono ?_);rintro e w2 ⟨rfl,rfl⟩))
   all_goals try (exfalso;omega)
   go_ret
   exact ⟨by rw [hrr.out];rfl,rfl⟩
theorem cmp_cons (x y:UInt8) (a b:List UInt8):Lib.compareBytes (x::a) (y::b)=if cmpB x y=0 then Lib.compareBytes a b else cmpB x y:=by
 unfold cmpB
 rw [Lib.compareBytes]
 by_cases h1:x<y
 ·simp [h1]
 ·by_cases h2:y<x
  ·simp [h1,h2]
  ·simp [h1,h2]
set_option maxRecDepth 100000 in
set_option maxHeartbeats 2000000 in
theorem cmpIds_calls (a b:List UInt8) (ha:a.length=32) (hb:b.length=32) (g1 o1 g2 o2:Nat) (w:World) (h1:w.rangeAt g1 o1 (u8s a).toList) (h2:w.rangeAt g2 o2 (u8s b).toList) :
 Calls Tryz.prog 80 #[.slice (some ⟨g1,o1,none⟩) 32 32, .slice (some ⟨g2,o2,none⟩) 32 32] w fun e w'=>e = .returned (.int .i64 (Lib.compareBytes a b))∧w'=w:=by
 have hR:Hid (Lib.compareBytes (a.drop 0) (b.drop 0)=Lib.compareBytes a b):=rfl
 generalize Lib.compareBytes a b=R at *
 go_enter Tryz.func80,Tryz.ntmps80
 go_wp2
 go_loopw [11] (fun vi wr => ∃ k:Nat,vi = .int .i64 k∧k≤32∧Hid (Lib.compareBytes (a.drop k) (b.drop k)=R)∧wr=w) (fun vi _=>32-(intOf vi).toNat)
 case atStart=>exact ⟨0,rfl,by omega,hR,rfl⟩
 case round=>
  obtain ⟨k,rfl,hk,hrel,rfl⟩:=hrel
  by_cases hlt:k<32
  ·have hki:(k:Int)<32:=by omega
   obtain ⟨x,hx⟩ : ∃ x,a[k]?=some x:=⟨_,List.getElem?_eq_getElem (by omega)⟩
   obtain ⟨y,hy⟩ : ∃ y,b[k]?=some y:=⟨_,List.getElem?_eq_getElem (by omega)⟩
   have c1:wr.cell? ⟨g1,o1+k,none⟩=some (.int .u8 (x.toNat:Nat)):=h1 k _ (by rw [Array.getElem?_toList,u8s_get a k (by omega)];simp [List.getD,hx])
   have c2:wr.cell? ⟨g2,o2+k,none⟩=some (.int .u8 (y.toNat:Nat)):=h2 k _ (by rw [Array.getElem?_toList,u8s_get b k (by omega)];simp [List.getD,hy])
   have hda:a.drop k=x::a.drop (k+1):=by
    rw [List.drop_eq_getElem_cons (by omega)]
    congr 1
    rw [List.getElem?_eq_getElem (by omega)] at hx
    injection hx
   have hdb:b.drop k=y::b.drop (k+1):=by
    rw [List.drop_eq_getElem_cons (by omega)]
    congr 1
    rw [List.getElem?_eq_getElem (by omega)] at hy
    injection hy
   have hR2:=hrel.out
   rw [hda,hdb,cmp_cons] at hR2
   have hcb:=Lib.hid (cmpByte_calls x y wr)
   generalize cmpB x y=z at *
   by_cases hz:z=0
   ·rw [if_pos hz] at hR2
    have hR2:=Lib.hid hR2
    have hz1:(z==0)=true:=by simp [hz]
    have hz2:(z != 0)=false:=by simp [hz]
    clear hda hdb hx hy hrel hz
    go_wp2_with (first
     | ((with_reducible refine hcb.out.mono ?_);rintro e w2 ⟨rfl,rfl⟩))
    all_goals try (exfalso;simp at *;omega)
    go_roundw
    case rel=>exact ⟨k+1,by go_num,by omega,hR2,by first | trivial | rfl⟩
    case measure=>simp [intOf];omega
   ·rw [if_neg hz] at hR2
    have hR2:=Lib.hid hR2
    have hz1:(z==0)=false:=by simp [hz]
    have hz2:(z != 0)=true:=by simp [hz]
    clear hda hdb hx hy hrel hz
    go_wp2_with (first
     | ((with_reducible refine hcb.out.mono ?_);rintro e w2 ⟨rfl,rfl⟩))
    all_goals try (exfalso;simp at *;omega)
    go_ret
    exact ⟨by rw [←hR2.out];rfl,rfl⟩
  ·have hki : ¬ (k:Int)<32:=by omega
   have hR2:Hid (R=0):=by
    show _=_
    rw [←hrel.out,List.drop_eq_nil_of_le (by omega),List.drop_eq_nil_of_le (by omega)]
    rfl
   clear hrel
   go_wp2
   go_ret
   exact ⟨by rw [hR2.out];rfl,rfl⟩
section
attribute [local go_sem ↓] ldvI_eq
set_option maxRecDepth 100000 in
set_option maxHeartbeats 1000000 in
theorem stoPlace1_calls (x:StL) (hx:StitOk x) (n:List UInt8) (hn:n.length=32) (w:World):Calls Tryz.prog 112 #[.agg (stitC x).toArray, .agg (u8s n)] w fun e w'=>e = .returned (.int .i64 (Lib.compareBytes x.id n))∧Below w.heap.size w w':=by
 obtain ⟨W1,hW1⟩ : ∃ W1,w.alloc (.cells (stitC x).toArray 165)=W1:=⟨_,rfl⟩
 have x1:Blk W1 w.heap.size 165 (stitC x).toArray:=by rw [←hW1];exact Blk.new _ _ _
 have b1:Below w.heap.size w W1:=by rw [←hW1];exact (Below.refl _ _).alloc (Nat.le_refl _) _
 obtain ⟨W2,hW2⟩ : ∃ W2,W1.alloc (.cells (u8s n) 28)=W2:=⟨_,rfl⟩
 have bb2:Below W1.heap.size W1 W2:=by rw [←hW2];exact (Below.refl _ _).alloc (Nat.le_refl _) _
 have x2:=x1.below bb2 x1.lt
 have n2:Blk W2 W1.heap.size 28 (u8s n):=by rw [←hW2];exact Blk.new _ _ _
 have b2:=bthen b1 b1.size bb2
 have r1:W2.rangeAt w.heap.size 0 (u8s x.id).toList:=by
  have:=zAj x2
  rw [List.toList_toArray] at this
  exact stitC_id this
 have hc:=fun (W:World) (hW:Below W2.heap.size W2 W)=>cmpIds_calls x.id n hx.1 hn w.heap.size 0 W1.heap.size 0 W (zAb r1 x2.lt hW) (zAb (zAj n2) n2.lt hW)
 obtain ⟨NC,hNC⟩ : ∃ NC,u8s n=NC:=⟨_,rfl⟩
 obtain ⟨XC,hXC⟩ : ∃ XC,(stitC x).toArray=XC:=⟨_,rfl⟩
 rw [hXC] at hW1 ⊢
 rw [hNC] at hW2 ⊢
 clear hNC hXC x1 x2 n2 r1 bb2
 go_enter Tryz.func112,Tryz.ntmps112
 go_wp2
 refine zAg (C:=fun W=>Below W2.heap.size W2 W) (by kernel_rfl) (by kernel_rfl) (Below.refl _ _).drew ?_
 repeat
  first
   | ((with_reducible refine zAs ?_ ?_)
      ·(go_simp;done)
      apply Exists.intro
      refine ⟨fun W hW=>?_,?_⟩
      ·have hkeep:=(hc W hW).mono fun e w' (h:e = .returned (.int .i64 (Lib.compareBytes x.id n))∧w'=W)=>(⟨h.1,h.2.symm▸hW⟩:e = .returned (.int .i64 (Lib.compareBytes x.id n))∧Below W2.heap.size W2 w')
       go_simp
       first
        | rfl
        | (with_reducible exact hkeep)
      simp only [Act.put,zA,zB,zC])
   | ((with_reducible refine zAk ?_ ?_)
      ·(first | rfl | (go_simp;done))
      simp only [Act.put,zA,zB,zC])
 with_reducible refine wpQuiet_nil ?_
 intro w5 hW5
 go_wp2
 go_ret
 exact ⟨rfl,bthen b2 b2.size hW5⟩
theorem stoPlace1_func (a:Array Value) (W:World):(callFunc 112 a).run Tryz.prog W = .ok (.enter 112 a) W:=by kernel_rfl
end
theorem ins_place {α:Type} {l:List α} {i:Nat} (hi:i<l.length) (x:α) :
 (l.take (i+1)++l.drop i++l.drop (i+1+(l.drop i).length)).set i x=l.take i++[x]++l.drop i:=by
 rw [List.drop_of_length_le (i:=i+1+(l.drop i).length) (by rw [List.length_drop];omega),List.append_nil,List.set_eq_take_append_cons_drop,if_pos (by simp;omega)]
 rw [List.take_append_of_le_length (by simp;omega),List.take_take,Nat.min_eq_left (by omega)]
 rw [List.drop_append_of_le_length (by simp;omega),List.drop_of_length_le (l:=l.take (i+1)) (by simp;omega)]
 simp
theorem zB9 {w:World} {g o:Nat} {cs:List Value} (h:w.rangeAt g o cs) : ∀ j u,cs[j]?=some u→w.cell? ((⟨g,o,none⟩:Addr).add j)=some u:=fun j u hu=>by rw [Addr.add_mid];exact h j u hu
theorem Row.range_from {α:Type} {w:World} {g:Nat} {e:TypeId} {k cap:Nat} {enc:α→List Value} {l:List α} (hk : ∀ x∈l,(enc x).length=k) (h:Row w g e k enc cap l) (i:Nat):w.rangeAt g (i*k) (rowsOf enc (l.drop i)):=fun j u hu=>by
 obtain ⟨a,x,q,h1,h2,h3⟩:=rowsOf_find (fun x hx=>hk x (List.mem_of_mem_drop hx)) hu
 rw [List.getElem?_drop] at h1
 have:=h.at_ _ x h1 q u h2
 rw [h3,show i*k+(a*k+q)=(i+a)*k+q from by rw [Nat.add_mul,Nat.add_assoc]]
 exact this
theorem grown_drew {w w':World} {row:Option Nat} (h:w.grownBy w' row):w.grownBy w'.drew row:=⟨h.os,h.tape,h.output,h.size,h.block⟩
theorem grown_cells {w w':World} {g:Nat} (h:w.grownBy w' (some g)) (o:Nat) (vs:List Value):w.grownBy (w'.setCells g o vs) (some g):=
 (Far.cells (S:=[some g]) (w:=w) (.inl (by simp)) vs o w' (Far.of_grown h)).grown fun k hk=>by simpa using hk
theorem grown_refl' (w:World) (row:Option Nat):w.grownBy w row:=⟨rfl,rfl,rfl,Nat.le_refl _,fun _ _ _=>rfl⟩
end Go.Proofs.YtodebknbchaccaaGreatDoor
