/- Texts of this claim, laid together: StitIn, StoW, ObjW, IdW, NilS, ObjN, Text, ObjA, ObjB, ObjE, ObjM, ObjR, Bldr, ObjY, ObjZ, ObjC, ObjK, ObjKn, RdW, RdX. -/
import Derived.Test.YtodebknbchaccaaGreatDoorMd
import Derived.Shelf.RegionOpenPlain
import Derived.Lib.Overlaps
import Derived.Deep.MidRow
import Derived.Deep.DeepCutAuto
import Derived.BigQuiet
import Derived.Lib.BufferWrite
namespace Go.Proofs.YtodebknbchaccaaGreatDoor
open Go.RowKit
theorem zDi (w:World) (g vb o:Nat) (cur cv:Array Value) (e ev:TypeId) (hb:Blk w g e cur) (hv:Blk w vb ev cv) (hc:0<cur.size) (hne:vb≠g) (m vc lb cb:Nat) :
 (callFunc 113 #[.slice (some ⟨vb,0,none⟩) m vc, .slice (some ⟨g,o,none⟩) lb cb]).run Tryz.prog w = .ok (.value (.bool false)) w:=by
 have hsz : ∀ w,(Go.sizeOf 165).run Tryz.prog w = .ok 33 w:=fun w=>by
  obtain ⟨i,h1,_,h3,_⟩:=Tryz.stitTy.hi
  simp [sizeOf,typeInfo,h1,h3]
 rw [run_callFunc_extern Tryz.func113 (by kernel_rfl) (by kernel_rfl) (by kernel_rfl) (e:=Extern.SlicesOverlaps.overlaps #[157,157] #[4]) (by kernel_rfl),
  Lib.run_overlaps_apart w 157 4 165 Tryz.underlying157 33 hsz ⟨vb,0,none⟩ ⟨g,o,none⟩ m vc lb cb hne ev e cv.size cur.size (by unfold World.shape?;rw [show w.heap[vb]?=_ from hv]) (by unfold World.shape?;rw [show w.heap[g]?=_ from hb]) (by omega) (hv.frozen _) (hv.frozen _)]
 rfl
set_option maxRecDepth 100000 in
set_option maxHeartbeats 2000000 in
theorem zD4 (l:List StL) (hok:StitsOk l) (w:World) (g cap i vb:Nat) (x:StL) (hx:StitOk x) (hrow:Row w g 165 33 stitC cap l) (hi:i<l.length) (hcap:l.length+1≤cap)
 (hv:Blk w vb 165 (stitC x).toArray) (hne:vb≠g) :
 Calls Tryz.prog 72 #[.slice (some ⟨g,0,none⟩) l.length cap, .int .i64 i, .slice (some ⟨vb,0,none⟩) 1 1] w fun e w'=>
  e = .returned (.slice (some ⟨g,0,none⟩) (l.length+1) cap)∧Row w' g 165 33 stitC cap (l.take i++[x]++l.drop i)∧w.grownBy w' (some g):=by
 have h63:=hrow.top63
 have hdl:(l.drop i).length=l.length-i:=List.length_drop
 have hdk : ∀ y∈l.drop i,(stitC y).length=33:=fun y hy=>stitK hok y (List.mem_of_mem_drop hy)
 have hbi:(0:Int)≤(i:Int)+1:=by omega
 have htn:((i:Int)+1).toNat=i+1:=by omega
 have hz2 : ¬ ((i:Int)=(l.length:Int)):=by omega
 have hil:(i:Int)≤(l.length:Int):=by omega
 have hil1:(i:Int)+1≤(l.length:Int)+1:=by omega
 have hil2:(i:Int)≤(l.length:Int)+1:=by omega
 have mixed:Tryz.prog.follows Departure.mixedOrders=true:=by kernel_rfl
 have hci : ¬ (cap=i):=by omega
 have hci1 : ¬ (cap=i+1):=by omega
 have hnc : ¬ ((cap:Int)<(l.length:Int)+1):=by omega
 have hcn:(l.length:Int)+1≤(cap:Int):=by omega
 have hw1:IntKind.i64.wrap ((i:Int)+1)=(i:Int)+1:=by rw [IntKind.wrap_i64];omega
 have hw2:IntKind.i64.wrap ((l.length:Int)+1)=(l.length:Int)+1:=by rw [IntKind.wrap_i64];omega
 have htl:((l.length:Int)+1).toNat=l.length+1:=by omega
 have hov : ∀ lb cb o,(callFunc 113 #[.slice (some ⟨vb,0,none⟩) 1 1, .slice (some ⟨g,o,none⟩) lb cb]).run Tryz.prog w = .ok (.value (.bool false)) w:=fun lb cb o=>by
  obtain ⟨cur,hb,hs⟩:=hrow.blk
  exact zDi w g vb o cur _ _ _ hb hv (by rw [hs];omega) hne 1 1 lb cb
 have hput:=hrow.drew.put (stitK hok) hdk (i:=i+1) (by omega) (by omega)
 have hcp1 : ∀ ty dc sc,(Builtin.copy_ #[157,157] ty #[.slice (some ⟨g,(i+1)*33,none⟩) (l.length-i) dc, .slice (some ⟨g,i*33,none⟩) (l.length+1-i) sc]).run Tryz.prog w.drew = .ok (goInt ((l.drop i).length:Nat)) (w.drew.setCells g ((i+1)*33) (rowsOf stitC (l.drop i))):=fun ty dc sc=>
  zBE w.drew _ _ ty 165 g ((i+1)*33) _ dc ⟨g,i*33,none⟩ _ sc _ _ Tryz.underlying157 szStit (by rw [hdl];simp only [Nat.min_def];split<;>omega) (zAJ hdk)
   (zB9 ((hrow.drew).range_from (stitK hok) i)) ((hrow.drew).there (by rw [zAJ hdk,←Nat.add_mul];exact Nat.mul_le_mul_right _ (by omega))) (stitOne _)
 obtain ⟨W1,hW1⟩ : ∃ W1,W1=w.drew.setCells g ((i+1)*33) (rowsOf stitC (l.drop i)):=⟨_,rfl⟩
 have hbel1:w.grownBy W1 (some g):=by rw [hW1];exact grown_cells (grown_drew (grown_refl' w _)) _ _
 rw [←hW1] at hcp1 hput
 have hv1:Blk W1 vb 165 (stitC x).toArray:=by
  rw [hW1]
  exact hv.drew.setCells_far hne _ _ _
 have hs2:StitsOk (l.take (i+1)++l.drop i++l.drop (i+1+(l.drop i).length)):=by
  intro y hy
  simp only [List.mem_append] at hy
  rcases hy with (hy | hy) | hy
  ·exact hok y (List.mem_of_mem_take hy)
  ·exact hok y (List.mem_of_mem_drop hy)
  ·exact hok y (List.mem_of_mem_drop hy)
 have hset:=hput.set (stitK hs2) (i:=i) (by simp;omega) (zA8 hx)
 rw [ins_place hi] at hset
 have hcp2 : ∀ ty dc,(Builtin.copy_ #[157,157] ty #[.slice (some ⟨g,i*33,none⟩) (l.length+1-i) dc, .slice (some ⟨vb,0,none⟩) 1 1]).run Tryz.prog W1 = .ok (goInt (1:Nat)) (W1.setCells g (i*33) (stitC x)):=fun ty dc=>
  zBE W1 _ _ ty 165 g (i*33) _ dc ⟨vb,0,none⟩ _ 1 _ _ Tryz.underlying157 szStit (by simp only [Nat.min_def];split<;>omega) (by rw [zA8 hx])
   (zB9 (zDd hv1)) (hput.there (by rw [zA8 hx];omega)) (zDf x)
 have hbel2:=grown_cells hbel1 (i*33) (stitC x)
 clear hput hv hv1 hrow hs2 hdk hW1
 go_enter Tryz.func72,Tryz.ntmps72
 go_wp2_with (simp only [hov])
 go_region_law_o (refine zC2 rfl _ _ 157 157 rfl (.slice (some ⟨g,(i+1)*33,none⟩) (l.length-i) (cap-(i+1))) (.slice (some ⟨g,i*33,none⟩) (l.length+1-i) (cap-i)) (by simp [Act.eval,Act.put]) (by simp [Act.eval,Act.put]) (hcp1 _ _ _) ?_)
 go_wp2_with (at_builtin;refine zCA _ rfl _ _ 157 157 rfl _ _ rfl rfl (hcp2 _ _) ?_)
 go_ret
 exact ⟨rfl,hset,hbel2⟩
set_option maxRecDepth 100000 in
set_option maxHeartbeats 500000 in
theorem zD5 (l:List StL) (hok:StitsOk l) (hbig:l.length≤1000000) (w:World) (base g cap i vb:Nat) (x:StL) (hx:StitOk x) (hbase:base≤w.heap.size) (hrow:Row w g 165 33 stitC cap l) (hi:i<l.length) (hcap:cap<l.length+1)
 (hv:Blk w vb 165 (stitC x).toArray) :
 Calls Tryz.prog 72 #[.slice (some ⟨g,0,none⟩) l.length cap, .int .i64 i, .slice (some ⟨vb,0,none⟩) 1 1] w fun e w'=>
  ∃ G,e = .returned (.slice (some ⟨w.heap.size,0,none⟩) (l.length+1) G)∧Row w' w.heap.size 165 33 stitC G (l.take i++[x]++l.drop i)∧Below base w w':=by
 have h63:=hrow.top63
 have hle:=hrow.le
 have hgw:=hrow.lt
 have hdl:(l.drop i).length=l.length-i:=List.length_drop
 have htkl:(l.take i).length=i:=by simp;omega
 have hdk : ∀ y∈l.drop i,(stitC y).length=33:=fun y hy=>stitK hok y (List.mem_of_mem_drop hy)
 have htk : ∀ y∈l.take i,(stitC y).length=33:=fun y hy=>stitK hok y (List.mem_of_mem_take hy)
 have hbi:(0:Int)≤(i:Int)+1:=by omega
 have htn:((i:Int)+1).toNat=i+1:=by omega
 have hz2 : ¬ ((i:Int)=(l.length:Int)):=by omega
 have hil:(i:Int)≤(l.length:Int):=by omega
 have hil0:(i:Int)≤(cap:Int):=by omega
 have hil1:(i:Int)+1≤(l.length:Int)+1:=by omega
 have hil2:(i:Int)≤(l.length:Int)+1:=by omega
 have mixed:Tryz.prog.follows Departure.mixedOrders=true:=by kernel_rfl
 have hci : ¬ (cap=i):=by omega
 have hnc:(cap:Int)<(l.length:Int)+1:=by omega
 have hw1:IntKind.i64.wrap ((i:Int)+1)=(i:Int)+1:=by rw [IntKind.wrap_i64];omega
 have hw2:IntKind.i64.wrap ((l.length:Int)+1)=(l.length:Int)+1:=by rw [IntKind.wrap_i64];omega
 have hw3:IntKind.i64.wrap ((l.length:Int)+1-(i:Int))=(l.length:Int)+1-(i:Int):=by rw [IntKind.wrap_i64];omega
 have hkk:(l.length:Int)+1-(i:Int)=((l.length+1-i:Nat):Int):=by omega
 have hik:i+(l.length+1-i)=l.length+1:=by omega
 obtain ⟨i0,hi0,hz0,hzs,hzb⟩:=Tryz.stitTy.hi
 have hold:(Builtin.firstCells i0.size i (.slice (some ⟨g,0,none⟩) i cap)).run Tryz.prog w.drew = .ok (rowsOf stitC (l.take i)).toArray w.drew:=by
  rw [hzs]
  refine run_firstCells_some w.drew 33 i ⟨g,0,none⟩ i cap _ (by rw [zAJ htk,htkl]) (zB9 ?_)
  have:=(hrow.cut i).drew.range_from htk 0
  rw [Nat.zero_mul,List.drop_zero] at this
  exact this
 have hrz : ∀ ty,(Builtin.append_ #[157,3] ty #[.slice (some ⟨g,0,none⟩) i cap, .int .i64 ((l.length:Int)+1-(i:Int))]).run Tryz.prog w =
  .ok (.slice (some ⟨w.heap.size,0,none⟩) (l.length+1) (grownCap w (l.length+1) cap 165)) (w.drew.alloc (.cells ((rowsOf stitC (l.take i)).toArray++Builtin.zeroCells zStit.cells (l.length+1-i)++Builtin.zeroCells zStit.cells (grownCap w (l.length+1) cap 165-(l.length+1))) 165)):=fun ty=>by
  have h:=Lib.run_append_grow_zeros w 157 3 ty 165 i0 _ .i64 .i64 Tryz.underlying157 Tryz.underlying3 hi0 hz0 (some ⟨g,0,none⟩) i cap (rowsOf stitC (l.take i)) hold (l.length+1-i) (by omega) (by omega) (by omega) (by omega) (by rw [hzb];omega) (by rw [hzb,hik];exact growslice_fits hcap (by omega))
  rw [hik] at h
  rw [hkk]
  exact h
 obtain ⟨G,hG⟩ : ∃ G,G=grownCap w (l.length+1) cap 165:=⟨_,rfl⟩
 have hGn:l.length+1≤G:=by rw [hG];exact grownCap_ge w _ _ _
 have hGt:G≤maxLen:=by rw [hG];exact grownCap_le_maxLen w _ cap _ (by unfold maxLen;omega)
 have hG63:G≤9223372036854775807:=by simpa [maxLen] using hGt
 rw [←hG] at hrz
 have hnew:=Row.of_new (s:=l.take i) (enc:=stitC) (e:=165) (cap:=G) htk w.drew (Builtin.zeroCells zStit.cells (l.length+1-i)++Builtin.zeroCells zStit.cells (G-(l.length+1))) (by
  rw [htkl,Array.size_append,size_zeroCells,size_zeroCells,zStit_cells];omega) (by rw [htkl];omega) hGt
 rw [←Array.append_assoc] at hnew
 have hbel0:Below base w (w.drew.alloc (.cells ((rowsOf stitC (l.take i)).toArray++Builtin.zeroCells zStit.cells (l.length+1-i)++Builtin.zeroCells zStit.cells (G-(l.length+1))) 165)):=(Below.refl _ _).drew.alloc hbase _
 have hoff:Below w.heap.size w (w.drew.alloc (.cells ((rowsOf stitC (l.take i)).toArray++Builtin.zeroCells zStit.cells (l.length+1-i)++Builtin.zeroCells zStit.cells (G-(l.length+1))) 165)):=(Below.refl _ _).drew.alloc (Nat.le_refl _) _
 obtain ⟨W1,hW1⟩ : ∃ W1,W1=w.drew.alloc (.cells ((rowsOf stitC (l.take i)).toArray++Builtin.zeroCells zStit.cells (l.length+1-i)++Builtin.zeroCells zStit.cells (G-(l.length+1))) 165):=⟨_,rfl⟩
 rw [←hW1] at hrz hnew hbel0 hoff
 clear hW1 hG
 have hold1:=hrow.below hoff
 have hv1:=hv.below hoff hv.lt
 obtain ⟨N,hN⟩ : ∃ N,N=w.heap.size:=⟨_,rfl⟩
 have hgN:g≠N:=by omega
 have hbN:base≤N:=by omega
 have hnew':Row W1 N 165 33 stitC G (l.take i):=by rw [hN];exact hnew
 rw [←hN] at hrz ⊢
 clear hnew hoff hold hN
 have hput:=hnew'.put htk (t:=[x]) (fun y hy=>by simp at hy;subst hy;exact zA8 hx) (i:=i) (by omega) (by simp;omega)
 have e1:(l.take i).take i=l.take i:=List.take_of_length_le (by omega)
 have e2:(l.take i).drop (i+[x].length)=[]:=List.drop_of_length_le (by simp;omega)
 rw [zAx,e1,e2,List.append_nil] at hput
 have hcp1 : ∀ ty dc,(Builtin.copy_ #[157,157] ty #[.slice (some ⟨N,i*33,none⟩) (l.length+1-i) dc, .slice (some ⟨vb,0,none⟩) 1 1]).run Tryz.prog W1 = .ok (goInt (1:Nat)) (W1.setCells N (i*33) (stitC x)):=fun ty dc=>
  zBE W1 _ _ ty 165 N (i*33) _ dc ⟨vb,0,none⟩ _ 1 _ _ Tryz.underlying157 szStit (by simp only [Nat.min_def];split<;>omega) (by rw [zA8 hx])
   (zB9 (zDd hv1)) (hnew'.there (by rw [zA8 hx];omega)) (zDf x)
 have hbel1:=zB3 (stitC x) (i*33) w W1 hbel0 hbN
 have hold2:Row (W1.setCells N (i*33) (stitC x)) g 165 33 stitC cap l:=by
  obtain ⟨cur,hb,hs⟩:=hold1.blk
  exact ⟨⟨cur,hb.setCells_far hgN _ _ _,hs⟩,fun j y hy=>World.rangeAt_setCells_apart (hold1.at_ j y hy) _ _ _ (.inl hgN),hold1.le,hold1.top⟩
 obtain ⟨W2,hW2⟩ : ∃ W2,W2=W1.setCells N (i*33) (stitC x):=⟨_,rfl⟩
 rw [←hW2] at hcp1 hput hbel1 hold2
 clear hW2 hold1 hv1 hnew' hbel0 hrow hv
 have hk2 : ∀ y∈l.take i++[x],(stitC y).length=33:=by
  intro y hy
  rcases List.mem_append.1 hy with hy | hy
  ·exact htk y hy
  ·simp at hy;subst hy;exact zA8 hx
 have hput2:=hput.drew.put hk2 hdk (i:=i+1) (by simp;omega) (by omega)
 have e3:(l.take i++[x]).take (i+1)=l.take i++[x]:=List.take_of_length_le (by simp;omega)
 have e4:(l.take i++[x]).drop (i+1+(l.drop i).length)=[]:=List.drop_of_length_le (by simp;omega)
 rw [e3,e4,List.append_nil] at hput2
 have hcp2 : ∀ ty dc sc,(Builtin.copy_ #[157,157] ty #[.slice (some ⟨N,(i+1)*33,none⟩) (l.length-i) dc, .slice (some ⟨g,i*33,none⟩) (l.length-i) sc]).run Tryz.prog W2.drew = .ok (goInt ((l.drop i).length:Nat)) (W2.drew.setCells N ((i+1)*33) (rowsOf stitC (l.drop i))):=fun ty dc sc=>
  zBE W2.drew _ _ ty 165 N ((i+1)*33) _ dc ⟨g,i*33,none⟩ _ sc _ _ Tryz.underlying157 szStit (by rw [hdl];simp only [Nat.min_def];split<;>omega) (zAJ hdk)
   (zB9 (hold2.drew.range_from (stitK hok) i)) (hput.drew.there (by rw [zAJ hdk,←Nat.add_mul];exact Nat.mul_le_mul_right _ (by omega))) (stitOne _)
 have hbel2:=zB3 (rowsOf stitC (l.drop i)) ((i+1)*33) w W2.drew hbel1.drew hbN
 obtain ⟨W3,hW3⟩ : ∃ W3,W3=W2.drew.setCells N ((i+1)*33) (rowsOf stitC (l.drop i)):=⟨_,rfl⟩
 rw [←hW3] at hcp2 hput2 hbel2
 clear hW3 hput hold2 hk2 hdk htk hbel1 e1 e2 e3 e4 hi0 hz0 hzs hzb hbig hGt hkk hik hdl htkl hgw
 have hGi : ¬ (G=i):=by omega
 have hGim : ¬ (G=i+1):=by omega
 go_enter Tryz.func72,Tryz.ntmps72
 go_wp2_with (first
  | (at_builtin;refine Lib.wpList_append_run _ rfl _ _ _ _ rfl _ _ rfl rfl _ _ (hrz _) ?_)
  | (at_builtin;refine zCA _ rfl _ _ 157 157 rfl _ _ rfl rfl (hcp1 _ _) ?_))
 go_region_law_o (refine zC2 rfl _ _ 157 157 rfl (.slice (some ⟨N,(i+1)*33,none⟩) (l.length-i) (G-(i+1))) (.slice (some ⟨g,i*33,none⟩) (l.length-i) (cap-i)) (by simp [Act.eval,Act.put]) (by simp [Act.eval,Act.put]) (hcp2 _ _ _) ?_)
 go_wp2
 go_ret
 exact ⟨G,rfl,hput2,hbel2⟩
theorem stitsOk_ins {l:List StL} (hok:StitsOk l) (i:Nat) {x:StL} (hx:StitOk x):StitsOk (l.take i++[x]++l.drop i):=by
 intro y hy
 simp only [List.mem_append,List.mem_singleton] at hy
 rcases hy with (hy | rfl) | hy
 ·exact hok y (List.mem_of_mem_take hy)
 ·exact hx
 ·exact hok y (List.mem_of_mem_drop hy)
set_option maxRecDepth 100000 in
set_option maxHeartbeats 500000 in
theorem insertStits_end (l:List StL) (hok:StitsOk l) (hbig:l.length≤1000000) (v:Value) (w:World) (base vb:Nat) (x:StL) (hx:StitOk x) (hbase:base≤w.heap.size) (hown:zAS w base v l)
 (hv:Blk w vb 165 (stitC x).toArray) :
 Calls Tryz.prog 72 #[v, .int .i64 (l.length:Nat), .slice (some ⟨vb,0,none⟩) 1 1] w fun e w'=>
  ∃ v',e = .returned v'∧zAS w' base v' (l++[x])∧w.grownBy w' v.ownBlock∧Newer w v v':=by
 have hcap : ∃ A cap,v = .slice A l.length cap∧l.length≤cap∧cap≤9223372036854775807∧(A=none→l.length=0∧cap=0):=by
  rcases Row.of_own (stitK hok) hown with ⟨rfl,rfl⟩ | ⟨g,cap,rfl,hg,hrow⟩
  ·exact ⟨none,0,rfl,by simp,by omega,fun _=>⟨rfl,rfl⟩⟩
  ·exact ⟨_,cap,rfl,hrow.le,hrow.top63,fun h=>by cases h⟩
 obtain ⟨A,cap,rfl,hc1,hc2,hnil⟩:=hcap
 have hlk:=zA8 hx
 have hone : ∀ u∈(stitC x).toArray.toList,u.oneCell'=true:=fun u hu=>zDf x u (by simpa using hu)
 have h1:l.length+1≤9223372036854775807:=by omega
 have h2:(l.length+1)*48≤140737488355328:=by omega
 have hlen:l.length≤9223372036854775807:=by omega
 clear hbig
 go_enter Tryz.func72,Tryz.ntmps72
 go_wp2_with (first
  | (at_builtin
     (with_reducible refine zDw (.tmp 23) (.tmp 24) 1 _ Tryz.stitTy hown hv (by rw [List.size_toArray,hlk]) hone h1 h2 hbase ?_ ?_ ?_);rfl;rfl
     intro v' w' hown3 hg3 hnw3))
 all_goals
  go_ret
  have hown4:zAS w' base v' (l++[x]):=by
   unfold zAS
   rw [List.length_append,List.length_singleton,zAo,zAx]
   exact hown3
  first
   | exact ⟨_,rfl,hown4,hg3,hnw3⟩
   | exact ⟨_,rfl,hown4,by cases A<;>exact hg3,by cases A<;>exact hnw3⟩
theorem zDI (l:List StL) (hok:StitsOk l) (hbig:l.length≤1000000) (v:Value) (w:World) (base i vb:Nat) (x:StL) (hx:StitOk x) (hbase:base≤w.heap.size) (hown:zAS w base v l) (hi:i≤l.length)
 (hv:Blk w vb 165 (stitC x).toArray) (hne:v.ownBlock≠some vb) :
 Calls Tryz.prog 72 #[v, .int .i64 i, .slice (some ⟨vb,0,none⟩) 1 1] w fun e w'=>
  ∃ v',e = .returned v'∧zAS w' base v' (l.take i++[x]++l.drop i)∧w.grownBy w' v.ownBlock∧Newer w v v':=by
 rcases Nat.lt_or_ge i l.length with hlt | hge
 ·rcases Row.of_own (stitK hok) hown with ⟨rfl,rfl⟩ | ⟨g,cap,rfl,hg,hrow⟩
  ·simp at hlt
  have hlen:l.length+1=(l.take i++[x]++l.drop i).length:=by simp;omega
  by_cases hcap:l.length+1≤cap
  ·refine (zD4 l hok w g cap i vb x hx hrow hlt hcap hv (fun e=>hne (by rw [e];rfl))).mono ?_
   rintro e w' ⟨rfl,h1,h2⟩
   exact ⟨_,rfl,zAS.of_row (stitsOk_ins hok i hx) h1 hg hlen,h2, .inl rfl⟩
  ·refine (zD5 l hok hbig w w.heap.size g cap i vb x hx (Nat.le_refl _) hrow hlt (by omega) hv).mono ?_
   rintro e w' ⟨G,rfl,h1,h2⟩
   exact ⟨_,rfl,zAS.of_row (stitsOk_ins hok i hx) h1 hbase hlen,grown_of_below h2 _, .inr fun k hk=>by simp only [Value.ownBlock,Option.some.injEq] at hk;omega⟩
 ·obtain rfl:i=l.length:=by omega
  rw [List.take_length,List.drop_length,List.append_nil]
  exact insertStits_end l hok hbig v w base vb x hx hbase hown hv
section
attribute [local go_sem ↓] ldvI_eq
structure StoAt (w:World) (base p:Nat) (vl:Value) (s:List StL):Prop where
 blk:Blk w p 159 #[vl]
 own:zAS w base vl s
 ok:StoOk s
section
variable {w w':World} {base p:Nat} {vl:Value} {s:List StL}
theorem StoAt.c0 (h:StoAt w base p vl s):w.cell? ⟨p,0,none⟩=some vl:=by rw [h.blk.cell];rfl
theorem StoAt.fr (h:StoAt w base p vl s):w.frozen? ⟨p,0,none⟩=false:=h.blk.frozen 0
theorem StoAt.lt (h:StoAt w base p vl s):p<w.heap.size:=h.blk.lt
theorem StoAt.ne (h:StoAt w base p vl s):vl.ownBlock≠some p:=fun e=>zAD h.own h.blk (by decide) e.symm
theorem StoAt.below (h:StoAt w base p vl s) (hb:Below w.heap.size w w'):StoAt w' base p vl s:=⟨h.blk.below hb h.blk.lt,zAf h.own hb,h.ok⟩
theorem StoAt.far {S:List (Option Nat)} (h:StoAt w base p vl s) (hf:Far S w w') (h1:some p ∉ S) (h2 : ∀ k,vl.ownBlock=some k→some k ∉ S):StoAt w' base p vl s:=⟨hf.blk h.blk h1,hf.own h.own h2,h.ok⟩
theorem StoAt.drew (h:StoAt w base p vl s):StoAt w.drew base p vl s:=⟨h.blk,h.own,h.ok⟩
theorem StoAt.items (h:StoAt w base p vl s):Stits w vl s:=h.own.refs h.ok.ok
theorem StoAt.form (h:StoAt w base p vl s) : ∃ A cap,vl = .slice A s.length cap:=by
 obtain ⟨A,cap,e⟩:=zAm h.own
 exact ⟨A,cap,e⟩
end
set_option maxRecDepth 100000 in
set_option maxHeartbeats 1000000 in
theorem zDY (w:World) :
 Calls Tryz.prog 37 #[] w fun e w'=>e = .returned (.pointer (some ⟨w.heap.size,0,none⟩))∧StoAt w' w.heap.size w.heap.size (.slice none 0 0) []∧Below w.heap.size w w':=by
 go_enter Tryz.func37,Tryz.ntmps37
 go_wp2
 go_ret
 exact ⟨rfl,⟨Blk.new _ _ _,World.ownsRow_nil _ _ _ _,StoOk.nil⟩,(Below.refl _ _).alloc (Nat.le_refl _) _⟩
set_option maxRecDepth 100000 in
set_option maxHeartbeats 2000000 in
theorem zCS {w:World} {base p:Nat} {vl:Value} {s:List StL} (h:StoAt w base p vl s) (n:Txt) (hn:n.length=32) :
 Calls Tryz.prog 71 #[.pointer (some ⟨p,0,none⟩), .agg (u8s n)] w fun e w'=>e = .returned (.tuple #[.int .i64 (posK StL.id s n), .bool (hasK StL.id s n)])∧Below w.heap.size w w':=by
 obtain ⟨W1,hW1⟩ : ∃ W1,w.alloc (.cells (u8s n) 28)=W1:=⟨_,rfl⟩
 have n1:Blk W1 w.heap.size 28 (u8s n):=by rw [←hW1];exact Blk.new _ _ _
 have b1:Below w.heap.size w W1:=by rw [←hW1];exact (Below.refl _ _).alloc (Nat.le_refl _) _
 have hbs:=fun (W:World) (hW:Below W1.heap.size W1 W)=>bsfStits_calls s h.ok.ok (by have:=h.ok.few;omega) vl W (h.items.below (bthen b1 b1.size hW)) 112 stoPlace1_func n hn (fun x=>Lib.compareBytes x.id n)
  (fun W2 x hx _=>stoPlace1_calls x (h.ok.ok x hx) n hn W2) (posK StL.id s n) posK_le (fun i x hx=>by
    rw [←decide_eq_true_iff (p:=Lib.compareBytes x.id n<0),cmp_neg,sorted_at h.ok.sorted hx,decide_eq_true_iff])
 rw [←hasK_hit h.ok.sorted] at hbs
 have hsI:(Tryz.prog.info? 28).map (·.size)=some (u8s n).toList.length:=by rw [zAW,hn];exact sz32
 have c0:=fun (W:World) (hW:Below W1.heap.size W1 W)=>(h.below (bthen b1 b1.size hW)).c0
 obtain ⟨NC,hNC⟩ : ∃ NC,u8s n=NC:=⟨_,rfl⟩
 rw [hNC] at hW1 n1 hsI hbs ⊢
 clear hNC h
 generalize posK StL.id s n=P at *
 generalize hasK StL.id s n=HB at *
 go_enter Tryz.func71,Tryz.ntmps71
 go_wp2
 refine zAg (C:=fun W=>Below W1.heap.size W1 W) (by kernel_rfl) (by kernel_rfl) (Below.refl _ _).drew ?_
 repeat
  first
   | ((with_reducible refine zAs ?_ ?_)
      ·(go_simp;done)
      apply Exists.intro
      refine ⟨fun W hW=>?_,?_⟩
      ·have q0:=c0 W hW
       have q1:(ldvI ⟨w.heap.size,0,none⟩).run Tryz.prog W = .ok (.agg NC) W:=by
        have:=run_loadVar_mid (P:=Tryz.prog) W w.heap.size 0 28 NC.toList _ (zAj (n1.below hW n1.lt)) Tryz.underlying28 rfl hsI
        rwa [Array.toArray_toList] at this
       have hkeep:=zCO hW (hbs W hW)
       go_simp
       first
        | rfl
        | (with_reducible exact hkeep)
      simp only [Act.put,zA,zB,zC])
   | ((with_reducible refine zAk ?_ ?_)
      ·(first | rfl | (go_simp;done))
      simp only [Act.put,zA,zB,zC])
 with_reducible refine wpQuiet_nil ?_
 intro w5 hW5
 go_wp2
 go_ret2
 exact ⟨rfl,bthen b1 b1.size hW5⟩
def getV (s:List StL) (n:Txt):Value:=match getS s n with
 | some x => .tuple #[.string (B x.text), .bool true]
 | none => .tuple #[.string (B []), .bool false]
set_option maxRecDepth 100000 in
set_option maxHeartbeats 2000000 in
theorem stoGet_calls {w:World} {base p:Nat} {vl:Value} {s:List StL} (h:StoAt w base p vl s) (n:Txt) (hn:n.length=32) :
 Calls Tryz.prog 42 #[.pointer (some ⟨p,0,none⟩), .agg (u8s n)] w fun e w'=>e = .returned (getV s n)∧Below w.heap.size w w':=by
 obtain ⟨W1,hW1⟩ : ∃ W1,w.alloc (.cells (u8s n) 28)=W1:=⟨_,rfl⟩
 have n1:Blk W1 w.heap.size 28 (u8s n):=by rw [←hW1];exact Blk.new _ _ _
 have b1:Below w.heap.size w W1:=by rw [←hW1];exact (Below.refl _ _).alloc (Nat.le_refl _) _
 have hpl:=Lib.hid (zCS (h.below b1) n hn)
 have hsI:(Tryz.prog.info? 28).map (·.size)=some (u8s n).toList.length:=by rw [zAW,hn];exact sz32
 have q1:(ldvI ⟨w.heap.size,0,none⟩).run Tryz.prog W1 = .ok (.agg (u8s n)) W1:=by
  have:=run_loadVar_mid (P:=Tryz.prog) W1 w.heap.size 0 28 (u8s n).toList _ (zAj n1) Tryz.underlying28 rfl hsI
  rwa [Array.toArray_toList] at this
 have hG:=getS_at h.ok n
 have c0:=fun (W:World) (hW:Below w.heap.size w W)=>(h.below hW).c0
 have hit:=h.items
 have hok:=h.ok.ok
 obtain ⟨r,hr⟩ : ∃ r,Hid (getV s n=r):=⟨_,Lib.hid rfl⟩
 rw [hr.out]
 have hrv:=hr.out
 unfold getV at hrv
 clear hr
 obtain ⟨NC,hNC⟩ : ∃ NC,u8s n=NC:=⟨_,rfl⟩
 rw [hNC] at hW1 n1 hpl q1 ⊢
 clear hNC h hsI
 have hple:posK StL.id s n≤s.length:=posK_le
 generalize posK StL.id s n=P at *
 cases hh:hasK StL.id s n with
 | false=>
   rw [hh] at hG hpl
   rw [hG] at hrv
   have hrv:Hid (_=r):=hrv
   clear hG hh
   go_enter Tryz.func42,Tryz.ntmps42
   go_wp2_with (first
    | ((with_reducible refine hpl.out.mono ?_);rintro e w2 ⟨rfl,hb2⟩))
   go_ret2
   exact ⟨by rw [←hrv.out];rfl,bthen b1 b1.size hb2⟩
 | true=>
   rw [hh] at hG hpl
   rw [if_pos rfl] at hG
   have hlt:P<s.length:=by
    rcases Nat.lt_or_ge P s.length with h | h
    ·exact h
    ·exfalso
     have:=hasK_atS hh hG
     rw [List.getElem?_eq_none h] at this
     cases this
   obtain ⟨x,hx⟩ : ∃ x,s[P]?=some x:=⟨_,List.getElem?_eq_getElem hlt⟩
   rw [hx] at hG
   rw [hG] at hrv
   have hrv:Hid (_=r):=hrv
   obtain ⟨A,cap,rfl,hcap1,hcap2,hat⟩:=hit
   obtain ⟨ga,oa,rfl,hga,hca⟩:=hat (by omega)
   have hxr:=hca P x hx
   have hx32:=(hok x (List.mem_of_getElem? hx)).1
   have hPi:(P:Int)<(s.length:Int):=by omega
   clear hG hh hat hca hx hok
   go_enter Tryz.func42,Tryz.ntmps42
   go_wp2_with (first
    | ((with_reducible refine hpl.out.mono ?_);rintro e w2 ⟨rfl,hb2⟩
       have b2:=bthen b1 b1.size hb2
       have c2:=c0 _ b2
       have t2:=stitC_text hx32 (zAb hxr hga b2)))
   all_goals try (exfalso;omega)
   go_ret2
   exact ⟨by rw [←hrv.out];rfl,b2⟩
end
section
def idC (l:Txt):List Value:=(u8s l).toList
def entC (e:EntL):List Value := .string (B e.name) :: .int .i64 e.kind::(u8s e.id).toList
def objC (o:ObjL) (ve vp:Value):List Value := .int .i64 o.kind :: .string (B o.data)::ve::((u8s o.tree).toList++(vp :: .int .u32 o.time :: .string (B o.text)::((u8s o.target).toList++[.int .i64 o.of_, .string (B o.name)])))
structure EntOk (e:EntL):Prop where
 id:e.id.length=32
 name:e.name.length≤9223372036854775807
 k1 : -9223372036854775808≤e.kind
 k2:e.kind≤9223372036854775807
structure ObjOk (o:ObjL):Prop where
 tree:o.tree.length=32
 target:o.target.length=32
 ents : ∀ e∈o.ents,EntOk e
 pars : ∀ p∈o.pars,p.length=32
 data:o.data.length≤9223372036854775807
 text:o.text.length≤9223372036854775807
 name:o.name.length≤9223372036854775807
 time:o.time<4294967296
 k1 : -9223372036854775808≤o.kind
 k2:o.kind≤9223372036854775807
 f1 : -9223372036854775808≤o.of_
 f2:o.of_≤9223372036854775807
theorem u8s_len (l:Txt):(u8s l).toList.length=l.length:=by simp [u8s]
theorem idC_len {l:Txt} (h:l.length=32):(idC l).length=32:=by unfold idC;rw [u8s_len,h]
theorem zBt {e:EntL} (h:EntOk e):(entC e).length=34:=by unfold entC;simp only [List.length_cons,u8s_len,h.id]
theorem zAC {o:ObjL} (h:ObjOk o) (ve vp:Value):(objC o ve vp).length=72:=by
 unfold objC
 simp only [List.length_cons,List.length_append,u8s_len,h.tree,h.target,List.length_nil]
abbrev Ents (w:World) (v:Value) (l:List EntL):Prop:=SliceAt w 34 entC v l
abbrev Ids (w:World) (v:Value) (l:List Txt):Prop:=SliceAt w 32 idC v l
structure ObjV (w:World) (ve vp:Value) (o:ObjL):Prop where
 ok:ObjOk o
 ents:Ents w ve o.ents
 pars:Ids w vp o.pars
theorem ObjV.below {w w':World} {ve vp:Value} {o:ObjL} (h:ObjV w ve vp o) (hb:Below w.heap.size w w'):ObjV w' ve vp o:=⟨h.ok,h.ents.below hb,h.pars.below hb⟩
structure ObjB (w:World) (g:Nat) (o:ObjL) (ve vp:Value):Prop where
 blk:Blk w g 74 (objC o ve vp).toArray
 tr:o.tree.length=32
 ta:o.target.length=32
section
variable {w:World} {g:Nat} {o:ObjL} {ve vp:Value}
theorem ObjB.drew (h:ObjB w g o ve vp):ObjB w.drew g o ve vp:=⟨h.blk.drew,h.tr,h.ta⟩
theorem ObjB.below {w':World} (h:ObjB w g o ve vp) (hb:Below w.heap.size w w'):ObjB w' g o ve vp:=⟨(hb.block g h.blk.lt).trans h.blk,h.tr,h.ta⟩
theorem ObjB.at_ (h:ObjB w g o ve vp) {i:Nat} {u:Value} (hu:(objC o ve vp)[i]?=some u):w.cell? ⟨g,i,none⟩=some u:=by
 rw [h.blk.cell]
 simpa using hu
theorem zBQ {α:Type} {a b:List α} {n i:Nat} (ha:a.length=n) (hi:n≤i):(a++b)[i]?=b[i-n]?:=by rw [List.getElem?_append_right (by omega),ha]
theorem obj_pars (h:o.tree.length=32):(objC o ve vp)[35]?=some vp:=by
 show ((u8s o.tree).toList++_)[32]?=_
 rw [zBQ (by rw [u8s_len,h]) (Nat.le_refl _)];rfl
theorem obj_time (h:o.tree.length=32):(objC o ve vp)[36]?=some (.int .u32 o.time):=by
 show ((u8s o.tree).toList++_)[33]?=_
 rw [zBQ (by rw [u8s_len,h]) (by omega)];rfl
theorem obj_text (h:o.tree.length=32):(objC o ve vp)[37]?=some (.string (B o.text)):=by
 show ((u8s o.tree).toList++_)[34]?=_
 rw [zBQ (by rw [u8s_len,h]) (by omega)];rfl
theorem obj_of (h:o.tree.length=32) (ht:o.target.length=32):(objC o ve vp)[70]?=some (.int .i64 o.of_):=by
 show ((u8s o.tree).toList++_)[67]?=_
 rw [zBQ (by rw [u8s_len,h]) (by omega)]
 show ((u8s o.target).toList++_)[32]?=_
 rw [zBQ (by rw [u8s_len,ht]) (by omega)];rfl
theorem obj_name (h:o.tree.length=32) (ht:o.target.length=32):(objC o ve vp)[71]?=some (.string (B o.name)):=by
 show ((u8s o.tree).toList++_)[68]?=_
 rw [zBQ (by rw [u8s_len,h]) (by omega)]
 show ((u8s o.target).toList++_)[33]?=_
 rw [zBQ (by rw [u8s_len,ht]) (by omega)];rfl
theorem ObjB.kind (h:ObjB w g o ve vp):w.cell? ⟨g,0,none⟩=some (.int .i64 o.kind):=h.at_ rfl
theorem ObjB.data (h:ObjB w g o ve vp):w.cell? ⟨g,1,none⟩=some (.string (B o.data)):=h.at_ rfl
theorem ObjB.ents (h:ObjB w g o ve vp):w.cell? ⟨g,2,none⟩=some ve:=h.at_ rfl
theorem ObjB.pars (h:ObjB w g o ve vp):w.cell? ⟨g,35,none⟩=some vp:=h.at_ (obj_pars h.tr)
theorem ObjB.time (h:ObjB w g o ve vp):w.cell? ⟨g,36,none⟩=some (.int .u32 o.time):=h.at_ (obj_time h.tr)
theorem ObjB.text (h:ObjB w g o ve vp):w.cell? ⟨g,37,none⟩=some (.string (B o.text)):=h.at_ (obj_text h.tr)
theorem ObjB.of_ (h:ObjB w g o ve vp):w.cell? ⟨g,70,none⟩=some (.int .i64 o.of_):=h.at_ (obj_of h.tr h.ta)
theorem ObjB.name (h:ObjB w g o ve vp):w.cell? ⟨g,71,none⟩=some (.string (B o.name)):=h.at_ (obj_name h.tr h.ta)
theorem ObjB.whole (h:ObjB w g o ve vp):w.rangeAt g 0 (objC o ve vp):=by
 have:=zAj h.blk
 simpa using this
theorem zDW {g o:Nat} {a b c:List Value} {n m:Nat} (h:w.rangeAt g o (a++(b++c))) (ha:a.length=n) (hm:o+n=m):w.rangeAt g m b:=fun j u hu=>by
 have hj:j<b.length:=(List.getElem?_eq_some_iff.1 hu).1
 have:=h (n+j) u (by
  rw [List.getElem?_append_right (by omega),ha,Nat.add_sub_cancel_left,List.getElem?_append_left hj]
  exact hu)
 rwa [←Nat.add_assoc,hm] at this
theorem ObjB.tree (h:ObjB w g o ve vp):w.rangeAt g 3 (u8s o.tree).toList:=zDW (a:=[.int .i64 o.kind, .string (B o.data),ve]) h.whole rfl rfl
theorem ObjB.target (h:ObjB w g o ve vp):w.rangeAt g 38 (u8s o.target).toList:=by
 have:=h.whole
 have e:objC o ve vp=(.int .i64 o.kind :: .string (B o.data)::ve::((u8s o.tree).toList++[vp, .int .u32 o.time, .string (B o.text)]))++((u8s o.target).toList++[.int .i64 o.of_, .string (B o.name)]):=by
  unfold objC
  simp
 rw [e] at this
 exact zDW this (n:=38) (by simp [zAh,h.tr]) (by omega)
end
def ldvO (p:Addr):Sem Value:=loadVar 74 p
theorem ldvO_eq (p:Addr):loadVar 74 p=ldvO p:=rfl
def ldvE (p:Addr):Sem Value:=loadVar 181 p
theorem ldvE_eq (p:Addr):loadVar 181 p=ldvE p:=rfl
theorem szObj : (Tryz.prog.info? 74).map (·.size)=some 72:=by kernel_rfl
theorem szEnt : (Tryz.prog.info? 181).map (·.size)=some 34:=by kernel_rfl
theorem zAi {w:World} {g o:Nat} {l:Txt} (h:w.rangeAt g o (u8s l).toList) (hl:l.length=32):(ldvI ⟨g,o,none⟩).run Tryz.prog w = .ok (.agg (u8s l)) w:=by
 have:=run_loadVar_mid (P:=Tryz.prog) w g o 28 (u8s l).toList _ h Tryz.underlying28 rfl (by rw [u8s_len,hl];exact sz32)
 rwa [Array.toArray_toList] at this
theorem run_ldvE {w:World} {g o:Nat} {x:EntL} (h:w.rangeAt g o (entC x)) (hx:EntOk x):(ldvE ⟨g,o,none⟩).run Tryz.prog w = .ok (.agg (entC x).toArray) w:=
 run_loadVar_mid (P:=Tryz.prog) w g o 181 (entC x) _ h Tryz.underlying181 rfl (by rw [zBt hx];exact szEnt)
theorem zAU {w:World} {g:Nat} {o:ObjL} {ve vp:Value} (h:ObjB w g o ve vp) (ho:ObjOk o):(ldvO ⟨g,0,none⟩).run Tryz.prog w = .ok (.agg (objC o ve vp).toArray) w:=
 run_loadVar_mid (P:=Tryz.prog) w g 0 74 (objC o ve vp) _ h.whole Tryz.underlying74 rfl (by rw [zAC ho];exact szObj)
end
theorem Tryz.idsTy : SliceTy Tryz.prog 54 28 (.agg (u8s noId)) 32 32:=⟨Tryz.underlying54,info_parts (by kernel_rfl),by decide,by omega⟩
theorem idC_one (l:Txt) : ∀ u∈idC l,u.oneCell'=true:=fun u hu=>u8v_one l u (by simpa [idC,u8s] using hu)
theorem idC_agg {l:Txt} {v:Value} (h:v = .agg (u8s l)):v = .agg (idC l).toArray:=by rw [h];simp [idC]
abbrev OwnIds (w:World) (base:Nat) (v:Value) (l:List Txt):Prop:=w.ownsRow base 28 32 v l.length (rowsOf idC l)
section
attribute [local go_sem ↓] ldvI_eq ldvO_eq
theorem boxIdS (w:World) (n:Txt) (hn:n.length=32) : ∃ W1,w.alloc (.cells (u8s n) 28)=W1∧Below w.heap.size w W1∧Blk W1 w.heap.size 28 (u8s n) ∧ ∀ W,Below W1.heap.size W1 W→(ldvI ⟨w.heap.size,0,none⟩).run Tryz.prog W = .ok (.agg (u8s n)) W:=by
 have n1:Blk (w.alloc (.cells (u8s n) 28)) w.heap.size 28 (u8s n):=Blk.new _ _ _
 exact ⟨_,rfl,(Below.refl _ _).alloc (Nat.le_refl _) _,n1,fun W hW=>zAi (zAj (n1.below hW n1.lt)) hn⟩
set_option maxRecDepth 100000 in
theorem nilSPlace_calls (n:Txt) (w:World):Calls Tryz.prog 71 #[.pointer none, .agg (u8s n)] w fun e w'=>e = .returned (.tuple #[.int .i64 0, .bool false])∧Below w.heap.size w w':=by
 go_enter Tryz.func71,Tryz.ntmps71
 go_wp2
 go_ret2
 exact ⟨rfl,(Below.refl _ _).alloc (Nat.le_refl _) _⟩
set_option maxRecDepth 100000 in
theorem nilSGet_calls (n:Txt) (hn:n.length=32) (w:World):Calls Tryz.prog 42 #[.pointer none, .agg (u8s n)] w fun e w'=>e = .returned (.tuple #[.string (B []), .bool false])∧Below w.heap.size w w':=by
 obtain ⟨W1,hW1,b1,n1,ld⟩:=boxIdS w n hn
 have q1:=ld W1 (Below.refl _ _)
 have hp:=Lib.hid (nilSPlace_calls n W1)
 generalize u8s n=NC at *
 clear ld n1
 go_enter Tryz.func42,Tryz.ntmps42
 go_wp2_with (first
  | ((with_reducible refine hp.out.mono ?_);rintro e w2 ⟨rfl,hb2⟩))
 go_ret2
 exact ⟨rfl,bthen b1 b1.size hb2⟩
end
theorem idx_mem (c:UInt8) : ∀ s:Txt,(c ∉ s∧Lib.indexByte s c = -1)∨(c∈s∧0≤Lib.indexByte s c)
 | [] => .inl ⟨by simp,rfl⟩
 | x::r=>by
   by_cases hx:x=c
   ·exact .inr ⟨by simp [hx],by simp [Lib.indexByte,hx]⟩
   ·have hb:(x==c)=false:=by simpa using hx
    rcases idx_mem c r with ⟨h1,h2⟩ | ⟨h1,h2⟩
    ·exact .inl ⟨by simp [h1];exact fun e=>hx e.symm,by simp [Lib.indexByte,hb,h2]⟩
    ·refine .inr ⟨by simp [h1],?_⟩
     have hne:(Lib.indexByte r c == -1)=false:=by rw [beq_eq_false_iff_ne];omega
     simp only [Lib.indexByte,hb,hne]
     simp
     omega
theorem name_all {s:Txt} (h0:(0:UInt8) ∉ s) (h47:(47:UInt8) ∉ s):s.all (fun c => !(c==0) && !(c==47))=true:=by
 rw [List.all_eq_true]
 intro c hc
 have h1:c≠0:=fun e=>h0 (e▸hc)
 have h2:c≠47:=fun e=>h47 (e▸hc)
 simp [h1,h2]
theorem name_no {s:Txt} (h:(0:UInt8)∈s∨(47:UInt8)∈s):nameB s=false:=by
 unfold nameB
 rw [Bool.and_eq_false_iff]
 refine .inr (List.all_eq_false.2 ?_)
 rcases h with h | h
 ·exact ⟨0,h,by simp⟩
 ·exact ⟨47,h,by simp⟩
theorem zCr (s:Txt) (c:Int) (k:UInt8) (hk:c.toNat.toUInt8=k) (w:World):Calls Tryz.prog 154 #[.string (B s), .int .u8 c] w fun e w'=>e = .returned (.int .i64 (Lib.indexByte s k))∧w'=w:=by
 have:=Tryz.strings_IndexByte (B s) c w
 rw [hk,show (B s).data.toList=s by simp [B]] at this
 exact this
set_option maxRecDepth 100000 in
set_option maxHeartbeats 1000000 in
theorem name_calls (s:Txt) (w:World):Calls Tryz.prog 143 #[.string (B s)] w fun e w'=>e = .returned (.bool (nameB s))∧w'=w:=by
 obtain ⟨r,hr⟩ : ∃ r,Hid (r=nameB s):=⟨_,Lib.hid rfl⟩
 rw [←hr.out]
 have x0:=Lib.hid (zCr s 0 0 rfl w)
 have x47:=Lib.hid (zCr s 47 47 rfl w)
 by_cases hz:s=[]
 ·subst hz
  have hf:Hid (r=false):=hr
  clear x0 x47
  go_enter Tryz.func143,Tryz.ntmps143
  go_wp2
  go_ret
  exact ⟨by rw [hf.out];rfl,rfl⟩
 ·have hb0:List.isEmpty s=false:=by
   cases s with
   | nil=>exact absurd rfl hz
   | cons _ _=>rfl
  have h1:1≤s.length:=List.length_pos_iff.2 hz
  by_cases h40:s.length≤40
  ·have i40:(s.length:Int)≤40:=by omega
   rcases idx_mem 0 s with ⟨m0,e0⟩ | ⟨m0,e0⟩
   ·rw [e0] at x0
    rcases idx_mem 47 s with ⟨m7,e7⟩ | ⟨m7,e7⟩
    ·rw [e7] at x47
     have hf:Hid (r=true):=by show r=true;rw [hr.out];unfold nameB;rw [name_all m0 m7];simp [h1,h40]
     clear e0 e7 m0 m7 hr h1 h40
     go_enter Tryz.func143,Tryz.ntmps143
     go_wp2_with (first
      | ((with_reducible refine x0.out.mono ?_);rintro e w1 ⟨rfl,rfl⟩)
      | ((with_reducible refine x47.out.mono ?_);rintro e w1 ⟨rfl,rfl⟩))
     go_ret
     exact ⟨by rw [hf.out];rfl,rfl⟩
    ·have hf:Hid (r=false):=by show r=false;rw [hr.out];exact name_no (.inr m7)
     have e7' : ¬ Lib.indexByte s 47<0:=by omega
     generalize Lib.indexByte s 47=q at *
     clear e0 e7 m0 m7 hr h1 h40
     go_enter Tryz.func143,Tryz.ntmps143
     go_wp2_with (first
      | ((with_reducible refine x0.out.mono ?_);rintro e w1 ⟨rfl,rfl⟩)
      | ((with_reducible refine x47.out.mono ?_);rintro e w1 ⟨rfl,rfl⟩))
     go_ret
     exact ⟨by rw [hf.out];simp [e7'],rfl⟩
   ·have hf:Hid (r=false):=by show r=false;rw [hr.out];exact name_no (.inl m0)
    have e0' : ¬ Lib.indexByte s 0<0:=by omega
    generalize Lib.indexByte s 0=q at *
    clear e0 m0 hr h1 h40 x47
    go_enter Tryz.func143,Tryz.ntmps143
    go_wp2_with (first
     | ((with_reducible refine x0.out.mono ?_);rintro e w1 ⟨rfl,rfl⟩))
    go_ret
    exact ⟨by rw [hf.out];rfl,rfl⟩
  ·have i40 : ¬ (s.length:Int)≤40:=by omega
   have hf:Hid (r=false):=by show r=false;rw [hr.out];unfold nameB;simp [h40]
   clear x0 x47 hr h1 h40
   go_enter Tryz.func143,Tryz.ntmps143
   go_wp2
   go_ret
   exact ⟨by rw [hf.out];rfl,rfl⟩
theorem all_take {s:Txt} {p:UInt8→Bool} {k:Nat} {c:UInt8} (h:(s.take k).all p=true) (hc:s[k]?=some c) (hp:p c=true):(s.take (k+1)).all p=true:=by
 rw [List.take_add_one,List.all_append,h,hc]
 simp [hp]
set_option maxRecDepth 100000 in
set_option maxHeartbeats 1000000 in
theorem zC9 (s:Txt) (hs:s.length≤9223372036854775807) (w:World):Calls Tryz.prog 119 #[.string (B s)] w fun e w'=>e = .returned (.bool (nameB s))∧w'=w:=by
 obtain ⟨b,hb⟩ : ∃ b,Hid (b=nameB s):=⟨_,Lib.hid rfl⟩
 rw [←hb.out]
 go_enter Tryz.func119,Tryz.ntmps119
 go_wp2
 go_loop [3] (fun vi => ∃ k:Nat,vi = .int .i64 k∧k≤s.length∧Hid ((s.take k).all (fun c => !(c==0) && !(c==47))=true)) (fun vi=>s.length-(intOf vi).toNat)
 case atStart=>exact ⟨0,rfl,by omega,Lib.hid rfl⟩
 case round=>
  obtain ⟨k,rfl,hk,hall⟩:=hrel
  by_cases hlt:k<s.length
  ·have hki:(k:Int)<(s.length:Int):=by omega
   obtain ⟨c,hc⟩ : ∃ c,s[k]=c:=⟨_,rfl⟩
   have hck:s[k]?=some c:=by rw [List.getElem?_eq_getElem hlt,hc]
   have hm:=List.mem_of_getElem? hck
   obtain ⟨n,hn⟩ : ∃ n,c.toNat=n:=⟨_,rfl⟩
   by_cases g1:n=0
   ·have e1:c=0:=UInt8.toNat_inj.1 (by rw [hn,g1];rfl)
    have hf:Hid (b=false):=by show b=false;rw [hb.out];exact name_no (.inl (e1▸hm))
    subst g1
    clear hb hall hck hm e1
    go_wp2
    go_ret
    exact ⟨by rw [hf.out];rfl,rfl⟩
   ·have i1:((n:Int)==0)=false:=by rw [beq_eq_false_iff_ne];omega
    have e1:c≠0:=fun e=>g1 (by rw [←hn,e];rfl)
    by_cases g2:n=47
    ·have e2:c=47:=UInt8.toNat_inj.1 (by rw [hn,g2];rfl)
     have hf:Hid (b=false):=by show b=false;rw [hb.out];exact name_no (.inr (e2▸hm))
     subst g2
     clear hb hall hck hm e2 e1
     go_wp2
     go_ret
     exact ⟨by rw [hf.out];rfl,rfl⟩
    ·have i2:((n:Int)==47)=false:=by rw [beq_eq_false_iff_ne];omega
     have e2:c≠47:=fun e=>g2 (by rw [←hn,e];rfl)
     have hst:=Lib.hid (all_take hall.out hck (by simp [e1,e2]))
     clear hall hck hm e1 e2 g1 g2
     go_wp2
     go_round
     case rel=>exact ⟨k+1,by go_num,by omega,hst⟩
     case measure=>simp [intOf];omega
  ·have hki : ¬ (k:Int)<(s.length:Int):=by omega
   have hf:Hid (b=(decide (1≤s.length)&&decide (s.length≤40))):=by
    show b=_
    have:=hall.out
    rw [List.take_of_length_le (by omega)] at this
    rw [hb.out]
    unfold nameB
    rw [this,Bool.and_true]
   clear hb hall
   by_cases h1:1≤s.length
   ·have i1:(1:Int)≤(s.length:Int):=by omega
    by_cases h40:s.length≤40
    ·have i40:(s.length:Int)≤40:=by omega
     go_wp2
     go_ret
     exact ⟨by rw [hf.out];simp [h1,h40],rfl⟩
    ·have i40 : ¬ (s.length:Int)≤40:=by omega
     go_wp2
     go_ret
     exact ⟨by rw [hf.out];simp [h1,h40],rfl⟩
   ·have i1 : ¬ (1:Int)≤(s.length:Int):=by omega
    go_wp2
    go_ret
    exact ⟨by rw [hf.out];simp [h1],rfl⟩
set_option maxRecDepth 100000 in
set_option maxHeartbeats 1000000 in
theorem zBF (s:Txt) (hs:s.length≤1000000000) (w:World):Calls Tryz.prog 45 #[.string (B s)] w fun e w'=>e = .returned (.string (B (textE s)))∧Below w.heap.size w w':=by
 have hp:=Lib.hid (zAX s.length (by omega) w)
 have hpl:=zAn s.length
 have hte:Hid (textE s=put s.length++s):=Lib.hid rfl
 generalize put s.length=P at *
 have hn : ¬ 9223372036854775807<P.length+s.length:=by omega
 go_enter Tryz.func45,Tryz.ntmps45
 go_wp2_with (first
  | ((with_reducible refine hp.out.mono ?_);rintro e w1 ⟨rfl,hb1⟩))
 go_ret
 exact ⟨by rw [hte.out];rfl,hb1⟩
set_option maxRecDepth 100000 in
set_option maxHeartbeats 1000000 in
theorem one_calls (n:Int) (w:World):Calls Tryz.prog 89 #[.int .i64 n] w fun e w'=>e = .returned (.string (B [byteK n]))∧Below w.heap.size w w':=by
 have hc:=fun (wx:World) (x:Int)=>Tryz.str_of_one wx x
 go_enter Tryz.func89,Tryz.ntmps89
 go_wp2
 go_ret
 exact ⟨rfl,(Below.refl _ _).alloc (Nat.le_refl _) _⟩
set_option maxRecDepth 100000 in
set_option maxHeartbeats 1000000 in
theorem zCi (l:Txt) (hl:l.length=32) (w:World):Calls Tryz.prog 120 #[.agg (u8s l)] w fun e w'=>e = .returned (.string (B l))∧Below w.heap.size w w':=by
 have hc:=str_of_blk (w.alloc (.cells (u8s l) 28)) (Blk.new w _ (u8s l))
 rw [hl] at hc
 go_enter Tryz.func120,Tryz.ntmps120
 go_wp2
 go_ret
 exact ⟨rfl,(Below.refl _ _).alloc (Nat.le_refl _) _⟩
set_option maxRecDepth 100000 in
set_option maxHeartbeats 1000000 in
theorem kind_calls (n:Int) (w:World):Calls Tryz.prog 142 #[.int .i64 n] w fun e w'=>e = .returned (.bool (kindB n))∧w'=w:=by
 obtain ⟨b,hb⟩ : ∃ b,Hid (b=kindB n):=⟨_,Lib.hid rfl⟩
 rw [←hb.out]
 have hb2:=hb.out
 unfold kindB at hb2
 by_cases h1:1≤n
 ·by_cases h4:n≤4
  ·have hf:Hid (b=true):=by show b=true;rw [hb2];simp [h1,h4]
   clear hb hb2
   go_enter Tryz.func142,Tryz.ntmps142
   go_wp2
   go_ret
   exact ⟨by rw [hf.out];simp [h4],rfl⟩
  ·have hf:Hid (b=false):=by show b=false;rw [hb2];simp [h4]
   clear hb hb2
   go_enter Tryz.func142,Tryz.ntmps142
   go_wp2
   go_ret
   exact ⟨by rw [hf.out];simp [h4],rfl⟩
 ·have hf:Hid (b=false):=by show b=false;rw [hb2];simp [h1]
  clear hb hb2
  go_enter Tryz.func142,Tryz.ntmps142
  go_wp2
  go_ret
  exact ⟨by rw [hf.out];simp [h1],rfl⟩
section
attribute [local go_sem ↓] ldvI_eq
theorem boxed {w:World} {ve vp:Value} {o:ObjL} (ho:ObjOk o):ObjB (w.alloc (.cells (objC o ve vp).toArray 74)) w.heap.size o ve vp:=⟨Blk.new w _ _,ho.tree,ho.target⟩
theorem int_eq0 (n:Nat):((n:Int)==0)=(n==0):=by
 rw [Bool.eq_iff_iff,beq_iff_eq,beq_iff_eq];omega
set_option maxRecDepth 100000 in
set_option maxHeartbeats 4000000 in
theorem alone_calls (o:ObjL) (ho:ObjOk o) (A1 A2:Option Addr) (k1 k2:Nat) (w:World):Calls Tryz.prog 140 #[.agg (objC o (.slice A1 o.ents.length k1) (.slice A2 o.pars.length k2)).toArray] w fun e w'=>e = .returned (.bool (aloneB o))∧Below w.heap.size w w':=by
 have hO:=boxed (w:=w) (ve := .slice A1 o.ents.length k1) (vp := .slice A2 o.pars.length k2) ho
 have b0:Below w.heap.size w (w.alloc (.cells (objC o (.slice A1 o.ents.length k1) (.slice A2 o.pars.length k2)).toArray 74)):=(Below.refl _ _).alloc (Nat.le_refl _) _
 generalize (objC o (.slice A1 o.ents.length k1) (.slice A2 o.pars.length k2)).toArray=cs at *
 obtain ⟨W0,hW0⟩ : ∃ W0,w.alloc (.cells cs 74)=W0:=⟨_,rfl⟩
 rw [hW0] at hO b0
 have c0:=hO.kind
 have c1:=hO.data
 have c2:=hO.ents
 have c35:=hO.pars
 have c36:=hO.time
 have c37:=hO.text
 have c70:=hO.of_
 have c71:=hO.name
 have q1:=zAi hO.tree ho.tree
 have q2:=zAi hO.target ho.target
 have z1:=fun W=>zAK o.tree ho.tree W
 have z2:=fun W=>zAK o.target ho.target W
 have e1:Hid (commitN o=(decide (o.tree=List.replicate 32 0)&&decide ((o.pars.length:Int)=0)&&decide ((o.time:Int)=0)&&o.text.isEmpty)):=by
  show commitN o=_
  rw [show decide ((o.pars.length:Int)=0)=(o.pars.length==0) from by rw [Bool.eq_iff_iff,decide_eq_true_iff,beq_iff_eq];omega,show decide ((o.time:Int)=0)=(o.time==0) from by rw [Bool.eq_iff_iff,decide_eq_true_iff,beq_iff_eq];omega]
  rfl
 have e2:Hid (tagN o=(decide (o.target=List.replicate 32 0)&&decide (o.of_=0)&&o.name.isEmpty)):=by
  show tagN o=_
  rw [show decide (o.of_=0)=(o.of_==0) from by rw [Bool.eq_iff_iff,decide_eq_true_iff,beq_iff_eq]]
  rfl
 have e3:List.isEmpty o.data=blobN o:=rfl
 have e4:((o.ents.length:Int)==0)=treeN o:=by
  unfold treeN
  exact int_eq0 _
 have ht:o.time<4294967296:=ho.time
 obtain ⟨r,hr⟩ : ∃ r,Hid (r=aloneB o):=⟨_,Lib.hid rfl⟩
 rw [←hr.out]
 have hr2:=hr.out
 unfold aloneB at hr2
 replace hr2:=Lib.hid hr2
 clear hr hO ho
 generalize decide (o.tree=List.replicate 32 0)=T at *
 generalize decide (o.target=List.replicate 32 0)=G at *
 generalize commitN o=C at *
 generalize tagN o=D at *
 generalize blobN o=X at *
 generalize treeN o=Y at *
 go_enter Tryz.func140,Tryz.ntmps140
 go_upto_region 3 with fail
 go_cut [5] (fun s5 wx=>s5 = .bool C∧wx=W0)
 case first=>
  go_wp2
  all_goals
   go_meet
   case rel=>
    refine ⟨?_,rfl⟩
    rw [e1.out]
    clear c0 c1 c2 c35 c36 c37 c70 c71 q1 q2 z1 z2 e1 e2 hr2 e3 e4 b0 hW0
    simp_all
 case rest=>
  obtain ⟨rfl,rfl⟩:=hcut
  clear e1 c35 c36 c37 z1 q1
  go_upto_region 4 with fail
  go_cut [6] (fun s6 wx=>s6 = .bool D∧wx=wc)
  case first=>
   go_wp2
   all_goals
    go_meet
    case rel=>
     refine ⟨?_,rfl⟩
     rw [e2.out]
     clear c0 c1 c2 c70 c71 q2 z2 e2 hr2 e3 e4 b0 hW0
     simp_all
  case rest=>
   obtain ⟨rfl,rfl⟩:=hcut
   clear e2 c70 c71 z2 q2
   clear hW0
   go_wp2
   all_goals
    go_ret
    refine ⟨?_,b0⟩
    rw [hr2.out]
    simp_all
end
section
theorem sizedEnt {e:EntL} (h:EntOk e):(Tryz.prog.info? 181).map (·.size)=some (entC e).length:=by rw [zBt h];exact szEnt
theorem zDj (r:EntL) : ∀ u∈entC r,u.oneCell'=true:=by
 intro u hu
 simp only [entC,List.mem_cons,u8s,List.toList_toArray,List.mem_map] at hu
 rcases hu with rfl | rfl | ⟨c,_,rfl⟩<;>rfl
theorem zBS {W:World} {ops:Array Oper} {rest:List Oper} {o:Oper} {a:Act} {Q:Exit→Act→World→Prop} (hgd:o.guard=none) (x y:Operand) (ho:o.op = .store 181 x y)
 (r:EntL) (hr:EntOk r) (zs:Array Value) (hx:a.eval x = .pointer (some ⟨W.heap.size,0,none⟩)) (hy:a.eval y = .agg (entC r).toArray) (hz:zs.size=34)
 (h : ∀ W1,Blk W1 W.heap.size 181 (entC r).toArray→Below W.heap.size W W1→wpList Tryz.prog ops Q rest (a.put o.dst undef) W1):wpList Tryz.prog ops Q (o::rest) a (W.alloc (.cells zs 181)):=
 zBD hgd _ x y ho (entC r).toArray zs hx hy (by rw [List.size_toArray];exact sizedEnt hr) (hz.trans (by simp [zBt hr])) (Array.all_eq_true_iff_forall_mem.2 fun u hu=>zDj r u (by simpa using hu)) h
theorem zBW {l:List EntL} {i:Nat} (hi:i<l.length) (h:entAt l i=false):entsB l=false:=by
 unfold entsB
 rw [Bool.and_eq_false_iff]
 exact .inl (List.all_eq_false.2 ⟨i,by simpa using hi,by rw [h];simp⟩)
theorem ents_all {l:List EntL} (h:(List.range l.length).all (entAt l)=true):entsB l=decide (l.length≤64):=by unfold entsB;rw [h,Bool.true_and]
theorem zC7 {p:Nat→Bool} {k:Nat} (h:(List.range k).all p=true) (hk:p k=true):(List.range (k+1)).all p=true:=by
 rw [List.range_succ,List.all_append,h];simp [hk]
theorem zEp {l:List EntL} {k:Nat} {x:EntL} (hx:l[k]?=some x) (h:entB x=false):entAt l k=false:=by unfold entAt;rw [hx];simp only [h];rfl
theorem entAt_zero {l:List EntL} {x:EntL} (hx:l[0]?=some x) (h:entB x=true):entAt l 0=true:=by unfold entAt;rw [hx];simp only [h];rfl
theorem entAt_succ {l:List EntL} {k:Nat} {x p:EntL} (hx:l[k+1]?=some x) (hp:l[k]?=some p) (h:entB x=true):entAt l (k+1)=Op.bytesLess p.name x.name:=by unfold entAt;rw [hx];simp only [h,hp,Bool.true_and]
theorem zAv {w:World} {g o:Nat} {r:EntL} (h:w.rangeAt g o (entC r)):w.cell? ⟨g,o,none⟩=some (.string (B r.name))∧w.cell? ⟨g,o+1,none⟩=some (.int .i64 r.kind):=⟨h 0 _ rfl,h 1 _ rfl⟩
theorem zAy {w:World} {g:Nat} {r:EntL} (h:Blk w g 181 (entC r).toArray):w.rangeAt g 0 (entC r):=by
 have:=zAj h
 rwa [List.toList_toArray] at this
theorem range_entId {w:World} {g o:Nat} {r:EntL} (h:w.rangeAt g o (entC r)):w.rangeAt g (o+2) (u8s r.id).toList:=fun j u hu=>by
 have:=h (j+2) u (by simpa [entC] using hu)
 rwa [show o+(j+2)=o+2+j from by omega] at this
theorem two_ways (p x:Txt):(Op.bytesLess p x=true∧Op.bytesLess x p=false∧(p==x)=false∧(x==p)=false)∨(Op.bytesLess p x=false∧Op.bytesLess x p=true∧(p==x)=false∧(x==p)=false)∨(Op.bytesLess p x=false∧Op.bytesLess x p=false∧(p==x)=true∧(x==p)=true):=by
 cases h:Op.bytesLess p x with
 | true=>
   have h1:=less_ne h
   exact .inl ⟨rfl,zDO h,h1,by rw [beq_eq_false_iff_ne] at h1 ⊢;exact fun e=>h1 e.symm⟩
 | false=>
   by_cases e:p=x
   ·subst e
    exact .inr (.inr ⟨rfl,h,by simp,by simp⟩)
   ·have h2:=zCM h e
    have h1:=less_ne h2
    exact .inr (.inl ⟨rfl,h2,by rw [beq_eq_false_iff_ne];exact e,h1⟩)
structure EntQ (w:World) (g gs os:Nat) (l:List EntL) (r:EntL) (w':World):Prop where
 blk:Blk w' g 181 (entC r).toArray
 at_ : ∀ i x,l[i]?=some x→w'.rangeAt gs (os+i*34) (entC x)
 gs_:gs<w'.heap.size
 bel:Below w.heap.size w w'
section
variable {w:World} {g gs os:Nat} {l:List EntL} {r:EntL} {w':World}
theorem EntQ.drew (h:EntQ w g gs os l r w'):EntQ w g gs os l r w'.drew:=⟨h.blk.drew,h.at_,h.gs_,h.bel.drew⟩
theorem EntQ.name_ (h:EntQ w g gs os l r w'):w'.cell? ⟨g,0,none⟩=some (.string (B r.name)):=(zAv (zAy h.blk)).1
theorem EntQ.kind_ (h:EntQ w g gs os l r w') {n:Int} (hn:r.kind=n):w'.cell? ⟨g,1,none⟩=some (.int .i64 n):=hn▸(zAv (zAy h.blk)).2
theorem keepE {f:FuncId} {args:Array Value} {v:Value} {w0:World} (h:Calls Tryz.prog f args w0 fun e w'=>e = .returned v∧w'=w0) (hS:EntQ w g gs os l r w0) :
 Calls Tryz.prog f args w0 fun e w'=>e = .returned v∧EntQ w g gs os l r w':=
 h.mono fun _ _ ⟨he,hw⟩=>⟨he,hw▸hS⟩
end
set_option maxRecDepth 100000 in
set_option maxHeartbeats 4000000 in
theorem entries_calls (l:List EntL) (hok : ∀ e∈l,EntOk e) (v:Value) (w:World) (hv:Ents w v l):Calls Tryz.prog 141 #[v] w fun e w'=>e = .returned (.bool (entsB l))∧Below w.heap.size w w':=by
 have hlen:=hv.len
 obtain ⟨A,cap,rfl,hcap1,hcap2,hat⟩:=hv
 have hat:=Lib.hid hat
 obtain ⟨r,hr⟩ : ∃ r,Hid (r=entsB l):=⟨_,Lib.hid rfl⟩
 rw [←hr.out]
 go_enter Tryz.func141,Tryz.ntmps141
 go_wp2
 go_loopw [7] (fun i wr => ∃ k:Nat,i = .int .i64 k∧k≤l.length∧Hid ((List.range k).all (entAt l)=true)∧Below w.heap.size w wr) (fun i _=>l.length-(intOf i).toNat)
 case atStart=>exact ⟨0,rfl,by omega,rfl,Below.refl _ _⟩
 case round=>
  obtain ⟨k,rfl,hk,hall,hbel⟩:=hrel
  by_cases hlt:k<l.length
  ·have hki:(k:Int)<(l.length:Int):=by omega
   obtain ⟨gs,os,rfl,hgs,hcell⟩:=hat.out (by omega)
   obtain ⟨x,hx⟩ : ∃ x,l[k]?=some x:=⟨_,List.getElem?_eq_getElem hlt⟩
   have hxok:EntOk x:=hok x (List.mem_of_getElem? hx)
   have hx0:=zAb (hcell k x hx) hgs hbel
   have hxh:=Lib.hid hx
   clear hx
   have hsz:=hbel.size
   go_wp2_with (first
    | (refine wpList_load_mid rfl 181 (.tmp 10) rfl gs (os+k*34) rfl (entC x) _ hx0 Tryz.underlying181 rfl (sizedEnt hxok) ?_)
    | (refine zBS rfl (.tmp 4) (.tmp 11) rfl x hxok _ rfl rfl rfl ?_;intro W1 hb1 hbl1))
   obtain ⟨g,hg⟩ : ∃ g,wr.heap.size=g:=⟨_,rfl⟩
   have hS:EntQ w g gs os l x W1:=by
    have h1:=bthen hbel hsz hbl1
    exact ⟨hg▸hb1,fun i y hy=>zAb (hcell i y hy) hgs h1,Nat.lt_of_lt_of_le hgs h1.size,h1⟩
   rw [hg]
   have hnm:=fun W=>name_calls x.name W
   have hx:=hxh
   clear hb1 hbl1 hx0 hg hbel hxh hat hcell
   cases bn:nameB x.name with
   | false=>
     rw [bn] at hnm
     have hf:Hid (r=false):=by show r=false;rw [hr.out];exact zBW hlt (zEp hx.out (by unfold entB;rw [bn];rfl))
     clear hr hall bn
     refine zAg (C:=EntQ w g gs os l x) (by kernel_rfl) (by kernel_rfl) hS.drew ?_
     repeat
      first
       | ((with_reducible refine zAs ?_ ?_)
          ·(go_simp;done)
          apply Exists.intro
          refine ⟨fun W hW=>?_,?_⟩
          ·first
            | (have f1:=hW.name_
               go_simp
               first
                | rfl
                | (go_at_call 143;with_reducible exact keepE (hnm _) hW))
          simp only [Act.put,zA,zB,zC])
       | ((with_reducible refine zAk ?_ ?_)
          ·(first | rfl | (go_simp;done))
          simp only [Act.put,zA,zB,zC])
     with_reducible refine wpQuiet_nil ?_
     intro w5 hW5
     go_wp2
     go_ret
     exact ⟨by rw [hf.out];rfl,hW5.bel⟩
   | true=>
     rw [bn] at hnm
     by_cases hk12:x.kind=1∨x.kind=2
     ·have heb:entB x=true:=by
       unfold entB
       rw [bn]
       rcases hk12 with h | h<;>simp [h]
      clear bn
      rcases Nat.eq_zero_or_pos k with h0 | h0
      ·have hk0 : ¬ (0:Int)<(k:Int):=by omega
       have hk0d:decide ((0:Int)<(k:Int))=false:=by simpa using h0
       have hk0n:decide (0<k)=false:=by simp [h0]
       have hx00:l[0]?=some x:=by rw [←h0];exact hx.out
       have hok0:entAt l k=true:=by rw [h0];exact entAt_zero hx00 heb
       have hst:=Lib.hid (zC7 hall.out hok0)
       clear hx00 hok0 h0 heb hr hall
       rcases hk12 with hkx | hkx
       ·have hkx:=Lib.hid hkx
        refine zAg (C:=EntQ w g gs os l x) (by kernel_rfl) (by kernel_rfl) hS.drew ?_
        repeat
         first
          | ((with_reducible refine zAs ?_ ?_)
             ·(go_simp;done)
             apply Exists.intro
             refine ⟨fun W hW=>?_,?_⟩
             ·first
               | (have f1:=hW.name_
                  have f3:=hW.kind_ hkx.out
                  go_simp
                  first
                   | rfl
                   | (go_at_call 143;with_reducible exact keepE (hnm _) hW))
             simp only [Act.put,zA,zB,zC])
          | ((with_reducible refine zAk ?_ ?_)
             ·(first | rfl | (go_simp;done))
             simp only [Act.put,zA,zB,zC])
        with_reducible refine wpQuiet_nil ?_
        intro w5 hW5
        clear hk0 hk0d hk0n
        go_wp2
        go_roundw
        case rel=>exact ⟨k+1,by go_num,by omega,hst,hW5.bel⟩
        case measure=>simp [intOf];omega
       ·have hkx:=Lib.hid hkx
        refine zAg (C:=EntQ w g gs os l x) (by kernel_rfl) (by kernel_rfl) hS.drew ?_
        repeat
         first
          | ((with_reducible refine zAs ?_ ?_)
             ·(go_simp;done)
             apply Exists.intro
             refine ⟨fun W hW=>?_,?_⟩
             ·first
               | (have f1:=hW.name_
                  have f3:=hW.kind_ hkx.out
                  go_simp
                  first
                   | rfl
                   | (go_at_call 143;with_reducible exact keepE (hnm _) hW))
             simp only [Act.put,zA,zB,zC])
          | ((with_reducible refine zAk ?_ ?_)
             ·(first | rfl | (go_simp;done))
             simp only [Act.put,zA,zB,zC])
        with_reducible refine wpQuiet_nil ?_
        intro w5 hW5
        clear hk0 hk0d hk0n
        go_wp2
        go_roundw
        case rel=>exact ⟨k+1,by go_num,by omega,hst,hW5.bel⟩
        case measure=>simp [intOf];omega
      ·obtain ⟨q,hq⟩ : ∃ q,l[k-1]?=some q:=⟨_,List.getElem?_eq_getElem (show k-1<l.length by omega)⟩
       have hk0:(0:Int)<(k:Int):=by omega
       have hat1:entAt l k=Op.bytesLess q.name x.name:=by
        obtain ⟨j,rfl⟩ : ∃ j,k=j+1:=⟨k-1,by omega⟩
        exact entAt_succ hx.out hq heb
       obtain ⟨u,s1,hu⟩ : ∃ u:Nat,IntKind.i64.wrap ((k:Int)-1)=(u:Int)∧u=k-1:=⟨k-1,by rw [IntWalk.i64_in _ (by omega)];omega,rfl⟩
       have s3:(u:Int)<(l.length:Int):=by omega
       have s4:u<l.length:=by omega
       have hqu:Hid (l[u]?=some q):=by show _=_;rw [hu];exact hq
       clear hu hq heb
       rcases two_ways q.name x.name with ⟨l1,l2,l3,l4⟩ | ⟨l1,l2,l3,l4⟩ | ⟨l1,l2,l3,l4⟩
       all_goals rw [l1] at hat1
       ·have hst:=Lib.hid (zC7 hall.out hat1)
        clear hat1 hr hall
        rcases hk12 with hkx | hkx
        ·have hkx:=Lib.hid hkx
         refine zAg (C:=EntQ w g gs os l x) (by kernel_rfl) (by kernel_rfl) hS.drew ?_
         repeat
          first
           | ((with_reducible refine zAs ?_ ?_)
              ·(go_simp;done)
              apply Exists.intro
              refine ⟨fun W hW=>?_,?_⟩
              ·first
                | (have f1:=hW.name_
                   have f3:=hW.kind_ hkx.out
                   have f2:W.cell? ⟨gs,os+u*34,none⟩=some (.string (B q.name)):=(zAv (hW.at_ _ q hqu.out)).1
                   go_simp
                   first
                    | rfl
                    | (go_at_call 143;with_reducible exact keepE (hnm _) hW))
              simp only [Act.put,zA,zB,zC])
           | ((with_reducible refine zAk ?_ ?_)
              ·(first | rfl | (go_simp;done))
              simp only [Act.put,zA,zB,zC])
         with_reducible refine wpQuiet_nil ?_
         intro w5 hW5
         clear s1 s3 s4 l1 l2 l3 l4 hk0
         go_wp2
         go_roundw
         case rel=>exact ⟨k+1,by go_num,by omega,hst,hW5.bel⟩
         case measure=>simp [intOf];omega
        ·have hkx:=Lib.hid hkx
         refine zAg (C:=EntQ w g gs os l x) (by kernel_rfl) (by kernel_rfl) hS.drew ?_
         repeat
          first
           | ((with_reducible refine zAs ?_ ?_)
              ·(go_simp;done)
              apply Exists.intro
              refine ⟨fun W hW=>?_,?_⟩
              ·first
                | (have f1:=hW.name_
                   have f3:=hW.kind_ hkx.out
                   have f2:W.cell? ⟨gs,os+u*34,none⟩=some (.string (B q.name)):=(zAv (hW.at_ _ q hqu.out)).1
                   go_simp
                   first
                    | rfl
                    | (go_at_call 143;with_reducible exact keepE (hnm _) hW))
              simp only [Act.put,zA,zB,zC])
           | ((with_reducible refine zAk ?_ ?_)
              ·(first | rfl | (go_simp;done))
              simp only [Act.put,zA,zB,zC])
         with_reducible refine wpQuiet_nil ?_
         intro w5 hW5
         clear s1 s3 s4 l1 l2 l3 l4 hk0
         go_wp2
         go_roundw
         case rel=>exact ⟨k+1,by go_num,by omega,hst,hW5.bel⟩
         case measure=>simp [intOf];omega
       ·have hf:Hid (r=false):=by show r=false;rw [hr.out];exact zBW hlt hat1
        clear hat1 hr hall
        rcases hk12 with hkx | hkx
        ·have hkx:=Lib.hid hkx
         refine zAg (C:=EntQ w g gs os l x) (by kernel_rfl) (by kernel_rfl) hS.drew ?_
         repeat
          first
           | ((with_reducible refine zAs ?_ ?_)
              ·(go_simp;done)
              apply Exists.intro
              refine ⟨fun W hW=>?_,?_⟩
              ·first
                | (have f1:=hW.name_
                   have f3:=hW.kind_ hkx.out
                   have f2:W.cell? ⟨gs,os+u*34,none⟩=some (.string (B q.name)):=(zAv (hW.at_ _ q hqu.out)).1
                   go_simp
                   first
                    | rfl
                    | (go_at_call 143;with_reducible exact keepE (hnm _) hW))
              simp only [Act.put,zA,zB,zC])
           | ((with_reducible refine zAk ?_ ?_)
              ·(first | rfl | (go_simp;done))
              simp only [Act.put,zA,zB,zC])
         with_reducible refine wpQuiet_nil ?_
         intro w5 hW5
         go_wp2
         go_ret
         exact ⟨by rw [hf.out];rfl,hW5.bel⟩
        ·have hkx:=Lib.hid hkx
         refine zAg (C:=EntQ w g gs os l x) (by kernel_rfl) (by kernel_rfl) hS.drew ?_
         repeat
          first
           | ((with_reducible refine zAs ?_ ?_)
              ·(go_simp;done)
              apply Exists.intro
              refine ⟨fun W hW=>?_,?_⟩
              ·first
                | (have f1:=hW.name_
                   have f3:=hW.kind_ hkx.out
                   have f2:W.cell? ⟨gs,os+u*34,none⟩=some (.string (B q.name)):=(zAv (hW.at_ _ q hqu.out)).1
                   go_simp
                   first
                    | rfl
                    | (go_at_call 143;with_reducible exact keepE (hnm _) hW))
              simp only [Act.put,zA,zB,zC])
           | ((with_reducible refine zAk ?_ ?_)
              ·(first | rfl | (go_simp;done))
              simp only [Act.put,zA,zB,zC])
         with_reducible refine wpQuiet_nil ?_
         intro w5 hW5
         go_wp2
         go_ret
         exact ⟨by rw [hf.out];rfl,hW5.bel⟩
       ·have hf:Hid (r=false):=by show r=false;rw [hr.out];exact zBW hlt hat1
        clear hat1 hr hall
        rcases hk12 with hkx | hkx
        ·have hkx:=Lib.hid hkx
         refine zAg (C:=EntQ w g gs os l x) (by kernel_rfl) (by kernel_rfl) hS.drew ?_
         repeat
          first
           | ((with_reducible refine zAs ?_ ?_)
              ·(go_simp;done)
              apply Exists.intro
              refine ⟨fun W hW=>?_,?_⟩
              ·first
                | (have f1:=hW.name_
                   have f3:=hW.kind_ hkx.out
                   have f2:W.cell? ⟨gs,os+u*34,none⟩=some (.string (B q.name)):=(zAv (hW.at_ _ q hqu.out)).1
                   go_simp
                   first
                    | rfl
                    | (go_at_call 143;with_reducible exact keepE (hnm _) hW))
              simp only [Act.put,zA,zB,zC])
           | ((with_reducible refine zAk ?_ ?_)
              ·(first | rfl | (go_simp;done))
              simp only [Act.put,zA,zB,zC])
         with_reducible refine wpQuiet_nil ?_
         intro w5 hW5
         go_wp2
         go_ret
         exact ⟨by rw [hf.out];rfl,hW5.bel⟩
        ·have hkx:=Lib.hid hkx
         refine zAg (C:=EntQ w g gs os l x) (by kernel_rfl) (by kernel_rfl) hS.drew ?_
         repeat
          first
           | ((with_reducible refine zAs ?_ ?_)
              ·(go_simp;done)
              apply Exists.intro
              refine ⟨fun W hW=>?_,?_⟩
              ·first
                | (have f1:=hW.name_
                   have f3:=hW.kind_ hkx.out
                   have f2:W.cell? ⟨gs,os+u*34,none⟩=some (.string (B q.name)):=(zAv (hW.at_ _ q hqu.out)).1
                   go_simp
                   first
                    | rfl
                    | (go_at_call 143;with_reducible exact keepE (hnm _) hW))
              simp only [Act.put,zA,zB,zC])
           | ((with_reducible refine zAk ?_ ?_)
              ·(first | rfl | (go_simp;done))
              simp only [Act.put,zA,zB,zC])
         with_reducible refine wpQuiet_nil ?_
         intro w5 hW5
         go_wp2
         go_ret
         exact ⟨by rw [hf.out];rfl,hW5.bel⟩
     ·have d1:(x.kind != 1)=true:=by simp only [bne_iff_ne];exact fun e=>hk12 (.inl e)
      have d2:(x.kind != 2)=true:=by simp only [bne_iff_ne];exact fun e=>hk12 (.inr e)
      have d3:(x.kind==1)=false:=by rw [beq_eq_false_iff_ne];exact fun e=>hk12 (.inl e)
      have d4:(x.kind==2)=false:=by rw [beq_eq_false_iff_ne];exact fun e=>hk12 (.inr e)
      have heb:entB x=false:=by unfold entB;rw [d3,d4];simp
      have hf:Hid (r=false):=by show r=false;rw [hr.out];exact zBW hlt (zEp hx.out heb)
      have d5 : ¬ x.kind=1:=fun e=>hk12 (.inl e)
      have d6 : ¬ x.kind=2:=fun e=>hk12 (.inr e)
      clear hr hall bn hk12 heb
      refine zAg (C:=EntQ w g gs os l x) (by kernel_rfl) (by kernel_rfl) hS.drew ?_
      repeat
       first
        | ((with_reducible refine zAs ?_ ?_)
           ·(go_simp;done)
           apply Exists.intro
           refine ⟨fun W hW=>?_,?_⟩
           ·first
             | (have f1:=hW.name_
                have f3:=hW.kind_ rfl
                go_simp
                first
                 | rfl
                 | (go_at_call 143;with_reducible exact keepE (hnm _) hW))
           simp only [Act.put,zA,zB,zC])
        | ((with_reducible refine zAk ?_ ?_)
           ·(first | rfl | (go_simp;done))
           simp only [Act.put,zA,zB,zC])
      with_reducible refine wpQuiet_nil ?_
      intro w5 hW5
      go_wp2
      go_ret
      exact ⟨by rw [hf.out];rfl,hW5.bel⟩
  ·have hki : ¬ (k:Int)<(l.length:Int):=by omega
   have hf:Hid (r=decide (l.length≤64)):=by
    show r=_
    rw [hr.out]
    have:=hall.out
    rw [show k=l.length from by omega] at this
    exact ents_all this
   clear hall hat hr
   by_cases h64:l.length≤64
   ·have i64:(l.length:Int)≤64:=by omega
    go_wp2
    go_ret
    exact ⟨by rw [hf.out,decide_eq_true h64];rfl,hbel⟩
   ·have i64 : ¬ (l.length:Int)≤64:=by omega
    go_wp2
    go_ret
    exact ⟨by rw [hf.out,decide_eq_false h64];rfl,hbel⟩
end
section
attribute [local go_sem ↓] ldvO_eq
set_option maxRecDepth 100000 in
set_option maxHeartbeats 4000000 in
theorem zBA (o:ObjL) (A1 A2:Option Addr) (k1 k2:Nat) (w:World) (hv:ObjV w (.slice A1 o.ents.length k1) (.slice A2 o.pars.length k2) o):Calls Tryz.prog 110 #[.agg (objC o (.slice A1 o.ents.length k1) (.slice A2 o.pars.length k2)).toArray] w fun e w'=>e = .returned (.bool (mayB o))∧Below w.heap.size w w':=by
 have ho:=hv.ok
 have hO:=boxed (w:=w) (ve := .slice A1 o.ents.length k1) (vp := .slice A2 o.pars.length k2) ho
 have b0:Below w.heap.size w (w.alloc (.cells (objC o (.slice A1 o.ents.length k1) (.slice A2 o.pars.length k2)).toArray 74)):=(Below.refl _ _).alloc (Nat.le_refl _) _
 have hv0:=hv.below b0
 have hal:=fun W=>Lib.hid (alone_calls o ho A1 A2 k1 k2 W)
 have hld:=fun W (h:ObjB W w.heap.size o (.slice A1 o.ents.length k1) (.slice A2 o.pars.length k2))=>zAU h ho
 obtain ⟨W0,hW0⟩ : ∃ W0,w.alloc (.cells (objC o (.slice A1 o.ents.length k1) (.slice A2 o.pars.length k2)).toArray 74)=W0:=⟨_,rfl⟩
 rw [hW0] at hO b0 hv0
 have hen:=fun W (hb:Below W0.heap.size W0 W)=>Lib.hid (entries_calls o.ents ho.ents _ W (hv0.ents.below hb))
 have hnm:=fun W=>Lib.hid (name_calls o.name W)
 have hki:=fun W=>Lib.hid (kind_calls o.of_ W)
 have c0:=hO.kind
 have q0:=hld W0 hO
 obtain ⟨r,hr⟩ : ∃ r,Hid (r=mayB o):=⟨_,Lib.hid rfl⟩
 rw [←hr.out]
 have hr2:=hr.out
 unfold mayB at hr2
 replace hr2:=Lib.hid hr2
 have d2:=fun W (hb:Below W0.heap.size W0 W)=>(hO.below hb).ents
 have d35:=fun W (hb:Below W0.heap.size W0 W)=>(hO.below hb).pars
 have d70:=fun W (hb:Below W0.heap.size W0 W)=>(hO.below hb).of_
 have d71:=fun W (hb:Below W0.heap.size W0 W)=>(hO.below hb).name
 clear hr hO hv hv0 ho hld
 generalize (objC o (.slice A1 o.ents.length k1) (.slice A2 o.pars.length k2)).toArray=cs at *
 generalize aloneB o=A at *
 generalize entsB o.ents=E at *
 generalize nameB o.name=N at *
 generalize kindB o.of_=K at *
 have s0:=b0.size
 by_cases h2:o.kind=2
 ·rw [h2] at c0
  have hf:Hid (r=(A&&E)):=by show r=_;rw [hr2.out,if_pos h2]
  clear hr2 h2 hnm hki d35 d70 d71
  have hal:=hal W0
  cases A with
  | false=>
    clear hen d2
    go_enter Tryz.func110,Tryz.ntmps110
    go_wp2_with (first
     | ((with_reducible refine hal.out.mono ?_);rintro e w1 ⟨rfl,hb1⟩))
    go_ret
    exact ⟨by rw [hf.out];rfl,bthen b0 s0 hb1⟩
  | true=>
    go_enter Tryz.func110,Tryz.ntmps110
    go_wp2_with (first
     | ((with_reducible refine hal.out.mono ?_);rintro e w1 ⟨rfl,hb1⟩
        have c2:=d2 w1 hb1
        have hen:=hen w1 hb1
        clear hal d2)
     | ((with_reducible refine hen.out.mono ?_);rintro e w2 ⟨rfl,hb2⟩))
    go_ret
    exact ⟨by rw [hf.out];rfl,bthen b0 s0 (bthen hb1 hb1.size hb2)⟩
 have e2:(o.kind==2)=false:=by rw [beq_eq_false_iff_ne];exact h2
 by_cases h3:o.kind=3
 ·rw [h3] at c0
  have hf:Hid (r=(A&&decide ((o.pars.length:Int)≤8))):=by
   show r=_;rw [hr2.out,if_neg h2,if_pos h3]
   congr 1
   rw [Bool.eq_iff_iff,decide_eq_true_iff,decide_eq_true_iff];omega
  clear hr2 h2 h3 e2 hnm hki d2 d70 d71 hen
  have hal:=hal W0
  cases A with
  | false=>
    clear d35
    go_enter Tryz.func110,Tryz.ntmps110
    go_wp2_with (first
     | ((with_reducible refine hal.out.mono ?_);rintro e w1 ⟨rfl,hb1⟩))
    go_ret
    exact ⟨by rw [hf.out];rfl,bthen b0 s0 hb1⟩
  | true=>
    go_enter Tryz.func110,Tryz.ntmps110
    go_wp2_with (first
     | ((with_reducible refine hal.out.mono ?_);rintro e w1 ⟨rfl,hb1⟩
        have c35:=d35 w1 hb1
        clear hal d35))
    go_ret
    exact ⟨by rw [hf.out];rfl,bthen b0 s0 hb1⟩
 have e3:(o.kind==3)=false:=by rw [beq_eq_false_iff_ne];exact h3
 by_cases h4:o.kind=4
 ·rw [h4] at c0
  have hf:Hid (r=(A&&K&&N)):=by show r=_;rw [hr2.out,if_neg h2,if_neg h3,if_pos h4]
  clear hr2 h2 h3 h4 e2 e3 hen d2 d35
  have hal:=hal W0
  cases A with
  | false=>
    clear hnm hki d70 d71
    go_enter Tryz.func110,Tryz.ntmps110
    go_wp2_with (first
     | ((with_reducible refine hal.out.mono ?_);rintro e w1 ⟨rfl,hb1⟩))
    go_ret
    exact ⟨by rw [hf.out];rfl,bthen b0 s0 hb1⟩
  | true=>
    cases K with
    | false=>
      clear hnm d71
      go_enter Tryz.func110,Tryz.ntmps110
      go_wp2_with (first
       | ((with_reducible refine hal.out.mono ?_);rintro e w1 ⟨rfl,hb1⟩
          have c70:=d70 w1 hb1
          have hki:=hki w1
          clear hal d70)
       | ((with_reducible refine hki.out.mono ?_);rintro e w2 ⟨rfl,rfl⟩))
      go_ret
      exact ⟨by rw [hf.out];rfl,bthen b0 s0 hb1⟩
    | true=>
      go_enter Tryz.func110,Tryz.ntmps110
      go_wp2_with (first
       | ((with_reducible refine hal.out.mono ?_);rintro e w1 ⟨rfl,hb1⟩
          have c70:=d70 w1 hb1
          have c71:=d71 w1 hb1
          have hki:=hki w1
          have hnm:=hnm w1
          clear hal d70 d71)
       | ((with_reducible refine hki.out.mono ?_);rintro e w2 ⟨rfl,rfl⟩)
       | ((with_reducible refine hnm.out.mono ?_);rintro e w3 ⟨rfl,rfl⟩))
      go_ret
      exact ⟨by rw [hf.out];rfl,bthen b0 s0 hb1⟩
 have e4:(o.kind==4)=false:=by rw [beq_eq_false_iff_ne];exact h4
 have hf:Hid (r=(o.kind==1&&A)):=by show r=_;rw [hr2.out,if_neg h2,if_neg h3,if_neg h4]
 have hal:=hal W0
 clear hr2 hnm hki d2 d35 d70 d71 hen
 by_cases h1:o.kind=1
 ·rw [h1] at c0 hf
  clear h1 h2 h3 h4 e2 e3 e4
  go_enter Tryz.func110,Tryz.ntmps110
  go_wp2_with (first
   | ((with_reducible refine hal.out.mono ?_);rintro e w1 ⟨rfl,hb1⟩))
  go_ret
  exact ⟨by rw [hf.out];rfl,bthen b0 s0 hb1⟩
 ·have e1:(o.kind==1)=false:=by rw [beq_eq_false_iff_ne];exact h1
  rw [e1] at hf
  clear hal
  go_enter Tryz.func110,Tryz.ntmps110
  go_wp2
  go_ret
  exact ⟨by rw [hf.out];simp [e1],b0⟩
end
section
attribute [local go_sem ↓] ldvI_eq
theorem zBR (o:ObjL):commitN o=(decide (o.tree=List.replicate 32 0)&&decide ((o.pars.length:Int)=0)&&decide ((o.time:Int)=0)&&o.text.isEmpty):=by
 rw [show decide ((o.pars.length:Int)=0)=(o.pars.length==0) from by rw [Bool.eq_iff_iff,decide_eq_true_iff,beq_iff_eq];omega,show decide ((o.time:Int)=0)=(o.time==0) from by rw [Bool.eq_iff_iff,decide_eq_true_iff,beq_iff_eq];omega]
 rfl
theorem tag_eq (o:ObjL):tagN o=(decide (o.target=List.replicate 32 0)&&decide (o.of_=0)&&o.name.isEmpty):=by
 rw [show decide (o.of_=0)=(o.of_==0) from by rw [Bool.eq_iff_iff,decide_eq_true_iff,beq_iff_eq]]
 rfl
theorem zD9 {w:World} {g:Nat} (h:Blk w g 28 (u8s (List.replicate 32 0))):(ldvI ⟨g,0,none⟩).run Tryz.prog w = .ok (.agg #[.int .u8 0, .int .u8 0, .int .u8 0, .int .u8 0, .int .u8 0, .int .u8 0, .int .u8 0, .int .u8 0, .int .u8 0, .int .u8 0, .int .u8 0, .int .u8 0, .int .u8 0, .int .u8 0, .int .u8 0, .int .u8 0, .int .u8 0, .int .u8 0, .int .u8 0, .int .u8 0, .int .u8 0, .int .u8 0, .int .u8 0, .int .u8 0, .int .u8 0, .int .u8 0, .int .u8 0, .int .u8 0, .int .u8 0, .int .u8 0, .int .u8 0, .int .u8 0]) w:=by
 rw [zDE]
 exact zAi (zAj h) (by simp)
theorem zBY {ops:Array Oper} {rest:List Oper} {a:Act} {W:World} {Q:Exit→Act→World→Prop} {d:Option Tmp} {rt:TypeId} {pos:String} {af:Array Edge} (x y:Operand) (zs:Array Value) (hz:zs.size=32) (hx:a.eval x = .pointer (some ⟨W.heap.size,0,none⟩)) (hy:a.eval y = .agg #[.int .u8 0, .int .u8 0, .int .u8 0, .int .u8 0, .int .u8 0, .int .u8 0, .int .u8 0, .int .u8 0, .int .u8 0, .int .u8 0, .int .u8 0, .int .u8 0, .int .u8 0, .int .u8 0, .int .u8 0, .int .u8 0, .int .u8 0, .int .u8 0, .int .u8 0, .int .u8 0, .int .u8 0, .int .u8 0, .int .u8 0, .int .u8 0, .int .u8 0, .int .u8 0, .int .u8 0, .int .u8 0, .int .u8 0, .int .u8 0, .int .u8 0, .int .u8 0])
 (h : ∀ W1,Blk W1 W.heap.size 28 (u8s (List.replicate 32 0))→Below W.heap.size W W1→wpList Tryz.prog ops Q rest (a.put d undef) W1) :
 wpList Tryz.prog ops Q ({ dst:=d,op := .store 28 x y,type:=rt,pos:=pos,after:=af,guard:=none }::rest) a (W.alloc (.cells zs 28)):=
 zDy rfl x y rfl (List.replicate 32 0) (by simp) zs hx (hy.trans (congrArg Value.agg zDE)) hz h
theorem zBb {ops:Array Oper} {rest:List Oper} {a:Act} {w:World} {Q:Exit→Act→World→Prop} {d:Option Tmp} {rt:TypeId} {pos:String} {af:Array Edge} (x:Operand) (b o:Nat) (r:EntL) (hr:EntOk r) (hc:w.rangeAt b o (entC r)) (hx:a.eval x = .pointer (some ⟨b,o,none⟩))
 (h:wpList Tryz.prog ops Q rest (a.put d (.agg (entC r).toArray)) w):wpList Tryz.prog ops Q ({ dst:=d,op := .load 181 x,type:=rt,pos:=pos,after:=af,guard:=none }::rest) a w:=
 wpList_load_mid rfl _ x rfl b o hx _ _ hc Tryz.underlying181 rfl (sizedEnt hr) h
theorem zBm {ops:Array Oper} {rest:List Oper} {a:Act} {w:World} {Q:Exit→Act→World→Prop} {d:Option Tmp} {rt:TypeId} {pos:String} {af:Array Edge} (x y:Operand) (r:EntL) (hr:EntOk r) (zs:Array Value) (hz:zs.size=34) (hx:a.eval x = .pointer (some ⟨w.heap.size,0,none⟩)) (hy:a.eval y = .agg (entC r).toArray)
 (h : ∀ W1,Blk W1 w.heap.size 181 (entC r).toArray→Below w.heap.size w W1→wpList Tryz.prog ops Q rest (a.put d undef) W1) :
 wpList Tryz.prog ops Q ({ dst:=d,op := .store 181 x y,type:=rt,pos:=pos,after:=af,guard:=none }::rest) a (w.alloc (.cells zs 181)):=
 zBS rfl x y rfl r hr zs hx hy hz h
theorem treeN_two (o:ObjL) (h:o.kind=2):mayB o=(blobN o&&commitN o&&tagN o&&entsB o.ents):=by unfold mayB aloneB;rw [if_pos h,if_neg (by omega),if_pos h]
theorem may_one (o:ObjL) (h:o.kind=1):mayB o=(treeN o&&commitN o&&tagN o):=by unfold mayB aloneB;rw [if_neg (by omega),if_neg (by omega),if_neg (by omega),if_pos h,h];rfl
theorem may_three (o:ObjL) (h:o.kind=3):mayB o=(blobN o&&treeN o&&tagN o&&decide (o.pars.length≤8)):=by unfold mayB aloneB;rw [if_neg (by omega),if_pos h,if_neg (by omega),if_neg (by omega),if_pos h]
theorem may_four (o:ObjL) (h:o.kind=4):mayB o=(blobN o&&treeN o&&commitN o&&kindB o.of_&&nameB o.name):=by unfold mayB aloneB;rw [if_neg (by omega),if_neg (by omega),if_pos h,if_neg (by omega),if_neg (by omega),if_neg (by omega)]
theorem may_none (o:ObjL) (h:o.kind<1∨4<o.kind):mayB o=false:=by
 unfold mayB
 rw [if_neg (by omega),if_neg (by omega),if_neg (by omega)]
 have:(o.kind==1)=false:=by rw [beq_eq_false_iff_ne];omega
 rw [this];rfl
set_option maxRecDepth 100000 in
set_option maxHeartbeats 4000000 in
theorem refMay_calls2 (o:ObjL) (hk:o.kind=2) (A1 A2:Option Addr) (k1 k2:Nat) (w:World) (hv:ObjV w (.slice A1 o.ents.length k1) (.slice A2 o.pars.length k2) o):Calls Tryz.prog 88 #[.agg (objC o (.slice A1 o.ents.length k1) (.slice A2 o.pars.length k2)).toArray] w fun e w'=>e = .returned (.bool (mayB o))∧Below w.heap.size w w':=by
 have ho:=hv.ok
 have hO:=boxed (w:=w) (ve := .slice A1 o.ents.length k1) (vp := .slice A2 o.pars.length k2) ho
 have b0:Below w.heap.size w (w.alloc (.cells (objC o (.slice A1 o.ents.length k1) (.slice A2 o.pars.length k2)).toArray 74)):=(Below.refl _ _).alloc (Nat.le_refl _) _
 have hv0:=hv.below b0
 obtain ⟨W0,hW0⟩ : ∃ W0,w.alloc (.cells (objC o (.slice A1 o.ents.length k1) (.slice A2 o.pars.length k2)).toArray 74)=W0:=⟨_,rfl⟩
 rw [hW0] at hO b0 hv0
 have c0:=hO.kind
 have g1:=fun W=>zAi (w:=W) (g:=w.heap.size) (o:=3) (l:=o.tree)
 have g2:=fun W=>zAi (w:=W) (g:=w.heap.size) (o:=38) (l:=o.target)
 have z1:=fun W=>zAK o.tree ho.tree W
 have z2:=fun W=>zAK o.target ho.target W
 have e1:=Lib.hid (zBR o)
 have e2:=Lib.hid (tag_eq o)
 have ht:o.time<4294967296:=ho.time
 obtain ⟨r,hr⟩ : ∃ r,Hid (r=mayB o):=⟨_,Lib.hid rfl⟩
 rw [←hr.out]
 have hr2:=hr.out
 rw [treeN_two o hk,zBR,tag_eq] at hr2
 have hX:blobN o=List.isEmpty o.data:=rfl
 rw [hX] at hr2
 replace hr2:=Lib.hid hr2
 rw [hk] at c0
 have htr:=Lib.hid ho.tree
 have hta:=Lib.hid ho.target
 have hoE:=Lib.hid ho.ents
 obtain ⟨E,hE⟩ : ∃ E,Hid (E=entsB o.ents):=⟨_,Lib.hid rfl⟩
 rw [←hE.out] at hr2
 clear hr ho hX hv e1 e2
 generalize decide (o.tree=List.replicate 32 0)=T at *
 generalize decide (o.target=List.replicate 32 0)=G at *
 obtain ⟨Pz,hPz⟩ : ∃ Pz,decide ((o.pars.length:Int)=0)=Pz:=⟨_,rfl⟩
 have hP1:0<o.pars.length→Pz=false:=fun h=>by rw [←hPz];exact decide_eq_false (by omega)
 have hP2 : ¬ 0<o.pars.length→Pz=true:=fun h=>by rw [←hPz];exact decide_eq_true (by omega)
 replace hP1:=Lib.hid hP1
 replace hP2:=Lib.hid hP2
 have hr3:=hr2.out
 rw [hPz] at hr3
 replace hr2:=Lib.hid hr3
 clear hPz hr3
 generalize hcs:(objC o (.slice A1 o.ents.length k1) (.slice A2 o.pars.length k2)).toArray=cs at *
 clear hcs
 have s0:=b0.size
 go_enter Tryz.func88,Tryz.ntmps88
 go_upto_region 4 with (first
  | ((with_reducible refine zBY (.tmp 3) (.tmp 16) _ ?_ ?_ ?_ ?_);rfl;rfl;rfl
     intro W1 hb1 hbl1
     have hO1:=hO.below hbl1
     have c1:=hO1.data
     have c2:=hO1.ents
     have c35:=hO1.pars
     have c36:=hO1.time
     have c37:=hO1.text
     have c70:=hO1.of_
     have c71:=hO1.name
     have c0':=hO1.kind
     rw [hk] at c0'
     have q1:=g1 W1 hO1.tree htr.out
     have q2:=g2 W1 hO1.target hta.out
     have q3:=zD9 hb1))
 clear c0 hO hb1 htr hta g1 g2 hW0
 have hE64:(64:Int)<(o.ents.length:Int)→E=false:=fun h=>by
  rw [hE.out];unfold entsB
  rw [Bool.and_eq_false_iff]
  exact .inr (decide_eq_false (by omega))
 have b1:=b0.trans (hbl1.mono s0)
 have hat:Hid (0<o.ents.length → ∃ g os,A1=some ⟨g,os,none⟩∧g<W1.heap.size ∧ ∀ i x,o.ents[i]?=some x→W1.rangeAt g (os+i*34) (entC x)):=by
  obtain ⟨A,cap,he,_,_,h⟩:=hv0.ents.below hbl1
  injection he with he _ _
  subst he
  exact h
 have sz1:=Nat.le_trans s0 hbl1.size
 clear b0 hbl1 hv0
 go_upto_region 16 with fail
 all_goals try
  (go_ret
   refine ⟨?_,b1⟩
   rw [hr2.out]
   have hP1:=hP1.out
   have hP2:=hP2.out
   clear z1 z2 c1 c2 c35 c36 c37 c70 c71 q1 q2 q3 hO1 c0' hE hr2 hat hoE
   simp_all
   done)
 have hrE:Hid (r=E):=by
  show r=E
  rw [hr2.out]
  have hP1:=hP1.out
  have hP2:=hP2.out
  clear z1 z2 c1 c2 c35 c36 c37 c70 c71 q1 q2 q3 hO1 c0' hE hr2 hat hoE
  simp_all
 have h64:(o.ents.length:Int)≤64:=by first | assumption | omega
 clear hP1 hP2 hr2 z1 z2 c1 c35 c36 c37 c70 c71 q1 q2 q3 c0' hE64 c2 ht
 go_cut [5] (fun s5 wx=>s5 = .int .i64 0∧wx=W1)
 case first=>
  go_wp2
  go_meet
  case rel=>exact ⟨rfl,rfl⟩
 obtain ⟨rfl,rfl⟩:=hcut
 go_wp2
 go_loopw [5] (fun vi wr => ∃ k:Nat,vi = .int .i64 k∧k≤o.ents.length∧Hid ((List.range k).all (entAt o.ents)=true)∧Below wc.heap.size wc wr) (fun vi _=>o.ents.length-(intOf vi).toNat)
 case atStart=>exact ⟨0,rfl,by omega,rfl,Below.refl _ _⟩
 case round=>
  obtain ⟨k,rfl,hk',hall,hbel⟩:=hrel
  have hsz:=hbel.size
  have hOr:=hO1.below hbel
  have c2:=hOr.ents
  by_cases hlt:k<o.ents.length
  ·have hki:(k:Int)<(o.ents.length:Int):=by omega
   obtain ⟨gs,os,rfl,hgs,hcell⟩:=hat.out (by omega)
   obtain ⟨x,hx⟩ : ∃ x,o.ents[k]?=some x:=⟨_,List.getElem?_eq_getElem hlt⟩
   have hxok:EntOk x:=hoE.out x (List.mem_of_getElem? hx)
   have hx0:=zAb (hcell k x hx) hgs hbel
   have hxh:=Lib.hid hx
   clear hx hat hoE
   have hnm:=fun W=>Lib.hid (zC9 x.name hxok.name W)
   cases bn:nameB x.name with
   | false=>
     have hf:Hid (r=false):=by show r=false;rw [hrE.out,hE.out];exact zBW hlt (zEp hxh.out (by unfold entB;rw [bn];rfl))
     rw [bn] at hnm
     clear hE hrE hall bn
     go_wp2_with (first
      | ((with_reducible refine zBb (.tmp 113) gs (os+k*34) x hxok hx0 ?_ ?_);rfl)
      | ((with_reducible refine zBm (.tmp 6) (.tmp 114) x hxok _ ?_ ?_ ?_ ?_);rfl;rfl;rfl;intro W2 hb2 hbl2
         have cn:=(zAv (zAy hb2)).1
         have hnm:=hnm W2)
      | ((with_reducible refine hnm.out.mono ?_);rintro e w3 ⟨rfl,rfl⟩))
     all_goals try (exfalso;omega)
     go_ret
     exact ⟨by rw [hf.out];rfl,b1.trans ((bthen hbel hsz hbl2).mono sz1)⟩
   | true=>
     rw [bn] at hnm
     by_cases hk12:x.kind=1∨x.kind=2
     ·have heb:entB x=true:=by
       unfold entB
       rw [bn]
       rcases hk12 with h | h<;>simp [h]
      have d1 : ¬ x.kind<1:=by omega
      have d2 : ¬ 2<x.kind:=by omega
      clear bn hk12
      rcases Nat.eq_zero_or_pos k with h0 | h0
      ·have hk0 : ¬ (0:Int)<(k:Int):=by omega
       have hk0d:decide ((0:Int)<(k:Int))=false:=by simpa using h0
       have hk0n:decide (0<k)=false:=by simp [h0]
       have hx00:o.ents[0]?=some x:=by rw [←h0];exact hxh.out
       have hok0:entAt o.ents k=true:=by rw [h0];exact entAt_zero hx00 heb
       have hst:=Lib.hid (zC7 hall.out hok0)
       clear hx00 hok0 h0 heb hall hE hrE
       go_wp2_with (first
        | ((with_reducible refine zBb (.tmp 113) gs (os+k*34) x hxok hx0 ?_ ?_);rfl)
        | ((with_reducible refine zBm (.tmp 6) (.tmp 114) x hxok _ ?_ ?_ ?_ ?_);rfl;rfl;rfl;intro W2 hb2 hbl2
           have cn:=(zAv (zAy hb2)).1
           have ck:=(zAv (zAy hb2)).2
           have c2':=(hOr.below hbl2).ents
           have bel2:=b1.trans ((bthen hbel hsz hbl2).mono sz1)
           have bel1:=bthen hbel hsz hbl2
           have hnm:=hnm W2)
        | ((with_reducible refine hnm.out.mono ?_);rintro e w3 ⟨rfl,rfl⟩))
       all_goals try (exfalso;omega)
       go_quiet (fail)
       clear hk0 hk0d hk0n
       go_wp2
       go_roundw
       case rel=>exact ⟨k+1,by go_num,by omega,hst,bdrewN bel1 nq⟩
       case measure=>simp [intOf];omega
      ·obtain ⟨q,hq⟩ : ∃ q,o.ents[k-1]?=some q:=⟨_,List.getElem?_eq_getElem (show k-1<o.ents.length by omega)⟩
       have hk0:(0:Int)<(k:Int):=by omega
       have hat1:entAt o.ents k=Op.bytesLess q.name x.name:=by
        obtain ⟨j,rfl⟩ : ∃ j,k=j+1:=⟨k-1,by omega⟩
        exact entAt_succ hxh.out hq heb
       obtain ⟨u,s1,hu⟩ : ∃ u:Nat,IntKind.i64.wrap ((k:Int)-1)=(u:Int)∧u=k-1:=⟨k-1,by rw [IntWalk.i64_in _ (by omega)];omega,rfl⟩
       have s3:(u:Int)<(o.ents.length:Int):=by omega
       have s4:u<o.ents.length:=by omega
       have hqu:Hid (o.ents[u]?=some q):=by show _=_;rw [hu];exact hq
       clear hu hq heb
       rcases two_ways q.name x.name with ⟨l1,l2,l3,l4⟩ | ⟨l1,l2,l3,l4⟩ | ⟨l1,l2,l3,l4⟩
       all_goals rw [l1] at hat1
       ·have hst:=Lib.hid (zC7 hall.out hat1)
        clear hat1 hall hE hrE
        go_wp2_with (first
         | ((with_reducible refine zBb (.tmp 113) gs (os+k*34) x hxok hx0 ?_ ?_);rfl)
         | ((with_reducible refine zBm (.tmp 6) (.tmp 114) x hxok _ ?_ ?_ ?_ ?_);rfl;rfl;rfl;intro W2 hb2 hbl2
            have cn:=(zAv (zAy hb2)).1
            have ck:=(zAv (zAy hb2)).2
            have c2':=(hOr.below hbl2).ents
            have bel2:=b1.trans ((bthen hbel hsz hbl2).mono sz1)
            have bel1:=bthen hbel hsz hbl2
            have c3:W2.cell? ⟨gs,os+u*34,none⟩=some (.string (B q.name)):=(zAv (zAb (hcell u q hqu.out) hgs bel1)).1
            have hnm:=hnm W2)
         | ((with_reducible refine hnm.out.mono ?_);rintro e w3 ⟨rfl,rfl⟩))
        all_goals try (exfalso;omega)
        go_quiet (fail)
        clear s1 s3 s4 l1 l2 l3 l4 hk0
        go_wp2
        go_roundw
        case rel=>exact ⟨k+1,by go_num,by omega,hst,bdrewN bel1 nq⟩
        case measure=>simp [intOf];omega
       ·have hf:Hid (r=false):=by show r=false;rw [hrE.out,hE.out];exact zBW hlt hat1
        clear hat1 hall hE hrE
        go_wp2_with (first
         | ((with_reducible refine zBb (.tmp 113) gs (os+k*34) x hxok hx0 ?_ ?_);rfl)
         | ((with_reducible refine zBm (.tmp 6) (.tmp 114) x hxok _ ?_ ?_ ?_ ?_);rfl;rfl;rfl;intro W2 hb2 hbl2
            have cn:=(zAv (zAy hb2)).1
            have ck:=(zAv (zAy hb2)).2
            have c2':=(hOr.below hbl2).ents
            have bel2:=b1.trans ((bthen hbel hsz hbl2).mono sz1)
            have bel1:=bthen hbel hsz hbl2
            have c3:W2.cell? ⟨gs,os+u*34,none⟩=some (.string (B q.name)):=(zAv (zAb (hcell u q hqu.out) hgs bel1)).1
            have hnm:=hnm W2)
         | ((with_reducible refine hnm.out.mono ?_);rintro e w3 ⟨rfl,rfl⟩))
        all_goals try (exfalso;omega)
        go_quiet (fail)
        go_wp2
        go_ret
        exact ⟨by rw [hf.out];rfl,bdrewN bel2 nq⟩
       ·have hf:Hid (r=false):=by show r=false;rw [hrE.out,hE.out];exact zBW hlt hat1
        clear hat1 hall hE hrE
        go_wp2_with (first
         | ((with_reducible refine zBb (.tmp 113) gs (os+k*34) x hxok hx0 ?_ ?_);rfl)
         | ((with_reducible refine zBm (.tmp 6) (.tmp 114) x hxok _ ?_ ?_ ?_ ?_);rfl;rfl;rfl;intro W2 hb2 hbl2
            have cn:=(zAv (zAy hb2)).1
            have ck:=(zAv (zAy hb2)).2
            have c2':=(hOr.below hbl2).ents
            have bel2:=b1.trans ((bthen hbel hsz hbl2).mono sz1)
            have bel1:=bthen hbel hsz hbl2
            have c3:W2.cell? ⟨gs,os+u*34,none⟩=some (.string (B q.name)):=(zAv (zAb (hcell u q hqu.out) hgs bel1)).1
            have hnm:=hnm W2)
         | ((with_reducible refine hnm.out.mono ?_);rintro e w3 ⟨rfl,rfl⟩))
        all_goals try (exfalso;omega)
        go_quiet (fail)
        go_wp2
        go_ret
        exact ⟨by rw [hf.out];rfl,bdrewN bel2 nq⟩
     ·have heb:entB x=false:=by
       unfold entB
       have e1:(x.kind==1)=false:=by rw [beq_eq_false_iff_ne];omega
       have e2:(x.kind==2)=false:=by rw [beq_eq_false_iff_ne];omega
       rw [e1,e2];simp
      have hf:Hid (r=false):=by show r=false;rw [hrE.out,hE.out];exact zBW hlt (zEp hxh.out heb)
      clear heb hall hE hrE bn
      by_cases d1:x.kind<1
      ·clear hk12
       go_wp2_with (first
        | ((with_reducible refine zBb (.tmp 113) gs (os+k*34) x hxok hx0 ?_ ?_);rfl)
        | ((with_reducible refine zBm (.tmp 6) (.tmp 114) x hxok _ ?_ ?_ ?_ ?_);rfl;rfl;rfl;intro W2 hb2 hbl2
           have cn:=(zAv (zAy hb2)).1
           have ck:=(zAv (zAy hb2)).2
           have c2':=(hOr.below hbl2).ents
           have bel2:=b1.trans ((bthen hbel hsz hbl2).mono sz1)
           have bel1:=bthen hbel hsz hbl2
           have hnm:=hnm W2)
        | ((with_reducible refine hnm.out.mono ?_);rintro e w3 ⟨rfl,rfl⟩))
       all_goals try (exfalso;omega)
       go_ret
       exact ⟨by rw [hf.out];rfl,bel2⟩
      ·have d2:2<x.kind:=by omega
       clear hk12
       go_wp2_with (first
        | ((with_reducible refine zBb (.tmp 113) gs (os+k*34) x hxok hx0 ?_ ?_);rfl)
        | ((with_reducible refine zBm (.tmp 6) (.tmp 114) x hxok _ ?_ ?_ ?_ ?_);rfl;rfl;rfl;intro W2 hb2 hbl2
           have cn:=(zAv (zAy hb2)).1
           have ck:=(zAv (zAy hb2)).2
           have c2':=(hOr.below hbl2).ents
           have bel2:=b1.trans ((bthen hbel hsz hbl2).mono sz1)
           have bel1:=bthen hbel hsz hbl2
           have hnm:=hnm W2)
        | ((with_reducible refine hnm.out.mono ?_);rintro e w3 ⟨rfl,rfl⟩))
       all_goals try (exfalso;omega)
       go_ret
       exact ⟨by rw [hf.out];rfl,bel2⟩
  ·have hki : ¬ (k:Int)<(o.ents.length:Int):=by omega
   have hf:Hid (r=true):=by
    show r=true
    rw [hrE.out,hE.out]
    have:=hall.out
    rw [show k=o.ents.length from by omega] at this
    rw [ents_all this]
    exact decide_eq_true (by omega)
   clear hall hat hE hrE
   go_wp2
   go_ret
   exact ⟨by rw [hf.out];rfl,b1.trans (hbel.mono sz1)⟩
end
abbrev Bld (w:World) (b:Nat) (l:Txt):Prop:=Lib.IsBuilder 143 5 b b (l.map u8v) w
theorem ib_below {T e:TypeId} {B0 b:Nat} {bs:List Value} {w w':World} (h:Lib.IsBuilder T e B0 b bs w) (hb:Below w.heap.size w w'):Lib.IsBuilder T e B0 b bs w':=by
 have key : ∀ p,Lib.BuilderAt T e B0 b p bs w→Lib.BuilderAt T e B0 b p bs w':=by
  rintro p ⟨hB,v,hh,ho,hne⟩
  have hlt:b<w.heap.size:=(show Blk w b T #[p,v] from hh).lt
  exact ⟨hB,v,(hb.block b hlt).trans hh,zAf ho hb,hne⟩
 exact h.imp (key _) (key _)
theorem ib_lt {T e:TypeId} {B0 b:Nat} {bs:List Value} {w:World} (h:Lib.IsBuilder T e B0 b bs w):b<w.heap.size:=by
 rcases h with ⟨_,v,hh,_⟩ | ⟨_,v,hh,_⟩
 ·exact (show Blk w b T #[_,v] from hh).lt
 ·exact (show Blk w b T #[_,v] from hh).lt
theorem Bld.below {w w':World} {b:Nat} {l:Txt} (h:Bld w b l) (hb:Below w.heap.size w w'):Bld w' b l:=ib_below h hb
theorem Bld.lt {w:World} {b:Nat} {l:Txt} (h:Bld w b l):b<w.heap.size:=ib_lt h
section
attribute [local go_sem ↓] ldvI_eq
structure Small (o:ObjL):Prop where
 ents:o.ents.length≤70
 names : ∀ e∈o.ents,e.name.length≤5000
 pars:o.pars.length≤20
 data:o.data.length≤5000
 text:o.text.length≤5000
 name:o.name.length≤5000
theorem entE_len' {e:EntL} (h:e.name.length≤5000) (hi:e.id.length=32):(entE e).length≤5050:=by
 have:=zAn e.name.length
 unfold entE textE
 simp only [List.length_cons,List.length_append]
 omega
theorem entsE_len' {l:List EntL} (h : ∀ e∈l,e.name.length≤5000∧e.id.length=32):(entsE l).length≤5050*l.length:=by
 induction l with
 | nil=>simp [entsE]
 | cons e l ih=>
   have h1:=entE_len' (h e (by simp)).1 (h e (by simp)).2
   have h2:=ih fun e he=>h e (by simp [he])
   have:entsE (e::l)=entE e++entsE l:=by simp [entsE]
   rw [this]
   simp only [List.length_append,List.length_cons]
   omega
end
theorem lit_load_id {ops:Array Oper} {rest:List Oper} {a:Act} {w:World} {Q:Exit→Act→World→Prop} {d:Option Tmp} {rt:TypeId} {pos:String} {af:Array Edge} (x:Operand) (b o:Nat) (l:List UInt8) (hl:l.length=32) (hc:w.rangeAt b o (u8s l).toList) (hx:a.eval x = .pointer (some ⟨b,o,none⟩))
 (h:wpList Tryz.prog ops Q rest (a.put d (.agg (u8s l))) w):wpList Tryz.prog ops Q ({ dst:=d,op := .load 28 x,type:=rt,pos:=pos,after:=af,guard:=none }::rest) a w:=
 wpList_load_mid rfl _ x rfl b o hx _ _ hc Tryz.underlying28 rfl (by rw [Array.length_toList,zAh,hl];exact sz32) (by rw [Array.toArray_toList];exact h)
section
attribute [local go_sem ↓] ldvO_eq
structure EncC (w:World) (g:Nat) (o:ObjL) (ve vp:Value) (w':World):Prop where
 obj:ObjB w' g o ve vp
 val:ObjV w' ve vp o
 bel:Below w.heap.size w w'
section
variable {w w' w'':World} {g:Nat} {o:ObjL} {ve vp:Value}
theorem EncC.drew (h:EncC w g o ve vp w'):EncC w g o ve vp w'.drew:=⟨h.obj.drew,⟨h.val.ok,h.val.ents,h.val.pars⟩,h.bel.drew⟩
theorem EncC.below (h:EncC w g o ve vp w') (hb:Below w'.heap.size w' w''):EncC w g o ve vp w'':=⟨h.obj.below hb,h.val.below hb,bthen h.bel h.bel.size hb⟩
theorem EncC.whole (h:EncC w g o ve vp w'):(ldvO ⟨g,0,none⟩).run Tryz.prog w' = .ok (.agg (objC o ve vp).toArray) w':=zAU h.obj h.val.ok
end
theorem whole_len {o:ObjL} (hs:Small o) (ho:ObjOk o):(bodyO o).length≤400000:=by
 have h1:=entsE_len' (l:=o.ents) (fun e he=>⟨hs.names e he,(ho.ents e he).id⟩)
 have h2:=flat_len (l:=o.pars) ho.pars
 have h3:=zAn o.pars.length
 have h4:=zAn o.time
 have h5:=zAn o.text.length
 have h6:=zAn o.name.length
 have:=hs.ents
 have:=hs.pars
 have:=hs.data
 have:=hs.text
 have:=hs.name
 have:=ho.tree
 have:=ho.target
 unfold bodyO commitE tagE textE
 repeat' split
 all_goals try simp only [List.length_append,List.length_cons,List.length_nil]
 all_goals omega
end
def zObj : Array Value:=(objC ⟨0,[],[],noId,[],0,[],noId,0,[]⟩ (.slice none 0 0) (.slice none 0 0)).toArray
theorem zBL : Tryz.prog.built 74 []=some zObj:=by kernel_rfl
theorem zAu : zObj.size=72:=by kernel_rfl
theorem zCR : zObj.all (·.oneCell')=true:=by kernel_rfl
theorem zeroObj (W:World):(zeroValue 74).run Tryz.prog W = .ok (.agg zObj) W:=by
 have h:(Tryz.prog.info? 74).map (·.zero)=some (some (.agg zObj)):=by kernel_rfl
 obtain ⟨i,h1,h2⟩:=Option.map_eq_some_iff.1 h
 simp [zeroValue,typeInfo,h1,h2]
theorem zEr : (Tryz.prog.info? 74).map (·.size)=some zObj.size:=by rw [zAu];exact szObj
def RdB (w:World) (g:Nat) (r:Rd):Prop:=Blk w g 203 #[.string (B r.1), .bool r.2]
theorem RdB.c0 {w:World} {g:Nat} {r:Rd} (h:RdB w g r):w.cell? ⟨g,0,none⟩=some (.string (B r.1)):=by rw [Blk.cell h];rfl
theorem RdB.c1 {w:World} {g:Nat} {r:Rd} (h:RdB w g r):w.cell? ⟨g,1,none⟩=some (.bool r.2):=by rw [Blk.cell h];rfl
theorem RdB.f {w:World} {g:Nat} {r:Rd} (h:RdB w g r) (i:Nat):w.frozen? ⟨g,i,none⟩=false:=Blk.frozen h i
theorem RdB.bad {w:World} {g:Nat} {r:Rd} (h:RdB w g r):RdB (w.setCell ⟨g,1,none⟩ (.bool true)) g (r.1,true):=Blk.set_ h 1 _
theorem RdB.rest {w:World} {g:Nat} {r:Rd} (h:RdB w g r) (s:Txt):RdB (w.setCell ⟨g,0,none⟩ (.string (B s))) g (s,r.2):=Blk.set_ h 0 _
theorem RdB.drewN {w:World} {g:Nat} {r:Rd} (h:RdB w g r) (n:Nat):RdB (w.drewN n) g r:=Blk.drewN h n
theorem RdB.below {w w':World} {g:Nat} {r:Rd} (h:RdB w g r) (hb:Below w.heap.size w w'):RdB w' g r:=(hb.block g (Blk.lt h)).trans h
theorem zCE {n:Nat} {r:Rd} (h:r.2=true∨r.1.length<n):rBytes n r=([],(r.1,true)):=by unfold rBytes;rw [if_pos h]
theorem rBytes_ok {n:Nat} {r:Rd} (h1:r.2=false) (h:n≤r.1.length):rBytes n r=(r.1.take n,(r.1.drop n,false)):=by unfold rBytes;rw [if_neg (by rw [h1];simp;omega)]
set_option maxRecDepth 100000 in
set_option maxHeartbeats 2000000 in
theorem rb_calls (n:Nat) (r:Rd) (hr:r.1.length≤100000) (hn:n≤100000) (g:Nat) (w:World) (hb:RdB w g r):Calls Tryz.prog 135 #[.pointer (some ⟨g,0,none⟩), .int .i64 n] w fun e w'=>e = .returned (.string (B (rBytes n r).1))∧RdB w' g (rBytes n r).2∧Far [some g] w w':=by
 obtain ⟨s,b⟩:=r
 have c0:=hb.c0
 have c1:=hb.c1
 have f0:=hb.f 0
 have f1:=hb.f 1
 simp only at c0 c1 hr
 cases b with
 | true=>
   rw [zCE (.inl rfl)]
   have hb2:=hb.bad
   have hfar:Far [some g] w (w.setCell ⟨g,1,none⟩ (.bool true)):=(Far.refl _ _).set_ (.inl (by simp)) _
   go_enter Tryz.func135,Tryz.ntmps135
   go_wp2
   go_ret
   exact ⟨rfl,hb2,hfar⟩
 | false=>
   by_cases hlt:s.length<n
   ·have hli:(s.length:Int)<(n:Int):=by omega
    rw [zCE (.inr hlt)]
    have hb2:=hb.bad
    have hfar:Far [some g] w (w.setCell ⟨g,1,none⟩ (.bool true)):=(Far.refl _ _).set_ (.inl (by simp)) _
    go_enter Tryz.func135,Tryz.ntmps135
    go_wp2
    all_goals try (exfalso;omega)
    go_ret
    exact ⟨rfl,hb2,hfar⟩
   ·have hli : ¬ (s.length:Int)<(n:Int):=by omega
    have hle:n≤s.length:=by omega
    have hlei:(n:Int)≤(s.length:Int):=by omega
    rw [rBytes_ok rfl hle]
    have x1:(B s).extract 0 n=B (s.take n):=zCy s n
    have x2:(B s).extract n s.length=B (s.drop n):=zB5 s n
    have hb2:=hb.rest (s.drop n)
    have hfar:Far [some g] w (w.setCell ⟨g,0,none⟩ (.string (B (s.drop n)))):=(Far.refl _ _).set_ (.inl (by simp)) _
    go_enter Tryz.func135,Tryz.ntmps135
    go_wp2
    all_goals try (exfalso;omega)
    go_ret
    exact ⟨rfl,hb2,hfar⟩
theorem rNum_bad {r:Rd} (h:r.2=true∨get r.1=none):rNum r=(0,(r.1,true)):=by
 unfold rNum
 rcases h with h | h
 ·rw [if_pos h]
 ·split
  ·rfl
  ·rw [h]
theorem rNum_ok {r:Rd} {n k:Nat} (h1:r.2=false) (h:get r.1=some (n,k)):rNum r=(n,(r.1.drop k,false)):=by unfold rNum;rw [if_neg (by rw [h1];simp),h]
theorem rText_bad {r:Rd} (h:r.2=true∨takeP r.1=none):rText r=([],(r.1,true)):=by
 unfold rText
 rcases h with h | h
 ·rw [if_pos h]
 ·split
  ·rfl
  ·rw [h]
theorem rText_ok {r:Rd} {t q:Txt} (h1:r.2=false) (h:takeP r.1=some (t,q)):rText r=(t,(q,false)):=by unfold rText;rw [if_neg (by rw [h1];simp),h]
set_option maxRecDepth 100000 in
set_option maxHeartbeats 2000000 in
theorem rn_calls (r:Rd) (hr:r.1.length≤100000) (g:Nat) (w:World) (hb:RdB w g r):Calls Tryz.prog 139 #[.pointer (some ⟨g,0,none⟩)] w fun e w'=>e = .returned (.int .u64 (rNum r).1)∧RdB w' g (rNum r).2∧Far [some g] w w':=by
 obtain ⟨s,b⟩:=r
 have c0:=hb.c0
 have c1:=hb.c1
 have f0:=hb.f 0
 have f1:=hb.f 1
 simp only at c0 c1 hr
 have hget:=zC6 s (by omega) w
 by_cases hbad:b=true∨get s=none
 ·rw [rNum_bad hbad]
  have hb2:=fun n=>(hb.drewN n).bad
  have hfar : ∀ n,Far [some g] w ((w.drewN n).setCell ⟨g,1,none⟩ (.bool true)):=fun n=>((Far.refl _ _).drewN n).set_ (.inl (by simp)) _
  cases hg:get s with
  | none=>
    rw [hg] at hget
    have hget:Calls Tryz.prog 132 #[.string (B s)] w fun e w'=>e = .returned (.tuple #[.int .u64 0, .string (B []), .int .i64 2]) ∧ ∃ n,w'=w.drewN n:=hget
    have hget:=Lib.hid hget
    clear hbad hg
    cases b
    all_goals
     go_enter Tryz.func139,Tryz.ntmps139
     go_wp2_with (first
      | ((with_reducible refine hget.out.mono ?_);rintro e w1 ⟨rfl,nq,rfl⟩))
     go_ret
     exact ⟨rfl,hb2 nq,hfar nq⟩
  | some p=>
    obtain ⟨n,k⟩:=p
    have hbt:b=true:=by
     rcases hbad with h | h
     ·exact h
     ·rw [hg] at h;cases h
    subst hbt
    rw [hg] at hget
    have hget:Calls Tryz.prog 132 #[.string (B s)] w fun e w'=>e = .returned (.tuple #[.int .u64 n, .string (B (s.drop k)), .int .i64 0]) ∧ ∃ n,w'=w.drewN n:=hget
    have hget:=Lib.hid hget
    clear hbad hg
    go_enter Tryz.func139,Tryz.ntmps139
    go_wp2_with (first
     | ((with_reducible refine hget.out.mono ?_);rintro e w1 ⟨rfl,nq,rfl⟩))
    go_ret
    exact ⟨rfl,hb2 nq,hfar nq⟩
 ·cases b with
  | true=>exact absurd (.inl rfl) hbad
  | false=>
    cases hg:get s with
    | none=>exact absurd (.inr hg) hbad
    | some p=>
      obtain ⟨n,k⟩:=p
      rw [rNum_ok rfl hg]
      rw [hg] at hget
      have hget:Calls Tryz.prog 132 #[.string (B s)] w fun e w'=>e = .returned (.tuple #[.int .u64 n, .string (B (s.drop k)), .int .i64 0]) ∧ ∃ n,w'=w.drewN n:=hget
      have hget:=Lib.hid hget
      have hb2:=fun n=>(hb.drewN n).rest (s.drop k)
      have hfar : ∀ n,Far [some g] w ((w.drewN n).setCell ⟨g,0,none⟩ (.string (B (s.drop k)))):=fun n=>((Far.refl _ _).drewN n).set_ (.inl (by simp)) _
      clear hbad hg
      go_enter Tryz.func139,Tryz.ntmps139
      go_wp2_with (first
       | ((with_reducible refine hget.out.mono ?_);rintro e w1 ⟨rfl,nq,rfl⟩))
      go_ret
      exact ⟨rfl,hb2 nq,hfar nq⟩
set_option maxRecDepth 100000 in
set_option maxHeartbeats 2000000 in
theorem rt_calls (r:Rd) (hr:r.1.length≤100000) (g:Nat) (w:World) (hb:RdB w g r):Calls Tryz.prog 137 #[.pointer (some ⟨g,0,none⟩)] w fun e w'=>e = .returned (.string (B (rText r).1))∧RdB w' g (rText r).2∧Far [some g] w w':=by
 obtain ⟨s,b⟩:=r
 have c0:=hb.c0
 have c1:=hb.c1
 have f0:=hb.f 0
 have f1:=hb.f 1
 simp only at c0 c1 hr
 have htk:=zDN s (by omega) w
 by_cases hbad:b=true∨takeP s=none
 ·rw [rText_bad hbad]
  have hb2:=fun n=>(hb.drewN n).bad
  have hfar : ∀ n,Far [some g] w ((w.drewN n).setCell ⟨g,1,none⟩ (.bool true)):=fun n=>((Far.refl _ _).drewN n).set_ (.inl (by simp)) _
  cases hg:takeP s with
  | none=>
    rw [zCQ hg] at htk
    have htk:=Lib.hid htk
    clear hbad hg
    cases b
    all_goals
     go_enter Tryz.func137,Tryz.ntmps137
     go_wp2_with (first
      | ((with_reducible refine htk.out.mono ?_);rintro e w1 ⟨rfl,nq,rfl⟩))
     go_ret
     exact ⟨rfl,hb2 nq,hfar nq⟩
  | some p=>
    obtain ⟨t,q⟩:=p
    have hbt:b=true:=by
     rcases hbad with h | h
     ·exact h
     ·rw [hg] at h;cases h
    subst hbt
    rw [zCb hg] at htk
    have htk:=Lib.hid htk
    clear hbad hg
    go_enter Tryz.func137,Tryz.ntmps137
    go_wp2_with (first
     | ((with_reducible refine htk.out.mono ?_);rintro e w1 ⟨rfl,nq,rfl⟩))
    go_ret
    exact ⟨rfl,hb2 nq,hfar nq⟩
 ·cases b with
  | true=>exact absurd (.inl rfl) hbad
  | false=>
    cases hg:takeP s with
    | none=>exact absurd (.inr hg) hbad
    | some p=>
      obtain ⟨t,q⟩:=p
      rw [rText_ok rfl hg]
      rw [zCb hg] at htk
      have htk:=Lib.hid htk
      have hb2:=fun n=>(hb.drewN n).rest q
      have hfar : ∀ n,Far [some g] w ((w.drewN n).setCell ⟨g,0,none⟩ (.string (B q))):=fun n=>((Far.refl _ _).drewN n).set_ (.inl (by simp)) _
      clear hbad hg
      go_enter Tryz.func137,Tryz.ntmps137
      go_wp2_with (first
       | ((with_reducible refine htk.out.mono ?_);rintro e w1 ⟨rfl,nq,rfl⟩))
      go_ret
      exact ⟨rfl,hb2 nq,hfar nq⟩
theorem rKind_bad {r:Rd} (h:r.2=true∨r.1.length<1):rKind r=(0,(r.1,true)):=by unfold rKind;rw [zCE h];rfl
theorem rKind_ok {c:UInt8} {q:Txt}:rKind (c::q,false)=(c.toNat,(q,false)):=by unfold rKind;rw [rBytes_ok rfl (by simp)];rfl
set_option maxRecDepth 100000 in
set_option maxHeartbeats 2000000 in
theorem rk_calls (r:Rd) (hr:r.1.length≤100000) (g:Nat) (w:World) (hb:RdB w g r):Calls Tryz.prog 136 #[.pointer (some ⟨g,0,none⟩)] w fun e w'=>e = .returned (.int .i64 (rKind r).1)∧RdB w' g (rKind r).2∧Far [some g] w w':=by
 have hcall:=rb_calls 1 r hr (by omega) g w hb
 by_cases hbad:r.2=true∨r.1.length<1
 ·rw [rKind_bad hbad]
  rw [zCE hbad] at hcall
  have hcall:Calls Tryz.prog 135 #[.pointer (some ⟨g,0,none⟩), .int .i64 1] w fun e w'=>e = .returned (.string (B []))∧RdB w' g (r.1,true)∧Far [some g] w w':=hcall
  have hcall:=Lib.hid hcall
  clear hb hbad
  go_enter Tryz.func136,Tryz.ntmps136
  go_wp2_with (first
   | ((with_reducible refine hcall.out.mono ?_);rintro e w1 ⟨rfl,hb1,hf1⟩
      have c1:w1.cell? ⟨g,1,none⟩=some (.bool true):=hb1.c1))
  go_ret
  exact ⟨rfl,hb1,hf1⟩
 ·obtain ⟨s,b⟩:=r
  cases b with
  | true=>exact absurd (.inl rfl) hbad
  | false=>
    match s,hbad with
    | [],hbad=>exact absurd (.inr (by simp)) hbad
    | c::q,_=>
      rw [rKind_ok]
      rw [rBytes_ok rfl (by simp)] at hcall
      have hcall:Calls Tryz.prog 135 #[.pointer (some ⟨g,0,none⟩), .int .i64 1] w fun e w'=>e = .returned (.string (B [c]))∧RdB w' g (q,false)∧Far [some g] w w':=hcall
      have hcall:=Lib.hid hcall
      have hc0:0≤(c.toNat:Int):=by omega
      have hc1:(c.toNat:Int)<256:=by have:=c.toNat_lt;omega
      clear hb
      go_enter Tryz.func136,Tryz.ntmps136
      go_wp2_with (first
       | ((with_reducible refine hcall.out.mono ?_);rintro e w1 ⟨rfl,hb1,hf1⟩
          have c1:w1.cell? ⟨g,1,none⟩=some (.bool false):=hb1.c1))
      go_ret
      exact ⟨rfl,hb1,hf1⟩
end Go.Proofs.YtodebknbchaccaaGreatDoor
