/- Lemmas and walks of this seat, laid together: StoB, StoO, DocO, DocI, HexP, Hex, Unhex, Less, DocP, GsE, GsC. -/
import Derived.Test.YtnehabcopjgklaaDoorMf
import Derived.Lib.Bytealg
import Derived.Deep.RegionHeld3
import Derived.StillTailTactics
import Derived.Great.FillDense
/- An item of a store written out; what its Put leaves: words. No condition. -/
namespace Go.Proofs.YtnehabcopjgklaaDoor
open Go.RowKit
set_option maxRecDepth 100000 in
theorem built_stit (x : StL) (hid : x.id.length = 32) : Tryd.prog.built 71 [(0, .agg (u8s x.id)), (1, .string (B x.text))] = some (stitC x).toArray := by
  obtain ⟨it, hi, hz, hs, hb⟩ := Tryd.stitTy.hi
  have hpl : (match Tryd.prog.underlying 71 with | some (.struct fields) => fields.toList.mapM (fun f => (Tryd.prog.info? f.type).map fun i => (f.offset, i.size)) | _ => none) = some [(0, 32), (32, 1)] := by kernel_rfl
  have hu := Tryd.underlying71
  rw [hu] at hpl
  unfold Program.built
  rw [hi, hu]
  simp only [hz]
  simp only at hpl
  rw [hpl]
  have e0 : (Value.agg (u8s x.id)).cells = u8s x.id := rfl
  have e1 : (Value.string (B x.text)).cells = #[.string (B x.text)] := rfl
  have f1 : ∀ c : Array Value, Array.foldl (fun cs (x : Value × Nat) => cs.setIfInBounds (32 + x.snd) x.fst) c (#[.string (B x.text)] : Array Value).zipIdx = c.setIfInBounds 32 (.string (B x.text)) := fun c => rfl
  have f0 : ∀ c : Array Value, Array.foldl (fun cs (x : Value × Nat) => cs.setIfInBounds (0 + x.snd) x.fst) c (u8s x.id).zipIdx = (x.id.map u8v).zipIdx.foldl (fun cs (x : Value × Nat) => cs.setIfInBounds (0 + x.snd) x.fst) c := fun c => by
    rw [← Array.foldl_toList, Array.toList_zipIdx]
    rfl
  have g0 : (#[(0, 32), (32, 1)] : Array (Nat × Nat))[0]? = some (0, 32) := rfl
  have g1 : (#[(0, 32), (32, 1)] : Array (Nat × Nat))[1]? = some (32, 1) := rfl
  obtain ⟨Z, hZ⟩ : ∃ Z, Z = zStit.cells := ⟨_, rfl⟩
  have hZl : Z.size = 33 := by rw [hZ]; rfl
  have hZ32 : Z[32]? = some (.string (B [])) := by rw [hZ]; rfl
  have hfin : (x.id.map u8v).zipIdx.foldl (fun cs (x : Value × Nat) => cs.setIfInBounds (0 + x.snd) x.fst) Z = ([] ++ (x.id.map u8v ++ [Value.string (B [])])).toArray := by
    refine fold_mid 0 _ [] (x.id.map u8v) [Value.string (B [])] rfl (by rw [hZl, List.length_map, hid]; rfl) (fun i hi => absurd hi (by omega)) (fun i => ?_)
    rw [List.length_map, hid]
    match i with
    | 0 => exact hZ32
    | n + 1 => rw [Array.getElem?_eq_none (by omega)]; rfl
  simp only [Instr.fill, g0, g1, e0, e1]
  rw [← hZ, f0, if_neg (by simp [u8s_size, hid, hZl]), hfin, f1, if_neg (by simp [hid])]
  congr 1
  unfold stitC
  rw [show (u8s x.id).toList = x.id.map u8v from by simp [u8s]]
  simp only [List.setIfInBounds_toArray, List.nil_append]
  rw [List.set_append_right _ _ (by rw [List.length_map, hid]; omega), List.length_map, hid]
  rfl
/-- What the operations of 's.l = slices.Insert(s.l, at, item)' leave. -/
def StPutR (V : Nat → Value) (w0 : World) (base : Nat) (vl : Value) (x : StL) (s' : List StL) (i : Nat) (v : Value) (W : World) : Prop :=
  if i = 9 then (∃ b, v = .slice (some ⟨b, 0, none⟩) 1 1 ∧ Blk W b 71 (stitC x).toArray ∧ w0.heap.size ≤ b)
  else if i = 10 then OwnStits W base v s' ∧ Newer w0 vl v
  else v = V i
/-- What lies there: all as it was; the slice grew; the field holds it. -/
structure StPutC (w0 : World) (base p : Nat) (vl : Value) (s' : List StL) (listed : Array Bool) (W : World) : Prop where
  a_ : listed.getD 10 false = false → Below w0.heap.size w0 W
  b_ : listed.getD 10 false = true → listed.getD 13 false = false → Far [vl.ownBlock] w0 W
  c_ : listed.getD 13 false = true → ∃ v', Blk W p 63 #[v'] ∧ OwnStits W base v' s' ∧ Newer w0 vl v' ∧ Far [some p, vl.ownBlock] w0 W
  sz : w0.heap.size ≤ W.heap.size
section
variable {V : Nat → Value} {w0 w w' : World} {base p : Nat} {vl : Value} {x : StL} {s' : List StL} {i : Nat} {v : Value} {listed : Array Bool}
theorem StPutR.at_ (h : StPutR V w0 base vl x s' i v w) (hi : i ≠ 9 ∧ i ≠ 10) : v = V i := by unfold StPutR at h; rwa [if_neg hi.1, if_neg hi.2] at h
theorem StPutR.mk (hi : i ≠ 9 ∧ i ≠ 10) (h : v = V i) : StPutR V w0 base vl x s' i v w := by unfold StPutR; rwa [if_neg hi.1, if_neg hi.2]
theorem StPutR.lit {b : Nat} (h : Blk w b 71 (stitC x).toArray) (hb : w0.heap.size ≤ b) : StPutR V w0 base vl x s' 9 (.slice (some ⟨b, 0, none⟩) 1 1) w := by unfold StPutR; rw [if_pos rfl]; exact ⟨b, rfl, h, hb⟩
theorem StPutR.litAt (h : StPutR V w0 base vl x s' 9 v w) : ∃ b, v = .slice (some ⟨b, 0, none⟩) 1 1 ∧ Blk w b 71 (stitC x).toArray ∧ w0.heap.size ≤ b := by unfold StPutR at h; rwa [if_pos rfl] at h
theorem StPutR.ins (h : OwnStits w base v s') (hn : Newer w0 vl v) : StPutR V w0 base vl x s' 10 v w := by unfold StPutR; rw [if_neg (by omega), if_pos rfl]; exact ⟨h, hn⟩
theorem StPutR.insAt (h : StPutR V w0 base vl x s' 10 v w) : OwnStits w base v s' ∧ Newer w0 vl v := by unfold StPutR at h; rwa [if_neg (by omega), if_pos rfl] at h
/-- All that an operation left stays, where it is neither in a block of S nor .. -/
theorem StPutR.far {S : List (Option Nat)} (h : StPutR V w0 base vl x s' i v w) (hf : Far S w w') (h9 : ∀ b, w0.heap.size ≤ b → b < w.heap.size → some b ∉ S) (h10 : i = 10 → ∀ k, v.ownBlock = some k → some k ∉ S) : StPutR V w0 base vl x s' i v w' := by
  by_cases e : i = 9
  · subst e
    obtain ⟨b, rfl, h1, h2⟩ := h.litAt
    exact .lit (hf.blk h1 (h9 b h2 h1.lt)) h2
  · by_cases e2 : i = 10
    · subst e2
      obtain ⟨h1, h2⟩ := h.insAt
      exact .ins (hf.own h1 (h10 rfl)) h2
    · exact .mk ⟨e, e2⟩ (h.at_ ⟨e, e2⟩)
theorem StPutC.same (h : StPutC w0 base p vl s' listed w) (hi : i < listed.size) (hne : i ≠ 10 ∧ i ≠ 13) : StPutC w0 base p vl s' (listed.setIfInBounds i true) w := by
  have e1 : (listed.setIfInBounds i true).getD 10 false = listed.getD 10 false := by rw [getD_set hi, if_neg (fun e => hne.1 e.symm)]
  have e2 : (listed.setIfInBounds i true).getD 13 false = listed.getD 13 false := by rw [getD_set hi, if_neg (fun e => hne.2 e.symm)]
  exact ⟨by rw [e1]; exact h.a_, by rw [e1, e2]; exact h.b_, by rw [e2]; exact h.c_, h.sz⟩
theorem StPutC.drew (h : StPutC w0 base p vl s' listed w) : StPutC w0 base p vl s' listed w.drew := ⟨fun e => (h.a_ e).drew, fun e1 e2 => (h.b_ e1 e2).drew, fun e => by
  obtain ⟨v', h1, h2, h3, h4⟩ := h.c_ e
  exact ⟨v', h1, h2, h3, h4.drew⟩, h.sz⟩
theorem StPutC.start (w : World) : StPutC w base p vl s' (Array.replicate 14 false) w := ⟨fun _ => Below.refl _ _, fun h => by simp at h, fun h => by simp at h, Nat.le_refl _⟩
end
end Go.Proofs.YtnehabcopjgklaaDoor
/- The walks of layer 11 (store): Kind, Object, Ids, Copy; no store. No condition. -/
namespace Go.Proofs.YtnehabcopjgklaaDoor
open Go.RowKit
/-- The kind that is told. -/
def kindS (s : List StL) (n : Txt) : Int := match getS s n with
  | some x => match decO x.text with | some o => o.kind | none => 0
  | none => 0
theorem dec_kind {t : Txt} {o : ObjL} (h : decO t = some o) : ∃ c q, t = c :: q ∧ o.kind = (c.toNat : Int) := by
  unfold decO at h
  match t, h with
  | c :: q, h =>
    simp only at h
    split at h
    · cases h
    · split at h
      · cases h
      · split at h
        · cases h
        · split at h
          · cases h
          · injection h with h
            exact ⟨c, q, rfl, by rw [← h, readO_kind]⟩
theorem getS_mem {s : List StL} {n : Txt} {x : StL} (h : getS s n = some x) : x ∈ s := List.mem_of_find?_eq_some h
section
variable {w w' : World} {base p : Nat} {vl : Value} {s : List StL}
/-- A boxed id, and its load. -/
theorem boxId (w : World) (n : Txt) (hn : n.length = 32) : ∃ W1, w.alloc (.cells (u8s n) 24) = W1 ∧ Below w.heap.size w W1 ∧ Blk W1 w.heap.size 24 (u8s n) ∧ ∀ W, Below W1.heap.size W1 W → (ldvI ⟨w.heap.size, 0, none⟩).run Tryd.prog W = .ok (.agg (u8s n)) W := by
  have n1 : Blk (w.alloc (.cells (u8s n) 24)) w.heap.size 24 (u8s n) := Blk.new _ _ _
  refine ⟨_, rfl, (Below.refl _ _).alloc (Nat.le_refl _) _, n1, fun W hW => ?_⟩
  have hsI : (Tryd.prog.info? 24).map (·.size) = some (u8s n).toList.length := by rw [u8s_lenS, hn]; exact sz32
  have := run_loadVar_mid (P := Tryd.prog) W w.heap.size 0 24 (u8s n).toList _ (range_blk (n1.below hW n1.lt)) Tryd.underlying24 rfl hsI
  rwa [Array.toArray_toList] at this
attribute [local go_sem ↓] ldvI_eq ldvO_eq
set_option maxRecDepth 100000 in
set_option maxHeartbeats 2000000 in
theorem stoKind_calls (h : StoAt w base p vl s) (n : Txt) (hn : n.length = 32) :
    Calls Tryd.prog 13 #[.pointer (some ⟨p, 0, none⟩), .agg (u8s n)] w fun e w' => e = .returned (.int .i64 (kindS s n)) ∧ Below w.heap.size w w' := by
  obtain ⟨W1, hW1, b1, n1, ld⟩ := boxId w n hn
  have hg := Lib.hid (stoGet_calls (h.below b1) n hn)
  have q1 := ld W1 (Below.refl _ _)
  obtain ⟨r, hr⟩ : ∃ r, Hid (kindS s n = r) := ⟨_, Lib.hid rfl⟩
  rw [hr.out]
  have hrv := hr.out
  unfold kindS at hrv
  generalize u8s n = NC at *
  clear hr ld n1
  cases hG : getS s n with
  | none =>
    have hg : Hid (Calls Tryd.prog 15 #[.pointer (some ⟨p, 0, none⟩), .agg NC] W1 fun e w' => e = .returned (.tuple #[.string (B []), .bool false]) ∧ Below W1.heap.size W1 w') := by
      have := hg; unfold getV at this; rw [hG] at this; exact this
    rw [hG] at hrv
    have hrv : Hid (r = 0) := hrv.symm
    clear hG
    go_enter Tryd.func13, Tryd.ntmps13
    go_wp2_with (first
      | ((with_reducible refine hg.out.mono ?_); rintro e w2 ⟨rfl, hb2⟩))
    go_ret
    exact ⟨by rw [hrv.out]; rfl, bthen b1 b1.size hb2⟩
  | some x =>
    have hg : Hid (Calls Tryd.prog 15 #[.pointer (some ⟨p, 0, none⟩), .agg NC] W1 fun e w' => e = .returned (.tuple #[.string (B x.text), .bool true]) ∧ Below W1.heap.size W1 w') := by
      have := hg; unfold getV at this; rw [hG] at this; exact this
    rw [hG] at hrv
    obtain ⟨o, ho⟩ := (h.ok.each x (getS_mem hG)).2
    obtain ⟨c, q, hcq, hk⟩ := dec_kind ho
    simp only at hrv
    rw [ho] at hrv
    have hc256 := c.toNat_lt
    have hrv : Hid (r = (c.toNat : Int)) := by show _ = _; rw [← hrv]; exact hk
    rw [hcq] at hg
    have i1 : (0 : Int) < ((c :: q).length : Int) := by simp only [List.length_cons]; omega
    clear hG ho hk hcq
    go_enter Tryd.func13, Tryd.ntmps13
    go_wp2_with (first
      | ((with_reducible refine hg.out.mono ?_); rintro e w2 ⟨rfl, hb2⟩))
    all_goals try (exfalso; simp at *; omega)
    go_ret
    exact ⟨by rw [hrv.out]; rfl, bthen b1 b1.size hb2⟩
/-- What Object tells. -/
def ObjT (s : List StL) (n : Txt) (w' : World) (e : Ending) : Prop := match getS s n with
  | some x => ∃ o A1 A2 k1 k2, decO x.text = some o ∧ e = .returned (.tuple #[.agg (objC o (.slice A1 o.ents.length k1) (.slice A2 o.pars.length k2)).toArray, .bool true]) ∧ ObjV w' (.slice A1 o.ents.length k1) (.slice A2 o.pars.length k2) o
  | none => e = .returned (.tuple #[.agg zObj, .bool false])
set_option maxRecDepth 100000 in
set_option maxHeartbeats 2000000 in
theorem stoObject_calls (h : StoAt w base p vl s) (n : Txt) (hn : n.length = 32) :
    Calls Tryd.prog 10 #[.pointer (some ⟨p, 0, none⟩), .agg (u8s n)] w fun e w' => ObjT s n w' e ∧ Below w.heap.size w w' := by
  have hzo := zeroObj
  have hz72 := zObj_size
  have hrb := fun W => run_build (P := Tryd.prog) W _ _ _ built_zObj
  have hsz : ∀ cs : Array Value, cs.size = 72 → (Tryd.prog.info? 41).map (·.size) = some cs.size := fun cs h => by rw [h]; exact szObj
  have hzone : zObj.all (·.oneCell') = true := objC_all zeroO none none 0 0 0 0
  obtain ⟨W1, hW1, b1, n1, ld⟩ := boxId w n hn
  obtain ⟨W2, hW2⟩ : ∃ W2, W1.alloc (.cells zObj 41) = W2 := ⟨_, rfl⟩
  have z2 : Blk W2 W1.heap.size 41 zObj := by rw [← hW2]; exact Blk.new _ _ _
  have bb2 : Below W1.heap.size W1 W2 := by rw [← hW2]; exact (Below.refl _ _).alloc (Nat.le_refl _) _
  have b2 := bthen b1 b1.size bb2
  have hg := Lib.hid (stoGet_calls (h.below b2) n hn)
  have q1 := ld W2 bb2
  have hle1 := b1.size
  unfold ObjT
  generalize u8s n = NC at *
  clear ld n1
  cases hG : getS s n with
  | none =>
    have hg : Hid (Calls Tryd.prog 15 #[.pointer (some ⟨p, 0, none⟩), .agg NC] W2 fun e w' => e = .returned (.tuple #[.string (B []), .bool false]) ∧ Below W2.heap.size W2 w') := by
      have := hg; unfold getV at this; rw [hG] at this; exact this
    generalize zObj = ZO at *
    clear hG
    go_enter Tryd.func10, Tryd.ntmps10
    go_wp2_with (first
      | ((with_reducible refine hg.out.mono ?_); rintro e w3 ⟨rfl, hb3⟩
         have b3 := bthen b2 b2.size hb3
         have z3 := z2.below hb3 z2.lt)
      | (refine wpList_store_row rfl 41 (.tmp 4) (.tmp 18) rfl W1.heap.size ZO rfl rfl _ _ z3 (hsz ZO hz72) rfl hzone ?_))
    refine bodyPost_ret (results_row_tmp rfl _ _ W1.heap.size _ _ _ _ rfl (setRow_heap _ _ _ _ _ _ z3) Tryd.underlying41 rfl (hsz ZO hz72)) rfl ⟨rfl, below_setRow b3 hle1 _⟩
  | some x =>
    have hg : Hid (Calls Tryd.prog 15 #[.pointer (some ⟨p, 0, none⟩), .agg NC] W2 fun e w' => e = .returned (.tuple #[.string (B x.text), .bool true]) ∧ Below W2.heap.size W2 w') := by
      have := hg; unfold getV at this; rw [hG] at this; exact this
    obtain ⟨o, ho⟩ := (h.ok.each x (getS_mem hG)).2
    have hxl := (decO_len ho).2
    have hde : ∀ W, Calls Tryd.prog 24 #[.string (B x.text)] W fun e w' => (∃ A1 A2 k1 k2, e = .returned (.tuple #[.agg (objC o (.slice A1 o.ents.length k1) (.slice A2 o.pars.length k2)).toArray, .int .i64 0]) ∧ ObjV w' (.slice A1 o.ents.length k1) (.slice A2 o.pars.length k2) o ∧ OwnEnts w' W.heap.size (.slice A1 o.ents.length k1) o.ents ∧ OwnIds w' W.heap.size (.slice A2 o.pars.length k2) o.pars) ∧ Below W.heap.size W w' := fun W => by
      have := decode_calls x.text (by omega) W
      rw [ho] at this
      exact this
    clear hG
    go_enter Tryd.func10, Tryd.ntmps10
    go_wp2_with (first
      | ((with_reducible refine hg.out.mono ?_); rintro e w3 ⟨rfl, hb3⟩
         have b3 := bthen b2 b2.size hb3
         have z3 := z2.below hb3 z2.lt
         have b3z := hb3.size)
      | ((with_reducible refine (hde _).mono ?_); rintro e w4 ⟨⟨A1, A2, k1, k2, rfl, hv4, oe4, op4⟩, hb4⟩
         have b4 := bthen b3 b3.size hb4
         have z4 := z3.below hb4 z3.lt
         have hc72 : (objC o (.slice A1 o.ents.length k1) (.slice A2 o.pars.length k2)).toArray.size = 72 := by rw [List.size_toArray, objC_len hv4.ok]
         have hcone := objC_all o A1 A2 o.ents.length k1 o.pars.length k2)
      | ((with_reducible refine lit_new 41 (.tmp 8) (.tmp 22) (objC o (.slice A1 o.ents.length k1) (.slice A2 o.pars.length k2)).toArray 72 szObj hc72 hcone _ ?_ ?_ ?_ ?_)
         · first | exact hz72 | rfl
         · rfl
         · rfl
         intro W5 hb5 hbl5
         have b5 := bthen b4 b4.size hbl5
         have z5 := z4.below hbl5 z4.lt
         have hv5 := hv4.below hbl5
         have hO5 : ObjB W5 w4.heap.size o (.slice A1 o.ents.length k1) (.slice A2 o.pars.length k2) := ⟨hb5, hv4.ok.tree, hv4.ok.target⟩
         have ld5 := run_ldvO hO5 hv4.ok)
      | (refine wpList_store_row rfl 41 (.tmp 4) (.tmp 24) rfl W1.heap.size (objC o (.slice A1 o.ents.length k1) (.slice A2 o.pars.length k2)).toArray rfl rfl _ _ z5 (hsz _ hc72) (hz72.trans hc72.symm) hcone ?_))
    refine bodyPost_ret (results_row_tmp rfl _ _ W1.heap.size _ _ _ _ rfl (setRow_heap _ _ _ _ _ _ z5) Tryd.underlying41 rfl (hsz _ hc72)) rfl ⟨⟨o, A1, A2, k1, k2, ho, rfl, ?_⟩, below_setRow b5 hle1 _⟩
    exact objV_row hv4.ok (own_below oe4 hbl5) (own_below op4 hbl5) (Nat.lt_of_lt_of_le z2.lt b3z) _
/-- Its ids, rising. -/
theorem ids_more {s : List StL} {k : Nat} {x : StL} (hx : s[k]? = some x) : (s.take (k + 1)).map StL.id = (s.take k).map StL.id ++ [x.id] := by
  rw [List.take_add_one, hx, List.map_append]
  rfl
attribute [local go_sem ↓] ldvStit_eq
set_option maxRecDepth 100000 in
set_option maxHeartbeats 4000000 in
theorem stoIds_calls (h : StoAt w base p vl s) :
    Calls Tryd.prog 22 #[.pointer (some ⟨p, 0, none⟩)] w fun e w' => ∃ v, e = .returned v ∧ OwnIds w' w.heap.size v (s.map StL.id) ∧ Below w.heap.size w w' := by
  have c0 := h.c0
  have hok := h.ok.ok
  have hfew := h.ok.few
  obtain ⟨A, cap, rfl, hcap1, hcap2, hat⟩ := h.items
  have hz33 : (stitC ⟨List.replicate 32 0, []⟩).toArray.size = 33 := by rfl
  clear h
  go_enter Tryd.func22, Tryd.ntmps22
  go_wp2
  go_loopw [3, 13] (fun vo vi wr => ∃ k : Nat, vi = .int .i64 k ∧ k ≤ s.length ∧ OwnIds wr w.heap.size vo ((s.take k).map StL.id) ∧ Below w.heap.size w wr) (fun _ vi _ => s.length - (intOf vi).toNat)
  case atStart => exact ⟨0, rfl, by omega, World.ownsRow_nil _ _ _ _, Below.refl _ _⟩
  case round =>
    obtain ⟨k, rfl, hk, hown, hbel⟩ := hrel
    by_cases hlt : k < s.length
    · have hki : (k : Int) < (s.length : Int) := by omega
      obtain ⟨ga, oa, rfl, hga, hca⟩ := hat (by omega)
      obtain ⟨x, hx⟩ : ∃ x, s[k]? = some x := ⟨_, List.getElem?_eq_getElem hlt⟩
      have hxok := hok x (List.mem_of_getElem? hx)
      have hxr := rangeAt_below (hca k x hx) hga hbel
      have ldx := run_ldvStit hxr hxok
      have hall : (stitC x).toArray.all (·.oneCell') = true := all_oneCell_toArray (stitC_one x)
      have hc33 : (stitC x).toArray.size = 33 := by rw [List.size_toArray, stitC_len hxok]
      have hms : Hid ((s.take (k + 1)).map StL.id = (s.take k).map StL.id ++ [x.id]) := ids_more hx
      have hid32 : (idC x.id).toArray.size = 32 := by rw [List.size_toArray, idC_len hxok.1]
      have hidl : (idC x.id).toArray.size = 1 * 32 := hid32
      have hid1 : ∀ u ∈ (idC x.id).toArray.toList, u.oneCell' = true := by rw [List.toList_toArray]; exact idC_one x.id
      have hidA : Value.agg (u8s x.id) = .agg (idC x.id).toArray := by simp [idC]
      have hldi : ∀ W g, Blk W g 71 (stitC x).toArray → (ldvI ⟨g, 0, none⟩).run Tryd.prog W = .ok (.agg (idC x.id).toArray) W := fun W g hb => by
        rw [← hidA]
        have hr := range_blk hb
        rw [List.toList_toArray] at hr
        exact run_ldvI_at (stitC_id hr) hxok.1
      have hkl : ((s.take k).map StL.id).length = k := by rw [List.length_map, List.length_take]; omega
      have m1 : ((s.take k).map StL.id).length + 1 ≤ 9223372036854775807 := by omega
      have m2 : (((s.take k).map StL.id).length + 1) * 32 ≤ 140737488355328 := by omega
      obtain ⟨CS, hCS⟩ : ∃ CS, (stitC x).toArray = CS := ⟨_, rfl⟩
      rw [hCS] at ldx hall hc33 hldi
      obtain ⟨IC, hIC⟩ : ∃ IC, (idC x.id).toArray = IC := ⟨_, rfl⟩
      rw [hIC] at hid32 hidl hid1 hldi
      have HIC := Lib.hid hIC
      clear hx hca hat hok hCS hIC hidA hxr
      go_wp2_with (first
        | ((with_reducible refine lit_new 71 (.tmp 5) (.tmp 16) CS 33 szStit hc33 hall _ ?_ ?_ ?_ ?_)
           · first | exact hz33 | rfl
           · rfl
           · rfl
           intro W1 hb1 hbl1
           have b1 := bthen hbel hbel.size hbl1
           have o1 := own_below hown hbl1
           have ld1 := hldi _ _ hb1
           have s1 := b1.size)
        | ((with_reducible refine lit_slice1 (.tmp 19) Tryd.idsTy IC hid32 (by omega) ?_ ?_); rfl)
        | (at_builtin
           (with_reducible refine lit_append_new (.tmp 17) (.tmp 20) 1 _ Tryd.idsTy o1 IC hidl hid1 m1 m2 s1 ?_ ?_ ?_); rfl; rfl
           intro v2 w2 hv2 hb2 hg2 hn2
           have b2 := b1.trans hb2
           clear hg2 hn2))
      all_goals try (exfalso; omega)
      have o3 : OwnIds w2 w.heap.size v2 ((s.take (k + 1)).map StL.id) := by
        rw [hms.out]
        unfold OwnIds
        rw [rowsOf_append, rowsOf_one, List.length_append]
        rw [← HIC.out, List.toList_toArray] at hv2
        exact hv2
      go_roundw
      case rel => exact ⟨k + 1, by go_num, by omega, o3, b2⟩
      case measure => simp [intOf]; omega
    · have hki : ¬ (k : Int) < (s.length : Int) := by omega
      obtain rfl : k = s.length := by omega
      rw [List.take_length] at hown
      go_wp2
      go_ret
      exact ⟨_, rfl, hown, hbel⟩
set_option maxRecDepth 100000 in
set_option maxHeartbeats 1000000 in
theorem stoCopy_calls (h : StoAt w base p vl s) :
    Calls Tryd.prog 20 #[.pointer (some ⟨p, 0, none⟩)] w fun e w' => ∃ p' v', e = .returned (.pointer (some ⟨p', 0, none⟩)) ∧ w.heap.size ≤ p' ∧ StoAt w' w.heap.size p' v' s ∧ Below w.heap.size w w' := by
  have c0 := h.c0
  have hok := h.ok
  have hcl := Lib.hid (cloneStits_calls s hok.ok (by have := hok.few; omega) vl w h.items)
  clear h
  go_enter Tryd.func20, Tryd.ntmps20
  go_wp2_with (first
    | ((with_reducible refine hcl.out.mono ?_); rintro e w1 ⟨v', rfl, hown1, hb1⟩
       obtain ⟨A', c', rfl⟩ := own_form' hown1))
  go_ret
  exact ⟨w1.heap.size, _, rfl, hb1.size, ⟨Blk.new _ _ _, World.ownsRow.alloc hown1 _, hok⟩, hb1.alloc hb1.size _⟩
end
/- No store. -/
set_option maxRecDepth 100000 in
theorem nilPlace_calls (n : Txt) (w : World) : Calls Tryd.prog 26 #[.pointer none, .agg (u8s n)] w fun e w' => e = .returned (.tuple #[.int .i64 0, .bool false]) ∧ Below w.heap.size w w' := by
  go_enter Tryd.func26, Tryd.ntmps26
  go_wp2
  go_ret2
  exact ⟨rfl, (Below.refl _ _).alloc (Nat.le_refl _) _⟩
set_option maxRecDepth 100000 in
theorem nilLen_calls (w : World) : Calls Tryd.prog 21 #[.pointer none] w fun e w' => e = .returned (.int .i64 0) ∧ w' = w := by
  go_enter Tryd.func21, Tryd.ntmps21
  go_wp2
  go_ret
  exact ⟨rfl, rfl⟩
set_option maxRecDepth 100000 in
theorem nilIds_calls (w : World) : Calls Tryd.prog 22 #[.pointer none] w fun e w' => e = .returned (.slice none 0 0) ∧ w' = w := by
  go_enter Tryd.func22, Tryd.ntmps22
  go_wp2
  go_ret
  exact ⟨rfl, rfl⟩
set_option maxRecDepth 100000 in
theorem nilCopy_calls (w : World) : Calls Tryd.prog 20 #[.pointer none] w fun e w' => e = .returned (.pointer none) ∧ w' = w := by
  go_enter Tryd.func20, Tryd.ntmps20
  go_wp2
  go_ret
  exact ⟨rfl, rfl⟩
attribute [local go_sem ↓] ldvI_eq ldvO_eq
set_option maxRecDepth 100000 in
theorem nilGet_calls (n : Txt) (hn : n.length = 32) (w : World) : Calls Tryd.prog 15 #[.pointer none, .agg (u8s n)] w fun e w' => e = .returned (.tuple #[.string (B []), .bool false]) ∧ Below w.heap.size w w' := by
  obtain ⟨W1, hW1, b1, n1, ld⟩ := boxId w n hn
  have q1 := ld W1 (Below.refl _ _)
  have hp := Lib.hid (nilPlace_calls n W1)
  generalize u8s n = NC at *
  clear ld n1
  go_enter Tryd.func15, Tryd.ntmps15
  go_wp2_with (first
    | ((with_reducible refine hp.out.mono ?_); rintro e w2 ⟨rfl, hb2⟩))
  go_ret2
  exact ⟨rfl, bthen b1 b1.size hb2⟩
set_option maxRecDepth 100000 in
theorem nilKind_calls (n : Txt) (hn : n.length = 32) (w : World) : Calls Tryd.prog 13 #[.pointer none, .agg (u8s n)] w fun e w' => e = .returned (.int .i64 0) ∧ Below w.heap.size w w' := by
  obtain ⟨W1, hW1, b1, n1, ld⟩ := boxId w n hn
  have q1 := ld W1 (Below.refl _ _)
  have hp := Lib.hid (nilGet_calls n hn W1)
  generalize u8s n = NC at *
  clear ld n1
  go_enter Tryd.func13, Tryd.ntmps13
  go_wp2_with (first
    | ((with_reducible refine hp.out.mono ?_); rintro e w2 ⟨rfl, hb2⟩))
  go_ret
  exact ⟨rfl, bthen b1 b1.size hb2⟩
set_option maxRecDepth 100000 in
set_option maxHeartbeats 1000000 in
theorem nilObject_calls (n : Txt) (hn : n.length = 32) (w : World) : Calls Tryd.prog 10 #[.pointer none, .agg (u8s n)] w fun e w' => e = .returned (.tuple #[.agg zObj, .bool false]) ∧ Below w.heap.size w w' := by
  have hzo := zeroObj
  have hz72 := zObj_size
  have hrb := fun W => run_build (P := Tryd.prog) W _ _ _ built_zObj
  have hsz : ∀ cs : Array Value, cs.size = 72 → (Tryd.prog.info? 41).map (·.size) = some cs.size := fun cs h => by rw [h]; exact szObj
  have hzone : zObj.all (·.oneCell') = true := objC_all zeroO none none 0 0 0 0
  obtain ⟨W1, hW1, b1, n1, ld⟩ := boxId w n hn
  obtain ⟨W2, hW2⟩ : ∃ W2, W1.alloc (.cells zObj 41) = W2 := ⟨_, rfl⟩
  have z2 : Blk W2 W1.heap.size 41 zObj := by rw [← hW2]; exact Blk.new _ _ _
  have bb2 : Below W1.heap.size W1 W2 := by rw [← hW2]; exact (Below.refl _ _).alloc (Nat.le_refl _) _
  have b2 := bthen b1 b1.size bb2
  have hg := Lib.hid (nilGet_calls n hn W2)
  have q1 := ld W2 bb2
  have hle1 := b1.size
  generalize u8s n = NC at *
  generalize zObj = ZO at *
  clear ld n1
  go_enter Tryd.func10, Tryd.ntmps10
  go_wp2_with (first
    | ((with_reducible refine hg.out.mono ?_); rintro e w3 ⟨rfl, hb3⟩
       have b3 := bthen b2 b2.size hb3
       have z3 := z2.below hb3 z2.lt)
    | (refine wpList_store_row rfl 41 (.tmp 4) (.tmp 18) rfl W1.heap.size ZO rfl rfl _ _ z3 (hsz ZO hz72) rfl hzone ?_))
  refine bodyPost_ret (results_row_tmp rfl _ _ W1.heap.size _ _ _ _ rfl (setRow_heap _ _ _ _ _ _ z3) Tryd.underlying41 rfl (hsz ZO hz72)) rfl ⟨rfl, below_setRow b3 hle1 _⟩
set_option maxRecDepth 100000 in
set_option maxHeartbeats 1000000 in
theorem nilPut_calls (t : Txt) (w : World) : Calls Tryd.prog 7 #[.pointer none, .string (B t)] w fun e w' => e = .returned (.tuple #[.agg (u8s noId), .int .i64 1]) ∧ Below w.heap.size w w' := by
  have hzI := zeroIdV
  have hrb := fun W => run_build (P := Tryd.prog) W _ _ _ built_zId
  have hZ32 : (u8s noId).size = 32 := by rw [u8s_size, noId_len]
  have hZone := u8s_one noId
  obtain ⟨W0, hW0⟩ : ∃ W0, w.alloc (.cells (u8s noId) 24) = W0 := ⟨_, rfl⟩
  have z0 : Blk W0 w.heap.size 24 (u8s noId) := by rw [← hW0]; exact Blk.new _ _ _
  have b0 : Below w.heap.size w W0 := by rw [← hW0]; exact (Below.refl _ _).alloc (Nat.le_refl _) _
  have hsz : (Tryd.prog.info? 24).map (·.size) = some (u8s noId).size := by rw [hZ32]; exact sz32
  generalize u8s noId = Z at *
  go_enter Tryd.func7, Tryd.ntmps7
  go_wp2_with (first
    | (refine wpList_store_row rfl 24 (.tmp 4) (.tmp 13) rfl w.heap.size Z rfl rfl _ _ z0 hsz rfl hZone ?_))
  refine bodyPost_ret (results_row_tmp rfl _ _ w.heap.size _ _ _ _ rfl (setRow_heap _ _ _ _ _ _ z0) Tryd.underlying24 rfl hsz) rfl ⟨rfl, below_setRow b0 (Nat.le_refl _) _⟩
end Go.Proofs.YtnehabcopjgklaaDoor
/- The walks of layer 11's document: Has, Kind, Object, Ids; Same at ids that are alike. No condition. -/
namespace Go.Proofs.YtnehabcopjgklaaDoor
open Go.RowKit
attribute [local go_sem ↓] ldvI_eq ldvO_eq
/-- A store's value and an id, boxed. -/
theorem boxSt {w : World} (vm : Value) (n : Txt) (hn : n.length = 32) : ∃ W1 W2, w.alloc (.cells #[vm] 30) = W1 ∧ W1.alloc (.cells (u8s n) 24) = W2 ∧ Below w.heap.size w W2 ∧ w.heap.size < W1.heap.size ∧ W1.heap.size < W2.heap.size ∧
    ∀ W, Below W2.heap.size W2 W → W.cell? ⟨w.heap.size, 0, none⟩ = some vm ∧ W.heap[w.heap.size]? = some (.cells #[vm] 30 (0, 0)) ∧ (ldvI ⟨W1.heap.size, 0, none⟩).run Tryd.prog W = .ok (.agg (u8s n)) W := by
  obtain ⟨W1, hW1⟩ : ∃ W1, w.alloc (.cells #[vm] 30) = W1 := ⟨_, rfl⟩
  have s1 : Blk W1 w.heap.size 30 #[vm] := by rw [← hW1]; exact Blk.new _ _ _
  have b1 : Below w.heap.size w W1 := by rw [← hW1]; exact (Below.refl _ _).alloc (Nat.le_refl _) _
  obtain ⟨W2, hW2, bb2, n2, ld⟩ := boxId W1 n hn
  refine ⟨W1, W2, hW1, hW2, bthen b1 b1.size bb2, s1.lt, n2.lt, fun W hW => ⟨?_, ?_, ld W hW⟩⟩
  · exact ((s1.below bb2 s1.lt).below hW (Nat.lt_of_lt_of_le s1.lt bb2.size)).cell 0
  · exact (s1.below bb2 s1.lt).below hW (Nat.lt_of_lt_of_le s1.lt bb2.size)
theorem szDSt : (Tryd.prog.info? 30).map (·.size) = some 1 := by kernel_rfl
def ldvS (p : Addr) : Sem Value := loadVar 30 p
theorem ldvS_eq (p : Addr) : loadVar 30 p = ldvS p := rfl
attribute [local go_sem ↓] ldvS_eq
theorem run_ldvS {w : World} {g : Nat} {vm : Value} (h : w.heap[g]? = some (.cells #[vm] 30 (0, 0))) : (ldvS ⟨g, 0, none⟩).run Tryd.prog w = .ok (.agg #[vm]) w :=
  run_loadVar_row w g _ _ _ _ _ h Tryd.underlying30 rfl szDSt
section
variable {w : World} {vm : Value} {es : List DiL}
/-- Is it there? -/
def hasS (s : List StL) (n : Txt) : Bool := (getS s n).isSome
set_option maxRecDepth 100000 in
set_option maxHeartbeats 1000000 in
theorem docHas_calls (h : DocSt w vm es) (n : Txt) (hn : n.length = 32) :
    Calls Tryd.prog 16 #[.agg #[vm], .agg (u8s n)] w fun e w' => e = .returned (.bool (hasS (es.map (·.st)) n)) ∧ Below w.heap.size w w' := by
  obtain ⟨W1, W2, hW1, hW2, b2, hl1, hl2, hf⟩ := boxSt (w := w) vm n hn
  obtain ⟨c2, r2, q2⟩ := hf W2 (Below.refl _ _)
  have l2 := run_ldvS r2
  have ha := docAt_calls (h.below b2) n hn
  unfold AtR at ha
  unfold hasS
  generalize u8s n = NC at *
  cases hG : getS (es.map (·.st)) n with
  | none =>
    rw [hG] at ha
    have ha : Calls Tryd.prog 29 #[.agg #[vm], .agg NC] W2 fun e w' => e = .returned (.int .i64 (-1)) ∧ Below W2.heap.size W2 w' := ha.mono fun e w' ⟨h1, h2⟩ => by
      rcases h1 with ⟨k, x, _, _, hx⟩ | ⟨he, _⟩
      · cases hx
      · exact ⟨he, h2⟩
    have ha := Lib.hid ha
    clear hG hf h
    go_enter Tryd.func16, Tryd.ntmps16
    go_wp2_with (first
      | ((with_reducible refine ha.out.mono ?_); rintro e w3 ⟨rfl, hb3⟩))
    go_ret
    exact ⟨rfl, bthen b2 b2.size hb3⟩
  | some y =>
    rw [hG] at ha
    have ha : Calls Tryd.prog 29 #[.agg #[vm], .agg NC] W2 fun e w' => (∃ k : Nat, e = .returned (.int .i64 k)) ∧ Below W2.heap.size W2 w' := ha.mono fun e w' ⟨h1, h2⟩ => by
      rcases h1 with ⟨k, x, he, _, hx⟩ | ⟨_, hx⟩
      · exact ⟨⟨k, he⟩, h2⟩
      · cases hx
    have ha := Lib.hid ha
    clear hG hf h
    go_enter Tryd.func16, Tryd.ntmps16
    go_wp2_with (first
      | ((with_reducible refine ha.out.mono ?_); rintro e w3 ⟨⟨k, rfl⟩, hb3⟩
         have hk0 : (0 : Int) ≤ (k : Int) := by omega))
    all_goals try (exfalso; omega)
    go_ret
    exact ⟨rfl, bthen b2 b2.size hb3⟩
set_option maxRecDepth 100000 in
set_option maxHeartbeats 1000000 in
theorem docKind_calls (h : DocSt w vm es) (n : Txt) (hn : n.length = 32) :
    Calls Tryd.prog 14 #[.agg #[vm], .agg (u8s n)] w fun e w' => e = .returned (.int .i64 (kindS (es.map (·.st)) n)) ∧ Below w.heap.size w w' := by
  obtain ⟨W1, W2, hW1, hW2, b2, hl1, hl2, hf⟩ := boxSt (w := w) vm n hn
  obtain ⟨c2, r2, q2⟩ := hf W2 (Below.refl _ _)
  have l2 := run_ldvS r2
  have ha := docAt_calls (h.below b2) n hn
  unfold AtR at ha
  obtain ⟨r, hr⟩ : ∃ r, Hid (kindS (es.map (·.st)) n = r) := ⟨_, Lib.hid rfl⟩
  rw [hr.out]
  have hrv := hr.out
  unfold kindS at hrv
  clear hr
  have heach := h.each
  have hfew := h.few
  obtain ⟨A, cap, rfl, hcap1, hcap2, hat⟩ := h.at_
  generalize u8s n = NC at *
  cases hG : getS (es.map (·.st)) n with
  | none =>
    rw [hG] at ha
    have ha : Calls Tryd.prog 29 #[.agg #[.slice A es.length cap], .agg NC] W2 fun e w' => e = .returned (.int .i64 (-1)) ∧ Below W2.heap.size W2 w' := ha.mono fun e w' ⟨h1, h2⟩ => by
      rcases h1 with ⟨k, x, _, _, hx⟩ | ⟨he, _⟩
      · cases hx
      · exact ⟨he, h2⟩
    have ha := Lib.hid ha
    rw [hG] at hrv
    have hrv : Hid (r = 0) := hrv.symm
    clear hG hf h heach hat
    go_enter Tryd.func14, Tryd.ntmps14
    go_wp2_with (first
      | ((with_reducible refine ha.out.mono ?_); rintro e w3 ⟨rfl, hb3⟩))
    go_ret
    exact ⟨by rw [hrv.out]; rfl, bthen b2 b2.size hb3⟩
  | some y =>
    rw [hG] at ha
    have ha : Calls Tryd.prog 29 #[.agg #[.slice A es.length cap], .agg NC] W2 fun e w' => (∃ (k : Nat) (x : DiL), e = .returned (.int .i64 k) ∧ es[k]? = some x ∧ y = x.st) ∧ Below W2.heap.size W2 w' := ha.mono fun e w' ⟨h1, h2⟩ => by
      rcases h1 with ⟨k, x, he, hx0, hx⟩ | ⟨_, hx⟩
      · exact ⟨⟨k, x, he, hx0, by injection hx⟩, h2⟩
      · cases hx
    have ha := Lib.hid ha
    rw [hG] at hrv
    simp only at hrv
    have hrv : Hid (∀ o, decO y.text = some o → r = o.kind) := fun o ho => by rw [ho] at hrv; exact hrv.symm
    clear hG h
    go_enter Tryd.func14, Tryd.ntmps14
    go_wp2_with (first
      | ((with_reducible refine ha.out.mono ?_); rintro e w3 ⟨⟨k, x, rfl, hx, rfl⟩, hb3⟩
         have hlt := (List.getElem?_eq_some_iff.1 hx).1
         have hk0 : ¬ (k : Int) < 0 := by omega
         have hki : (k : Int) < (es.length : Int) := by omega
         obtain ⟨ga, oa, rfl, hga, hca⟩ := hat (by omega)
         have hd := heach x (List.mem_of_getElem? hx)
         have b3 := bthen b2 b2.size hb3
         have k3 := dit_kind (rangeAt_below (hca k x hx) hga b3) hd.id
         have c3 := (hf w3 hb3).1
         have hdx := Lib.hid hd.dec
         clear hx hca hat heach hd hf))
    all_goals try (exfalso; omega)
    go_ret
    exact ⟨by rw [hrv.out _ hdx.out]; rfl, b3⟩
/-- What the document's Object tells. -/
def ObjG (s : List StL) (n : Txt) (w' : World) (e : Ending) : Prop := match getS s n with
  | some x => ∃ o A1 A2 k1 k2, decO x.text = some o ∧ e = .returned (.agg (objC o (.slice A1 o.ents.length k1) (.slice A2 o.pars.length k2)).toArray) ∧ ObjV w' (.slice A1 o.ents.length k1) (.slice A2 o.pars.length k2) o
  | none => e = .returned (.agg zObj)
set_option maxRecDepth 100000 in
set_option maxHeartbeats 2000000 in
theorem docObject_calls (h : DocSt w vm es) (n : Txt) (hn : n.length = 32) :
    Calls Tryd.prog 12 #[.agg #[vm], .agg (u8s n)] w fun e w' => ObjG (es.map (·.st)) n w' e ∧ Below w.heap.size w w' := by
  have hzo := zeroObj
  have hz72 := zObj_size
  have hrb := fun W => run_build (P := Tryd.prog) W _ _ _ built_zObj
  have hsz : ∀ cs : Array Value, cs.size = 72 → (Tryd.prog.info? 41).map (·.size) = some cs.size := fun cs h => by rw [h]; exact szObj
  have hzone : zObj.all (·.oneCell') = true := objC_all zeroO none none 0 0 0 0
  obtain ⟨W1, W2, hW1, hW2, b2, hl1, hl2, hf⟩ := boxSt (w := w) vm n hn
  obtain ⟨W3, hW3⟩ : ∃ W3, W2.alloc (.cells zObj 41) = W3 := ⟨_, rfl⟩
  have z3 : Blk W3 W2.heap.size 41 zObj := by rw [← hW3]; exact Blk.new _ _ _
  have bb3 : Below W2.heap.size W2 W3 := by rw [← hW3]; exact (Below.refl _ _).alloc (Nat.le_refl _) _
  have b3 := bthen b2 b2.size bb3
  obtain ⟨c3, r3, q3⟩ := hf W3 bb3
  have l3 := run_ldvS r3
  have hle2 := b2.size
  have ha := docAt_calls (h.below b3) n hn
  unfold AtR at ha
  unfold ObjG
  have heach := h.each
  have hfew := h.few
  obtain ⟨A, cap, rfl, hcap1, hcap2, hat⟩ := h.at_
  generalize u8s n = NC at *
  generalize zObj = ZO at *
  cases hG : getS (es.map (·.st)) n with
  | none =>
    rw [hG] at ha
    have ha : Calls Tryd.prog 29 #[.agg #[.slice A es.length cap], .agg NC] W3 fun e w' => e = .returned (.int .i64 (-1)) ∧ Below W3.heap.size W3 w' := ha.mono fun e w' ⟨h1, h2⟩ => by
      rcases h1 with ⟨k, x, _, _, hx⟩ | ⟨he, _⟩
      · cases hx
      · exact ⟨he, h2⟩
    have ha := Lib.hid ha
    clear hG hf h heach hat
    go_enter Tryd.func12, Tryd.ntmps12
    go_wp2_with (first
      | ((with_reducible refine ha.out.mono ?_); rintro e w4 ⟨rfl, hb4⟩
         have b4 := bthen b3 b3.size hb4
         have z4 := z3.below hb4 z3.lt)
      | (refine wpList_store_row rfl 41 (.tmp 4) (.tmp 11) rfl W2.heap.size ZO rfl rfl _ _ z4 (hsz ZO hz72) rfl hzone ?_))
    refine bodyPost_ret (results_cell_row rfl _ _ W2.heap.size _ _ _ _ rfl (setRow_heap _ _ _ _ _ _ z4) Tryd.underlying41 rfl (hsz ZO hz72)) rfl ⟨rfl, below_setRow b4 hle2 _⟩
  | some y =>
    rw [hG] at ha
    have ha : Calls Tryd.prog 29 #[.agg #[.slice A es.length cap], .agg NC] W3 fun e w' => (∃ (k : Nat) (x : DiL), e = .returned (.int .i64 k) ∧ es[k]? = some x ∧ y = x.st) ∧ Below W3.heap.size W3 w' := ha.mono fun e w' ⟨h1, h2⟩ => by
      rcases h1 with ⟨k, x, he, hx0, hx⟩ | ⟨_, hx⟩
      · exact ⟨⟨k, x, he, hx0, by injection hx⟩, h2⟩
      · cases hx
    have ha := Lib.hid ha
    clear hG h
    go_enter Tryd.func12, Tryd.ntmps12
    go_wp2_with (first
      | ((with_reducible refine ha.out.mono ?_); rintro e w4 ⟨⟨k, x, rfl, hx, rfl⟩, hb4⟩
         have hlt := (List.getElem?_eq_some_iff.1 hx).1
         have hk0 : ¬ (k : Int) < 0 := by omega
         have hki : (k : Int) < (es.length : Int) := by omega
         obtain ⟨ga, oa, rfl, hga, hca⟩ := hat (by omega)
         have hd := heach x (List.mem_of_getElem? hx)
         have b4 := bthen b3 b3.size hb4
         have z4 := z3.below hb4 z3.lt
         have ld4 : (ldvO ⟨ga, oa + k * 105 + 33, none⟩).run Tryd.prog w4 = .ok (.agg (objC x.o x.ve x.vp).toArray) w4 := run_loadVar_mid (P := Tryd.prog) w4 ga (oa + k * 105 + 33) 41 (objC x.o x.ve x.vp) _ (dit_obj (rangeAt_below (hca k x hx) hga b4) hd.id) Tryd.underlying41 rfl (by rw [objC_len hd.val.ok]; exact szObj)
         have c4 := (hf w4 (bthen bb3 bb3.size hb4)).1
         obtain ⟨A1, A2, k1, k2, e1, e2⟩ := hd.forms
         have hval := hd.val
         rw [e1, e2] at ld4 hval
         have hdx := Lib.hid hd.dec
         have hc72 : (objC x.o (.slice A1 x.o.ents.length k1) (.slice A2 x.o.pars.length k2)).toArray.size = 72 := by rw [List.size_toArray, objC_len hval.ok]
         have hcone := objC_all x.o A1 A2 x.o.ents.length k1 x.o.pars.length k2
         clear hx hca hat heach hd hf e1 e2)
      | (refine wpList_store_row rfl 41 (.tmp 4) (.tmp 17) rfl W2.heap.size (objC x.o (.slice A1 x.o.ents.length k1) (.slice A2 x.o.pars.length k2)).toArray rfl rfl _ _ z4 (hsz _ hc72) (hz72.trans hc72.symm) hcone ?_))
    all_goals try (exfalso; omega)
    have bF := below_setRow b4 hle2 (objC x.o (.slice A1 x.o.ents.length k1) (.slice A2 x.o.pars.length k2)).toArray
    refine bodyPost_ret (results_cell_row rfl _ _ W2.heap.size _ _ _ _ rfl (setRow_heap _ _ _ _ _ _ z4) Tryd.underlying41 rfl (hsz _ hc72)) rfl ⟨⟨x.o, A1, A2, k1, k2, hdx.out, rfl, hval.below bF⟩, bF⟩
end
end Go.Proofs.YtnehabcopjgklaaDoor
/- The walks of layer 11's document: Ids; Same of ids. No condition. -/
namespace Go.Proofs.YtnehabcopjgklaaDoor
open Go.RowKit
attribute [local go_sem ↓] ldvI_eq
theorem docIds_more {es : List DiL} {k : Nat} {x : DiL} (hx : es[k]? = some x) : (es.take (k + 1)).map (fun e => e.st.id) = (es.take k).map (fun e => e.st.id) ++ [x.st.id] := by
  rw [List.take_add_one, hx, List.map_append]
  rfl
theorem ids_st (es : List DiL) : (es.map (·.st)).map StL.id = es.map (fun e => e.st.id) := by rw [List.map_map]; rfl
set_option maxRecDepth 100000 in
set_option maxHeartbeats 4000000 in
theorem docIds_calls {w : World} {vm : Value} {es : List DiL} (h : DocSt w vm es) :
    Calls Tryd.prog 32 #[.agg #[vm]] w fun e w' => ∃ v, e = .returned v ∧ OwnIds w' w.heap.size v ((es.map (·.st)).map StL.id) ∧ Below w.heap.size w w' := by
  rw [ids_st]
  have hfew := h.few
  have heach := h.each
  obtain ⟨A, cap, rfl, hcap1, hcap2, hat⟩ := h.at_
  obtain ⟨W1, hW1⟩ : ∃ W1, w.alloc (.cells #[.slice A es.length cap] 30) = W1 := ⟨_, rfl⟩
  have s1 : Blk W1 w.heap.size 30 #[.slice A es.length cap] := by rw [← hW1]; exact Blk.new _ _ _
  have b1 : Below w.heap.size w W1 := by rw [← hW1]; exact (Below.refl _ _).alloc (Nat.le_refl _) _
  have hlt1 := s1.lt
  clear h
  go_enter Tryd.func32, Tryd.ntmps32
  go_wp2
  go_loopw [3, 4] (fun vo vi wr => ∃ k : Nat, vi = .int .i64 k ∧ k ≤ es.length ∧ OwnIds wr W1.heap.size vo ((es.take k).map (fun e => e.st.id)) ∧ Below W1.heap.size W1 wr) (fun _ vi _ => es.length - (intOf vi).toNat)
  case atStart => exact ⟨0, rfl, by omega, World.ownsRow_nil _ _ _ _, Below.refl _ _⟩
  case round =>
    obtain ⟨k, rfl, hk, hown, hbel⟩ := hrel
    have hbr := bthen b1 b1.size hbel
    have c0 : wr.cell? ⟨w.heap.size, 0, none⟩ = some (.slice A es.length cap) := (s1.below hbel hlt1).cell 0
    clear hW1
    by_cases hlt : k < es.length
    · have hki : (k : Int) < (es.length : Int) := by omega
      obtain ⟨ga, oa, rfl, hga, hca⟩ := hat (by omega)
      obtain ⟨x, hx⟩ : ∃ x, es[k]? = some x := ⟨_, List.getElem?_eq_getElem hlt⟩
      have hxid := (heach x (List.mem_of_getElem? hx)).id
      have hxr := dit_id (rangeAt_below (hca k x hx) hga hbr)
      have ldx : (ldvI ⟨ga, oa + k * 105, none⟩).run Tryd.prog wr = .ok (.agg (idC x.st.id).toArray) wr := by
        have := run_ldvI_at hxr hxid
        rwa [show (idC x.st.id).toArray = u8s x.st.id from by simp [idC]]
      have hms : Hid ((es.take (k + 1)).map (fun e => e.st.id) = (es.take k).map (fun e => e.st.id) ++ [x.st.id]) := docIds_more hx
      have hid32 : (idC x.st.id).toArray.size = 32 := by rw [List.size_toArray, idC_len hxid]
      have hidl : (idC x.st.id).toArray.size = 1 * 32 := hid32
      have hid1 : ∀ u ∈ (idC x.st.id).toArray.toList, u.oneCell' = true := by rw [List.toList_toArray]; exact idC_one x.st.id
      have hkl : ((es.take k).map (fun e => e.st.id)).length = k := by rw [List.length_map, List.length_take]; omega
      have m1 : ((es.take k).map (fun e => e.st.id)).length + 1 ≤ 9223372036854775807 := by omega
      have m2 : (((es.take k).map (fun e => e.st.id)).length + 1) * 32 ≤ 140737488355328 := by omega
      have szr := hbel.size
      obtain ⟨IC, hIC⟩ : ∃ IC, (idC x.st.id).toArray = IC := ⟨_, rfl⟩
      rw [hIC] at hid32 hidl hid1 ldx
      have HIC := Lib.hid hIC
      clear hx hca hat heach hIC hxr
      go_wp2_with (first
        | ((with_reducible refine lit_slice1 (.tmp 18) Tryd.idsTy IC hid32 (by omega) ?_ ?_); rfl)
        | (at_builtin
           (with_reducible refine lit_append_new (.tmp 12) (.tmp 19) 1 _ Tryd.idsTy hown IC hidl hid1 m1 m2 szr ?_ ?_ ?_); rfl; rfl
           intro v2 w2 hv2 hb2 hg2 hn2
           have b2 := hbel.trans hb2
           clear hg2 hn2))
      all_goals try (exfalso; omega)
      have o3 : OwnIds w2 W1.heap.size v2 ((es.take (k + 1)).map (fun e => e.st.id)) := by
        rw [hms.out]
        unfold OwnIds
        rw [rowsOf_append, rowsOf_one, List.length_append]
        rw [← HIC.out, List.toList_toArray] at hv2
        exact hv2
      go_roundw
      case rel => exact ⟨k + 1, by go_num, by omega, o3, b2⟩
      case measure => simp [intOf]; omega
    · have hki : ¬ (k : Int) < (es.length : Int) := by omega
      obtain rfl : k = es.length := by omega
      rw [List.take_length] at hown
      clear hat heach
      go_wp2
      go_ret
      exact ⟨_, rfl, own_low' hown (Nat.le_of_lt hlt1), hbr⟩
/-- What lies there while two lists of ids are looked at. -/
structure TwoC (w : World) (ga oa gb ob : Nat) (x : Txt) (w' : World) : Prop where
  a_ : w'.rangeAt ga oa (idC x)
  b_ : w'.rangeAt gb ob (idC x)
  bel : Below w.heap.size w w'
theorem TwoC.drew {w : World} {ga oa gb ob : Nat} {x : Txt} {w' : World} (h : TwoC w ga oa gb ob x w') : TwoC w ga oa gb ob x w'.drew := ⟨h.a_, h.b_, h.bel.drew⟩
theorem quiet_neq_idC {C : World → Prop} {W : World} {a : Act} {d : Option Tmp} {rt t' : TypeId} {pos : String} {af : Array Edge} {gd : Option (Nat × Bool)} {x y : Operand} (p : Txt) (hp : p.length = 32)
    (hx : a.eval x = .agg (idC p).toArray) (hy : a.eval y = .agg (idC p).toArray) : Oper.quietUpon Tryd.prog C W (.bool false) ((execOp a.eval { dst := d, op := .binOp .neq 24 x y t', type := rt, pos := pos, after := af, guard := gd }).run Tryd.prog W) := by
  have e : (idC p).toArray = u8s p := by simp [idC]
  rw [e] at hx hy
  unfold execOp
  simp only [hx, hy, Sem.run_bind, run_eqGuard_agg _ _ _ _ _ _ _ Tryd.eqGuardType24, run_neq_id W p p hp hp, Result.andThen_ok, decide_true, Bool.not_true]
  exact ⟨rfl, rfl⟩
set_option maxRecDepth 100000 in
set_option maxHeartbeats 2000000 in
theorem refSame02_calls (l : List Txt) (hok : ∀ x ∈ l, x.length = 32) (va vb : Value) (w : World) (ha : Ids w va l) (hb : Ids w vb l) :
    Calls Tryd.prog 31 #[va, vb] w fun e w' => e = .returned (.bool true) ∧ Below w.heap.size w w' := by
  have hla := ha.len
  obtain ⟨A, capa, rfl, ha1, ha2, hata⟩ := ha
  obtain ⟨B', capb, rfl, hb1, hb2, hatb⟩ := hb
  go_enter Tryd.func31, Tryd.ntmps31
  go_wp2
  go_loopw [5] (fun i wr => ∃ k : Nat, i = .int .i64 k ∧ k ≤ l.length ∧ Below w.heap.size w wr) (fun i _ => l.length - (intOf i).toNat)
  case atStart => exact ⟨0, rfl, by omega, Below.refl _ _⟩
  case round =>
    obtain ⟨k, rfl, hk, hbel⟩ := hrel
    by_cases hlt : k < l.length
    · have hki : (k : Int) < (l.length : Int) := by omega
      obtain ⟨ga, oa, rfl, hga, hca⟩ := hata (by omega)
      obtain ⟨gb, ob, rfl, hgb, hcb⟩ := hatb (by omega)
      obtain ⟨x, hx⟩ : ∃ x, l[k]? = some x := ⟨_, List.getElem?_eq_getElem hlt⟩
      have hxok := hok x (List.mem_of_getElem? hx)
      have hS : TwoC w ga (oa + k * 32) gb (ob + k * 32) x wr := ⟨rangeAt_below (hca k x hx) hga hbel, rangeAt_below (hcb k x hx) hgb hbel, hbel⟩
      have hsz : (Tryd.prog.info? 24).map (·.size) = some (idC x).length := by rw [idC_len hxok]; exact sz32
      clear hx hata hatb hca hcb hbel hok
      go_wp2
      refine wp_region_class (C := TwoC w ga (oa + k * 32) gb (ob + k * 32) x) (by kernel_rfl) (by kernel_rfl) hS.drew ?_
      repeat
        first
          | ((with_reducible refine wpQuiet_ex ?_ ?_)
             · (go_simp; done)
             apply Exists.intro
             refine ⟨fun W hW => ?_, ?_⟩
             · first
                 | exact quiet_load_mid _ _ rfl ga (oa + k * 32) rfl (idC x) _ hW.a_ Tryd.underlying24 rfl hsz rfl
                 | exact quiet_load_mid _ _ rfl gb (ob + k * 32) rfl (idC x) _ hW.b_ Tryd.underlying24 rfl hsz rfl
                 | ((with_reducible refine quiet_neq_idC x hxok ?_ ?_) <;> rfl)
                 | (go_simp
                    first
                      | rfl)
             simp only [Act.put, List.setIfInBounds_toArray, List.set_cons_zero, List.set_cons_succ])
          | ((with_reducible refine wpQuiet_pass ?_ ?_)
             · (first | rfl | (go_simp; done))
             simp only [Act.put, List.setIfInBounds_toArray, List.set_cons_zero, List.set_cons_succ])
      with_reducible refine wpQuiet_nil ?_
      intro w5 hW5
      go_wp2
      go_roundw
      case rel => exact ⟨k + 1, by go_num, by omega, hW5.bel⟩
      case measure => simp [intOf]; omega
    · have hki : ¬ (k : Int) < (l.length : Int) := by omega
      go_wp2
      go_ret
      exact ⟨rfl, hbel⟩
end Go.Proofs.YtnehabcopjgklaaDoor
/- The plain law of figures: the text of an id, the id of a text. No condition; no program. -/
namespace Go.Proofs.YtnehabcopjgklaaDoor

/-- A figure's number; 16: it is none. -/
def figN (c : UInt8) : Nat := if 48 ≤ c.toNat ∧ c.toNat ≤ 57 then c.toNat - 48 else if 97 ≤ c.toNat ∧ c.toNat ≤ 102 then c.toNat - 87 else 16
def figC (n : Nat) : UInt8 := if n < 10 then (48 + n).toUInt8 else (87 + n).toUInt8
def figures : List UInt8 := [48, 49, 50, 51, 52, 53, 54, 55, 56, 57, 97, 98, 99, 100, 101, 102]
theorem u8_all {p : UInt8 → Prop} (h : ∀ n : Fin 256, p (UInt8.ofNat n.val)) (c : UInt8) : p c := by
  have := h ⟨c.toNat, c.toNat_lt⟩
  simpa using this
theorem figN_C (n : Nat) (h : n < 16) : figN (figC n) = n := by
  have : ∀ m : Fin 16, figN (figC m.val) = m.val := by decide +kernel
  exact this ⟨n, h⟩
theorem figC_N (c : UInt8) : figN c < 16 → figC (figN c) = c := by
  refine u8_all (p := fun c => figN c < 16 → figC (figN c) = c) ?_ c
  decide +kernel
theorem figN_le (c : UInt8) : figN c ≤ 16 := by
  refine u8_all (p := fun c => figN c ≤ 16) ?_ c
  decide +kernel
theorem index_fig (c : UInt8) : Lib.indexByte figures c = if figN c < 16 then (figN c : Int) else -1 := by
  refine u8_all (p := fun c => Lib.indexByte figures c = if figN c < 16 then (figN c : Int) else -1) ?_ c
  decide +kernel
theorem figC_get (n : Nat) (h : n < 16) : figures.getD n 0 = figC n := by
  have : ∀ m : Fin 16, figures.getD m.val 0 = figC m.val := by decide +kernel
  exact this ⟨n, h⟩
theorem figC_inj {m n : Nat} (hm : m < 16) (hn : n < 16) (h : figC m = figC n) : m = n := by
  rw [← figN_C m hm, h, figN_C n hn]
theorem figC_eq (c : UInt8) (d : Nat) (h : d < 16) : (c = figC d) ↔ figN c = d :=
  ⟨fun e => by rw [e, figN_C d h], fun e => by subst e; exact (figC_N c h).symm⟩
theorem getD_at (l : List UInt8) (i : Nat) (h : i < l.length) : l.getD i 0 = l[i] := by simp [List.getD, List.getElem?_eq_getElem h]
/-- The text of an id. -/
def hexOf (l : List UInt8) : List UInt8 := l.flatMap fun c => [figC (c.toNat / 16), figC (c.toNat % 16)]
theorem hexOf_append (a b : List UInt8) : hexOf (a ++ b) = hexOf a ++ hexOf b := by simp [hexOf]
theorem hexOf_length (l : List UInt8) : (hexOf l).length = 2 * l.length := by
  induction l with
  | nil => rfl
  | cons c l ih => simp [hexOf] at *; omega
theorem hexOf_take (l : List UInt8) (k : Nat) (h : k < l.length) : hexOf (l.take (k + 1)) = hexOf (l.take k) ++ [figC ((l.getD k 0).toNat / 16), figC ((l.getD k 0).toNat % 16)] := by
  rw [List.take_add_one, hexOf_append, List.getElem?_eq_getElem h]
  simp [hexOf, List.getD, List.getElem?_eq_getElem h]
/-- Is it a text of an id? -/
def fg (s : List UInt8) (i : Nat) : Nat := figN (s.getD i 0)
def isHex (s : List UInt8) : Bool := s.length == 64 && s.all (fun c => decide (figN c < 16))
/-- The id behind i figures. -/
def partH (s : List UInt8) (i j : Nat) : Nat := if i ≤ 2 * j then 0 else if i = 2 * j + 1 then fg s (2 * j) else 16 * fg s (2 * j) + fg s (2 * j + 1)
def partsH (s : List UInt8) (i : Nat) : List UInt8 := (List.range 32).map fun j => (partH s i j).toUInt8
def unhexId (s : List UInt8) : List UInt8 := (List.range 32).map fun j => (16 * fg s (2 * j) + fg s (2 * j + 1)).toUInt8
def unhexOr (s : List UInt8) : List UInt8 := if isHex s then unhexId s else List.replicate 32 0
theorem unhexId_length (s : List UInt8) : (unhexId s).length = 32 := by simp [unhexId]
theorem unhexOr_length (s : List UInt8) : (unhexOr s).length = 32 := by
  unfold unhexOr; split
  · exact unhexId_length s
  · simp
theorem partsH_length (s : List UInt8) (i : Nat) : (partsH s i).length = 32 := by simp [partsH]
theorem partsH_zero (s : List UInt8) : partsH s 0 = List.replicate 32 0 := by
  apply List.ext_getElem
  · simp [partsH]
  · intro j h1 h2
    rw [List.getElem_replicate]
    simp [partsH, partH]
theorem partsH_all (s : List UInt8) : partsH s 64 = unhexId s := by
  apply List.ext_getElem
  · simp [partsH, unhexId]
  · intro j h1 h2
    have hj : j < 32 := by simpa [partsH] using h1
    simp only [partsH, unhexId, List.getElem_map, List.getElem_range, partH]
    rw [if_neg (by omega)]
    split
    · omega
    · rfl
def Figs (s : List UInt8) (i : Nat) : Prop := ∀ j, j < i → fg s j < 16
theorem Figs.step {s : List UInt8} {i : Nat} (h : Figs s i) (hi : fg s i < 16) : Figs s (i + 1) := fun j hj => by
  rcases Nat.lt_or_ge j i with h1 | h1
  · exact h j h1
  · rw [show j = i from by omega]; exact hi
theorem isHex_of_figs {s : List UInt8} (hl : s.length = 64) (h : Figs s 64) : isHex s = true := by
  simp only [isHex, hl, beq_self_eq_true, Bool.true_and, List.all_eq_true, decide_eq_true_eq]
  intro c hc
  obtain ⟨j, hj, rfl⟩ := List.getElem_of_mem hc
  have := h j (by omega)
  simpa [fg, List.getD, List.getElem?_eq_getElem hj] using this
theorem isHex_false {s : List UInt8} {i : Nat} (hi : i < s.length) (h : ¬ fg s i < 16) : isHex s = false := by
  rw [Bool.eq_false_iff]
  intro hc
  simp only [isHex, Bool.and_eq_true, List.all_eq_true, decide_eq_true_eq] at hc
  have := hc.2 (s[i]) (List.getElem_mem hi)
  simp [fg, List.getD, List.getElem?_eq_getElem hi] at h
  omega
theorem isHex_len {s : List UInt8} (h : s.length ≠ 64) : isHex s = false := by
  simp [isHex, h]
theorem figs_of_isHex {s : List UInt8} (h : isHex s = true) : s.length = 64 ∧ Figs s 64 := by
  simp only [isHex, Bool.and_eq_true, beq_iff_eq, List.all_eq_true, decide_eq_true_eq] at h
  refine ⟨h.1, fun j hj => ?_⟩
  have hl : j < s.length := by omega
  have := h.2 (s[j]) (List.getElem_mem hl)
  simpa [fg, List.getD, List.getElem?_eq_getElem hl] using this
theorem partH_lt {s : List UInt8} {i j : Nat} (h : Figs s i) : partH s i j < 256 := by
  unfold partH
  split
  · omega
  · split
    · have := h (2 * j) (by omega); omega
    · have := h (2 * j) (by omega)
      have := h (2 * j + 1) (by omega)
      omega
theorem partH_here {s : List UInt8} {i : Nat} (h : Figs s i) : partH s i (i / 2) < 16 ∧ partH s (i + 1) (i / 2) = 16 * partH s i (i / 2) + fg s i := by
  obtain ⟨j, r, hr, rfl⟩ : ∃ j r, r < 2 ∧ i = 2 * j + r := ⟨i / 2, i % 2, by omega, by omega⟩
  have hj : (2 * j + r) / 2 = j := by omega
  rw [hj]
  match r, hr with
  | 0, _ =>
    unfold partH
    rw [if_pos (by omega), if_neg (by omega), if_pos (by omega)]
    exact ⟨by omega, by simp⟩
  | 1, _ =>
    have := h (2 * j) (by omega)
    unfold partH
    rw [if_neg (by omega), if_pos (by omega), if_neg (by omega), if_neg (by omega)]
    exact ⟨this, rfl⟩
theorem partH_else (s : List UInt8) (i j : Nat) (h : j ≠ i / 2) : partH s (i + 1) j = partH s i j := by
  unfold partH
  rcases Nat.lt_or_ge i (2 * j) with hlt | hge
  · rw [if_pos (by omega), if_pos (by omega)]
  · rw [if_neg (by omega), if_neg (by omega), if_neg (by omega), if_neg (by omega)]
theorem partsH_get {s : List UInt8} {i j : Nat} (h : Figs s i) (hj : j < 32) : ((partsH s i).getD j 0).toNat = partH s i j := by
  have : j < (partsH s i).length := by rw [partsH_length]; exact hj
  rw [List.getD, List.getElem?_eq_getElem this]
  simp only [partsH, List.getElem_map, List.getElem_range, Option.getD_some]
  exact Nat.mod_eq_of_lt (partH_lt h)
theorem partsH_step {s : List UInt8} {i : Nat} (h : Figs s i) : (partsH s i).set (i / 2) (16 * partH s i (i / 2) + fg s i).toUInt8 = partsH s (i + 1) := by
  apply List.ext_getElem
  · simp [partsH]
  · intro j h1 h2
    rw [List.getElem_set]
    split
    · rename_i he
      subst he
      simp [partsH, (partH_here h).2]
    · rename_i hne
      simp [partsH, partH_else s i j (fun e => hne e.symm)]
/-- What was written is read. -/
theorem hexOf_get (l : List UInt8) (j : Nat) (h : j < l.length) : (hexOf l).getD (2 * j) 0 = figC ((l.getD j 0).toNat / 16) ∧ (hexOf l).getD (2 * j + 1) 0 = figC ((l.getD j 0).toNat % 16) := by
  induction l generalizing j with
  | nil => simp at h
  | cons c l ih =>
    cases j with
    | zero => exact ⟨rfl, rfl⟩
    | succ j =>
      have := ih j (by simpa using h)
      have e : hexOf (c :: l) = figC (c.toNat / 16) :: figC (c.toNat % 16) :: hexOf l := rfl
      rw [e, show 2 * (j + 1) = 2 * j + 1 + 1 from by omega]
      exact this
theorem unhex_hex (l : List UInt8) (hl : l.length = 32) : isHex (hexOf l) = true ∧ unhexId (hexOf l) = l := by
  have hlen : (hexOf l).length = 64 := by rw [hexOf_length, hl]
  have hd (j : Nat) (hj : j < 32) : fg (hexOf l) (2 * j) = (l.getD j 0).toNat / 16 ∧ fg (hexOf l) (2 * j + 1) = (l.getD j 0).toNat % 16 := by
    have h := hexOf_get l j (by omega)
    have hc := (l.getD j 0).toNat_lt
    exact ⟨by rw [fg, h.1, figN_C _ (by omega)], by rw [fg, h.2, figN_C _ (by omega)]⟩
  refine ⟨isHex_of_figs hlen (fun i hi => ?_), ?_⟩
  · have hc := (l.getD (i / 2) 0).toNat_lt
    rcases Nat.mod_two_eq_zero_or_one i with h | h
    · have := (hd (i / 2) (by omega)).1
      rw [show 2 * (i / 2) = i from by omega] at this
      omega
    · have := (hd (i / 2) (by omega)).2
      rw [show 2 * (i / 2) + 1 = i from by omega] at this
      omega
  · apply List.ext_getElem
    · rw [unhexId_length, hl]
    · intro j h1 h2
      have hj : j < 32 := by rw [unhexId_length] at h1; exact h1
      simp only [unhexId, List.getElem_map, List.getElem_range, (hd j hj).1, (hd j hj).2]
      rw [show 16 * ((l.getD j 0).toNat / 16) + (l.getD j 0).toNat % 16 = (l.getD j 0).toNat from by omega]
      simp [List.getD, List.getElem?_eq_getElem h2]
theorem hex_unhex (s : List UInt8) (h : isHex s = true) : hexOf (unhexId s) = s := by
  obtain ⟨hl, hf⟩ := figs_of_isHex h
  apply List.ext_getElem
  · rw [hexOf_length, unhexId_length, hl]
  · intro i h1 h2
    have hi : i < 64 := by omega
    have hu := hexOf_get (unhexId s) (i / 2) (by rw [unhexId_length]; omega)
    have hb : ((unhexId s).getD (i / 2) 0).toNat = 16 * fg s (2 * (i / 2)) + fg s (2 * (i / 2) + 1) := by
      have h3 : i / 2 < (unhexId s).length := by rw [unhexId_length]; omega
      have f1 := hf (2 * (i / 2)) (by omega)
      have f2 := hf (2 * (i / 2) + 1) (by omega)
      rw [List.getD, List.getElem?_eq_getElem h3]
      simp only [unhexId, List.getElem_map, List.getElem_range, Option.getD_some]
      exact Nat.mod_eq_of_lt (by omega)
    have f1 := hf (2 * (i / 2)) (by omega)
    have f2 := hf (2 * (i / 2) + 1) (by omega)
    rw [hb] at hu
    rw [← getD_at _ i h1, ← getD_at _ i h2]
    rcases Nat.mod_two_eq_zero_or_one i with hm | hm
    · have := hu.1
      rw [show 2 * (i / 2) = i from by omega] at *
      rw [this, show (16 * fg s i + fg s (i + 1)) / 16 = fg s i from by omega]
      exact figC_N _ f1
    · have := hu.2
      rw [show 2 * (i / 2) + 1 = i from by omega] at *
      rw [this, show (16 * fg s (2 * (i / 2)) + fg s i) % 16 = fg s i from by omega]
      exact figC_N _ f2
end Go.Proofs.YtnehabcopjgklaaDoor
/- The walks of figures: Hex, on the program's side and on the document's. No condition. -/
namespace Go.Proofs.YtnehabcopjgklaaDoor
open Go.RowKit

theorem index_id (w : World) (l : List UInt8) (k : Nat) (c : UInt8) (hl : l.length = 32) (hk : k < 32) (hc : l.getD k 0 = c) :
    (Instr.index 24 (.agg (u8s l)) (.int .i64 k)).run Tryd.prog w = .ok (.int .u8 (c.toNat : Nat)) w := by
  have hx : (u8s l)[k]? = some (.int .u8 (c.toNat : Nat)) := by rw [u8s_get l k (by omega), hc]
  obtain ⟨i, hi⟩ := Option.isSome_iff_exists.1 (show (Tryd.prog.info? 5).isSome = true by kernel_rfl)
  have hu : Tryd.prog.underlying 24 = some (.array 32 5) := Tryd.underlying24
  have h0 : (0 : Int) ≤ (k : Int) ∧ (k : Int) < ((32 : Nat) : Int) := by omega
  have ha : (isAgg 5).run Tryd.prog w = .ok false w := by kernel_rfl
  have hz : (sizeOf 5).run Tryd.prog w = .ok 1 w := by kernel_rfl
  simp only [Instr.index, asIntOf, Sem.run_bind, Sem.run_pure, Result.andThen_ok, run_underlying hu]
  rw [if_pos h0]
  simp only [Sem.run_bind, Sem.run_pure, Result.andThen_ok, hz, part, ha, Int.toNat_natCast, Nat.mul_one, hx]
  rfl
theorem digits_get (n : Nat) (hn : n < 16) (h : n < (⟨#[48, 49, 50, 51, 52, 53, 54, 55, 56, 57, 97, 98, 99, 100, 101, 102]⟩ : ByteArray).size) :
    (⟨#[48, 49, 50, 51, 52, 53, 54, 55, 56, 57, 97, 98, 99, 100, 101, 102]⟩ : ByteArray)[n]'h = figC n := by
  have : ∀ m : Fin 16, (⟨#[48, 49, 50, 51, 52, 53, 54, 55, 56, 57, 97, 98, 99, 100, 101, 102]⟩ : ByteArray)[m.val]'(m.isLt) = figC m.val := by decide +kernel
  exact this ⟨n, hn⟩
theorem and15 (c : UInt8) : bits .and .u8 (c.toNat : Int) 15 = ((c.toNat % 16 : Nat) : Int) := by
  refine u8_all (p := fun c => bits .and .u8 (c.toNat : Int) 15 = ((c.toNat % 16 : Nat) : Int)) ?_ c
  decide +kernel
/-- What is kept while figures are made. -/
structure HexKeep (w : World) (l : List UInt8) (w' : World) : Prop where
  blk : Blk w' w.heap.size 24 (u8s l)
  bel : Below w.heap.size w w'
--FI
end Go.Proofs.YtnehabcopjgklaaDoor
/- The walks of figures: Unhex, Less, on the program's side and on the document's. No condition. -/
namespace Go.Proofs.YtnehabcopjgklaaDoor
open Go.RowKit

theorem or_fig (x n : Nat) (hx : x < 16) (hn : n < 16) : bits .or .u8 ((x : Int) * 16 % 256) ((n : Int) % 256) = ((16 * x + n : Nat) : Int) := by
  have : ∀ a b : Fin 16, bits .or .u8 ((a.val : Int) * 16 % 256) ((b.val : Int) % 256) = ((16 * a.val + b.val : Nat) : Int) := by decide +kernel
  exact this ⟨x, hx⟩ ⟨n, hn⟩
theorem or_fig' (x n : Nat) (hx : x < 16) (hn : n < 16) : bits .or .u8 ((x : Int) * 16) (n : Int) = ((16 * x + n : Nat) : Int) := by
  have : ∀ a b : Fin 16, bits .or .u8 ((a.val : Int) * 16) (b.val : Int) = ((16 * a.val + b.val : Nat) : Int) := by decide +kernel
  exact this ⟨x, hx⟩ ⟨n, hn⟩
theorem index_calls (c : UInt8) (w : World) :
    Calls Tryd.prog 80 #[.string ⟨#[48, 49, 50, 51, 52, 53, 54, 55, 56, 57, 97, 98, 99, 100, 101, 102]⟩, .int .u8 (c.toNat : Nat)] w fun e w' => e = .returned (.int .i64 (if figN c < 16 then (figN c : Int) else -1)) ∧ w = w' := by
  refine (Tryd.strings_IndexByte _ _ w).mono fun e w' ⟨he, hw⟩ => ⟨?_, hw.symm⟩
  rw [he, ← index_fig]
  simp [figures]
theorem index_yes (c : UInt8) (h : figN c < 16) (w : World) :
    Calls Tryd.prog 80 #[.string ⟨#[48, 49, 50, 51, 52, 53, 54, 55, 56, 57, 97, 98, 99, 100, 101, 102]⟩, .int .u8 (c.toNat : Nat)] w fun e w' => e = .returned (.int .i64 (figN c : Nat)) ∧ w = w' := by
  have := index_calls c w
  rwa [if_pos h] at this
theorem index_no (c : UInt8) (h : ¬ figN c < 16) (w : World) :
    Calls Tryd.prog 80 #[.string ⟨#[48, 49, 50, 51, 52, 53, 54, 55, 56, 57, 97, 98, 99, 100, 101, 102]⟩, .int .u8 (c.toNat : Nat)] w fun e w' => e = .returned (.int .i64 (-1)) ∧ w = w' := by
  have := index_calls c w
  rwa [if_neg h] at this
theorem fig_test (c : UInt8) (d : Nat) (hd : d < 16) : (c == figC d) = decide (figN c = d) := by
  rw [Bool.eq_iff_iff]
  simp only [beq_iff_eq, decide_eq_true_eq]
  exact figC_eq c d hd
/-- What was found behind d figures. -/
def foundAt (c : UInt8) (d : Nat) : Int := if figN c < d then (figN c : Int) else -1
theorem foundAt_here {c : UInt8} {d : Nat} (h : figN c = d) : foundAt c (d + 1) = (d : Int) := by rw [foundAt, if_pos (by omega), h]
theorem foundAt_next {c : UInt8} {d : Nat} (h : ¬ figN c = d) : foundAt c (d + 1) = foundAt c d := by
  unfold foundAt
  by_cases h1 : figN c < d
  · rw [if_pos h1, if_pos (by omega)]
  · rw [if_neg h1, if_neg (by omega)]
theorem foundAt_yes {c : UInt8} (h : figN c < 16) : foundAt c 16 = (figN c : Int) := by rw [foundAt, if_pos h]
theorem foundAt_no {c : UInt8} (h : ¬ figN c < 16) : foundAt c 16 = -1 := by rw [foundAt, if_neg h]
--FI
end Go.Proofs.YtnehabcopjgklaaDoor
/- The walks of the order of ids: Less, on the program's side and on the document's. No condition. -/
namespace Go.Proofs.YtnehabcopjgklaaDoor
open Go.RowKit

theorem bytesLess_at {a b : List UInt8} (k : Nat) (ha : k < a.length) (hb : k < b.length) (he : a.take k = b.take k) (hne : a.getD k 0 ≠ b.getD k 0) :
    Op.bytesLess a b = decide (((a.getD k 0).toNat : Int) < ((b.getD k 0).toNat : Int)) := by
  induction k generalizing a b with
  | zero =>
    cases a with
    | nil => simp at ha
    | cons x a =>
      cases b with
      | nil => simp at hb
      | cons y b =>
        have hxy : x ≠ y := hne
        rw [Op.bytesLess, Bool.eq_iff_iff]
        simp only [Bool.or_eq_true, Bool.and_eq_true, decide_eq_true_eq, beq_iff_eq, hxy, false_and, or_false, List.getD_cons_zero, UInt8.lt_iff_toNat_lt]
        omega
  | succ k ih =>
    cases a with
    | nil => simp at ha
    | cons x a =>
      cases b with
      | nil => simp at hb
      | cons y b =>
        simp only [List.take_succ_cons, List.cons.injEq] at he
        obtain ⟨rfl, he⟩ := he
        have := ih (a := a) (b := b) (by simpa using ha) (by simpa using hb) he hne
        rw [Op.bytesLess]
        simp only [List.getD_cons_succ, beq_self_eq_true, Bool.true_and, UInt8.lt_irrefl, decide_false, Bool.false_or]
        exact this
theorem bytesLess_self (a : List UInt8) : Op.bytesLess a a = false := by
  induction a with
  | nil => rfl
  | cons x a ih => rw [Op.bytesLess, ih]; simp
set_option maxRecDepth 100000 in
set_option maxHeartbeats 1000000 in
theorem refLess_calls (a b : List UInt8) (ha : a.length = 32) (hb : b.length = 32) (w : World) :
    Calls Tryd.prog 30 #[.agg (u8s a), .agg (u8s b)] w fun e w' => e = .returned (.bool (Op.bytesLess a b)) ∧ Below w.heap.size w w' := by
  have h0 : Blk ((w.alloc (.cells (u8s a) 24)).alloc (.cells (u8s b) 24)) w.heap.size 24 (u8s a) := (Blk.new w _ _).alloc _
  have h1 : Blk ((w.alloc (.cells (u8s a) 24)).alloc (.cells (u8s b) 24)) (w.heap.size + 1) 24 (u8s b) := blk_at2 _ _ _ _
  have bb : Below w.heap.size w ((w.alloc (.cells (u8s a) 24)).alloc (.cells (u8s b) 24)) := ((Below.refl _ _).alloc (Nat.le_refl _) _).alloc (by simp) _
  obtain ⟨r, hr⟩ : ∃ r, Hid (Op.bytesLess a b = r) := ⟨_, rfl⟩
  rw [hr.out]
  go_enter Tryd.func30, Tryd.ntmps30
  go_wp2
  go_loopw [5] (fun i wr => ∃ k : Nat, i = .int .i64 k ∧ k ≤ 32 ∧ Hid (a.take k = b.take k) ∧ Blk wr w.heap.size 24 (u8s a) ∧ Blk wr (w.heap.size + 1) 24 (u8s b) ∧ Below w.heap.size w wr) (fun i _ => 32 - (intOf i).toNat)
  case atStart => exact ⟨0, rfl, by omega, rfl, h0, h1, bb⟩
  case round =>
    clear h0 h1 bb
    obtain ⟨k, rfl, hk, hek, h0, h1, hbel⟩ := hrel
    have hbs := h1.lt
    by_cases hlt : k < 32
    · have hki : (k : Int) < 32 := by omega
      have hat := fun hne => Lib.hid (bytesLess_at k (by omega) (by omega) hek.out (a := a) (b := b) hne)
      have hc0 : wr.cell? ⟨w.heap.size, k, none⟩ = some (.int .u8 ((a.getD k 0).toNat : Nat)) := by rw [h0.cell, u8s_get a k (by omega)]
      have hc1 : wr.cell? ⟨w.heap.size + 1, k, none⟩ = some (.int .u8 ((b.getD k 0).toNat : Nat)) := by rw [h1.cell, u8s_get b k (by omega)]
      have hnx : Hid (a.getD k 0 = b.getD k 0 → a.take (k + 1) = b.take (k + 1)) := by
        intro he
        rw [List.take_add_one, List.take_add_one, hek.out]
        congr 1
        simp only [List.getD, List.getElem?_eq_getElem (show k < a.length by omega), List.getElem?_eq_getElem (show k < b.length by omega), Option.getD_some] at he
        rw [List.getElem?_eq_getElem (show k < a.length by omega), List.getElem?_eq_getElem (show k < b.length by omega), he]
      generalize a.getD k 0 = x at *
      generalize b.getD k 0 = y at *
      by_cases hxy : x = y
      · have hn := Lib.hid (hnx.out hxy)
        have hx1 : ((x.toNat : Int) != (y.toNat : Int)) = false := by rw [hxy]; simp
        clear hat hnx hxy
        go_wp2
        go_quiet (fail)
        go_wp2
        go_roundw
        case rel => exact ⟨k + 1, by go_num, by omega, hn, h0.drewN nq, h1.drewN nq, bdrewN hbel nq⟩
        case measure => simp [intOf]; omega
      · have hx1 : ((x.toNat : Int) != (y.toNat : Int)) = true := by
          simp only [bne_iff_ne, ne_eq]
          exact fun h => hxy (UInt8.toNat_inj.1 (by omega))
        have hres := hat hxy
        have hrr : Hid (r = decide (x.toNat < y.toNat)) := by show _ = _; rw [← hr.out, hres.out]; exact decide_eq_decide.2 Int.ofNat_lt
        clear hat hnx hxy hres
        go_wp2
        go_quiet (fail)
        have hc0' : (wr.drewN nq).cell? ⟨w.heap.size, k, none⟩ = some (.int .u8 (x.toNat : Nat)) := hc0
        have hc1' : (wr.drewN nq).cell? ⟨w.heap.size + 1, k, none⟩ = some (.int .u8 (y.toNat : Nat)) := hc1
        have hbel' := bdrewN hbel nq
        clear hc0 hc1 h0 h1 hbel
        generalize wr.drewN nq = wo at *
        go_wp2
        go_quiet (fail)
        go_wp2
        go_ret
        exact ⟨by rw [hrr.out]; rfl, bdrewN hbel' nq⟩
    · have hk32 : k = 32 := by omega
      have hki : ¬ (k : Int) < 32 := by omega
      have hrr : Hid (r = false) := by
        have := hek.out
        rw [hk32, List.take_of_length_le (by omega), List.take_of_length_le (by omega)] at this
        show _ = _
        rw [← hr.out, this, bytesLess_self]
      clear hk32
      go_wp2
      go_ret
      exact ⟨by rw [hrr.out]; rfl, hbel⟩
end Go.Proofs.YtnehabcopjgklaaDoor
/- Layer 11's document: an item laid amid others; a store and an item written out. No condition. -/
namespace Go.Proofs.YtnehabcopjgklaaDoor
open Go.RowKit
theorem results_row2_tmp {P : Program} {fn : Func} {p q r : Tmp} {ty ty' : TypeId} (h : fn.results = #[.cell p ty, .cell q ty', .tmp r]) (tmps : Array Value) (w : World) (g g' : Nat) (t t' : TypeId) (cs cs' : Array Value) (fr fr' : Nat × Nat) (d d' : TypeDesc)
    (hp : tmps.getD p undef = .pointer (some ⟨g, 0, none⟩)) (hg : w.heap[g]? = some (.cells cs t fr)) (hq : tmps.getD q undef = .pointer (some ⟨g', 0, none⟩)) (hg' : w.heap[g']? = some (.cells cs' t' fr'))
    (hu : P.underlying ty = some d) (hd : (match d with | .struct _ | .array _ _ => true | _ => false) = true) (hi : (P.info? ty).map (·.size) = some cs.size)
    (hu' : P.underlying ty' = some d') (hd' : (match d' with | .struct _ | .array _ _ => true | _ => false) = true) (hi' : (P.info? ty').map (·.size) = some cs'.size) :
    (results fn tmps).run P w = .ok (.tuple #[.agg cs, .agg cs', tmps.getD r undef]) w := by
  have hp' : tmps[p]?.getD undef = .pointer (some ⟨g, 0, none⟩) := by simpa using hp
  have hq' : tmps[q]?.getD undef = .pointer (some ⟨g', 0, none⟩) := by simpa using hq
  simp [results, h, hp', hq', asAddr, run_loadVar_row w g t ty cs fr d hg hu hd hi, run_loadVar_row w g' t' ty' cs' fr' d' hg' hu' hd' hi']
theorem built_docSt (A : Option Addr) (n c : Nat) : Tryd.prog.built 30 [(0, .slice A n c)] = some #[.slice A n c] := by kernel_rfl
set_option maxRecDepth 100000 in
theorem built_dit {w : World} (e : DiL) (he : DitOk w e) : Tryd.prog.built 57 [(0, .agg (u8s e.st.id)), (1, .string (B e.st.text)), (2, .agg (objC e.o e.ve e.vp).toArray)] = some (ditC e).toArray := by
  obtain ⟨it, hi, hz, hs, hb⟩ := Tryd.ditTy.hi
  have hpl : (match Tryd.prog.underlying 57 with | some (.struct fields) => fields.toList.mapM (fun f => (Tryd.prog.info? f.type).map fun i => (f.offset, i.size)) | _ => none) = some [(0, 32), (32, 1), (33, 72)] := by kernel_rfl
  have hu := Tryd.underlying57
  rw [hu] at hpl
  unfold Program.built
  rw [hi, hu]
  simp only [hz]
  simp only at hpl
  rw [hpl]
  have hid := he.id
  have hO := objC_len he.val.ok e.ve e.vp
  have e0 : (Value.agg (u8s e.st.id)).cells = u8s e.st.id := rfl
  have e1 : (Value.string (B e.st.text)).cells = #[.string (B e.st.text)] := rfl
  have e2 : (Value.agg (objC e.o e.ve e.vp).toArray).cells = (objC e.o e.ve e.vp).toArray := rfl
  have f1 : ∀ c : Array Value, Array.foldl (fun cs (x : Value × Nat) => cs.setIfInBounds (32 + x.snd) x.fst) c (#[.string (B e.st.text)] : Array Value).zipIdx = c.setIfInBounds 32 (.string (B e.st.text)) := fun c => rfl
  have f0 : ∀ c : Array Value, Array.foldl (fun cs (x : Value × Nat) => cs.setIfInBounds (0 + x.snd) x.fst) c (u8s e.st.id).zipIdx = (u8s e.st.id).toList.zipIdx.foldl (fun cs (x : Value × Nat) => cs.setIfInBounds (0 + x.snd) x.fst) c := fun c => by
    rw [← Array.foldl_toList, Array.toList_zipIdx]
  have f2 : ∀ c : Array Value, Array.foldl (fun cs (x : Value × Nat) => cs.setIfInBounds (33 + x.snd) x.fst) c (objC e.o e.ve e.vp).toArray.zipIdx = (objC e.o e.ve e.vp).zipIdx.foldl (fun cs (x : Value × Nat) => cs.setIfInBounds (33 + x.snd) x.fst) c := fun c => by
    rw [← Array.foldl_toList, Array.toList_zipIdx, List.toList_toArray]
  have g0 : (#[(0, 32), (32, 1), (33, 72)] : Array (Nat × Nat))[0]? = some (0, 32) := rfl
  have g1 : (#[(0, 32), (32, 1), (33, 72)] : Array (Nat × Nat))[1]? = some (32, 1) := rfl
  have g2 : (#[(0, 32), (32, 1), (33, 72)] : Array (Nat × Nat))[2]? = some (33, 72) := rfl
  obtain ⟨Z, hZ⟩ : ∃ Z, Z = zDit.cells := ⟨_, rfl⟩
  have hZl : Z.size = 105 := by rw [hZ]; rfl
  have hidl : (u8s e.st.id).toList.length = 32 := by rw [u8s_lenS, hid]
  have h1 : (u8s e.st.id).toList.zipIdx.foldl (fun cs (x : Value × Nat) => cs.setIfInBounds (0 + x.snd) x.fst) Z = ([] ++ ((u8s e.st.id).toList ++ Z.toList.drop 32)).toArray := by
    refine fold_mid 0 _ [] (u8s e.st.id).toList (Z.toList.drop 32) rfl (by rw [List.length_drop, hidl, Array.length_toList, hZl]) (fun i hi => absurd hi (by omega)) (fun i => ?_)
    rw [hidl, List.getElem?_drop, Array.getElem?_toList, Nat.zero_add]
  have hd32 : Z.toList.drop 32 = Z.toList[32]'(by rw [Array.length_toList, hZl]; omega) :: Z.toList.drop 33 := List.drop_eq_getElem_cons (by rw [Array.length_toList, hZl]; omega)
  have h2 : (([] : List Value) ++ ((u8s e.st.id).toList ++ Z.toList.drop 32)).toArray.setIfInBounds 32 (.string (B e.st.text)) = ((u8s e.st.id).toList ++ Value.string (B e.st.text) :: Z.toList.drop 33).toArray := by
    rw [List.nil_append, List.setIfInBounds_toArray, List.set_append_right _ _ (by omega), hidl, hd32]
    rfl
  have h3 : (objC e.o e.ve e.vp).zipIdx.foldl (fun cs (x : Value × Nat) => cs.setIfInBounds (33 + x.snd) x.fst) ((u8s e.st.id).toList ++ Value.string (B e.st.text) :: Z.toList.drop 33).toArray = (((u8s e.st.id).toList ++ [Value.string (B e.st.text)]) ++ (objC e.o e.ve e.vp ++ [])).toArray := by
    refine fold_mid 33 _ ((u8s e.st.id).toList ++ [Value.string (B e.st.text)]) (objC e.o e.ve e.vp) [] (by rw [List.length_append, hidl]; rfl) ?_ (fun i hi => ?_) (fun i => ?_)
    · rw [List.size_toArray, List.length_append, hidl, List.length_cons, List.length_drop, Array.length_toList, hZl, hO]; rfl
    · rw [List.getElem?_toArray, show (u8s e.st.id).toList ++ Value.string (B e.st.text) :: Z.toList.drop 33 = ((u8s e.st.id).toList ++ [Value.string (B e.st.text)]) ++ Z.toList.drop 33 from by simp, List.getElem?_append_left (by rw [List.length_append, hidl]; exact hi)]
    · rw [List.getElem?_toArray, hO, List.getElem?_eq_none (by rw [List.length_append, hidl, List.length_cons, List.length_drop, Array.length_toList, hZl]; omega)]
      rfl
  simp only [Instr.fill, g0, g1, g2, e0, e1, e2]
  rw [← hZ, f0, if_neg (by simp [u8s_size, hid, hZl]), h1, f1, if_neg (by simp [hidl, hZl]), h2, f2, if_neg (by simp [hidl, hZl, hO]), h3]
  congr 1
  unfold ditC
  simp
/-- The document's list while it is laid anew: k items seen; nw stands at p. -/
def accL (es : List DiL) (nw : DiL) (p k : Nat) : List DiL := if p < k then es.take p ++ [nw] ++ (es.take k).drop p else es.take k
theorem acc_before {es : List DiL} {nw x : DiL} {p k : Nat} (hx : es[k]? = some x) (h : k < p) : accL es nw p (k + 1) = accL es nw p k ++ [x] := by
  unfold accL
  rw [if_neg (by omega), if_neg (by omega), List.take_add_one, hx]
  rfl
theorem acc_at {es : List DiL} {nw x : DiL} {p : Nat} (hx : es[p]? = some x) : accL es nw p (p + 1) = accL es nw p p ++ [nw] ++ [x] := by
  have hlt := (List.getElem?_eq_some_iff.1 hx).1
  unfold accL
  rw [if_pos (by omega), if_neg (by omega), List.take_add_one, hx]
  congr 1
  rw [List.drop_append, List.drop_eq_nil_of_le (by rw [List.length_take]; omega), List.length_take, Nat.min_eq_left (by omega), Nat.sub_self]
  rfl
theorem acc_behind {es : List DiL} {nw x : DiL} {p k : Nat} (hx : es[k]? = some x) (h : p < k) : accL es nw p (k + 1) = accL es nw p k ++ [x] := by
  have hlt := (List.getElem?_eq_some_iff.1 hx).1
  unfold accL
  rw [if_pos (by omega), if_pos h, List.take_add_one, hx, List.drop_append_of_le_length (by rw [List.length_take]; omega), List.append_assoc, List.append_assoc, List.append_assoc]
  rfl
theorem acc_end {es : List DiL} {nw : DiL} {p : Nat} (h : p < es.length) : accL es nw p es.length = es.take p ++ [nw] ++ es.drop p := by
  unfold accL
  rw [if_pos h, List.take_length]
theorem acc_last {es : List DiL} {nw : DiL} : accL es nw es.length es.length ++ [nw] = es.take es.length ++ [nw] ++ es.drop es.length := by
  unfold accL
  rw [if_neg (by omega), List.drop_length, List.append_nil]
theorem acc_len (es : List DiL) (nw : DiL) (p k : Nat) : (accL es nw p k).length ≤ es.length + 1 := by
  unfold accL
  split
  · simp only [List.length_append, List.length_take, List.length_drop, List.length_cons, List.length_nil]; omega
  · rw [List.length_take]; omega
theorem acc_mem {es : List DiL} {nw e : DiL} {p k : Nat} (h : e ∈ accL es nw p k) : e ∈ es ∨ e = nw := by
  unfold accL at h
  split at h
  · rcases List.mem_append.1 h with h | h
    · rcases List.mem_append.1 h with h | h
      · exact .inl (List.mem_of_mem_take h)
      · exact .inr (List.mem_singleton.1 h)
    · exact .inl (List.mem_of_mem_take (List.mem_of_mem_drop h))
  · exact .inl (List.mem_of_mem_take h)
theorem OwnDits.more {w : World} {B : Nat} {v : Value} {l : List DiL} {x : DiL} (h : w.ownsRow B 57 105 v (l.length + 1) (rowsOf ditC l ++ (ditC x).toArray.toList)) : OwnDits w B v (l ++ [x]) := by
  unfold OwnDits
  rw [rowsOf_append, rowsOf_one, List.length_append]
  rwa [List.toList_toArray] at h
end Go.Proofs.YtnehabcopjgklaaDoor
/- The walk of layer 4's document: guess at a tree. Condition: a text that is not great. -/
namespace Go.Proofs.YtnehabcopjgklaaDoor
open Go.RowKit
attribute [local go_sem ↓] ldvO_eq
theorem fold_at (q : Nat) (c0 : Array Value) (pre : List Value) (l : List Value) (hq : pre.length = q) (h0 : c0.size = q + l.length) (hp : ∀ i, i < q → c0[i]? = pre[i]?) :
    (l.zipIdx 0).foldl (fun cs (x : Value × Nat) => cs.setIfInBounds (q + x.2) x.1) c0 = (pre ++ l).toArray := by
  obtain ⟨h1, h2⟩ := Great.foldl_set q l 0 c0
  apply Array.ext_getElem?
  intro k
  rw [h2 k]
  by_cases hk : k < q
  · rw [if_neg (by omega), hp k hk]
    simp [List.getElem?_append_left (show k < pre.length by omega)]
  · by_cases hk2 : k < q + l.length
    · rw [if_pos ⟨by omega, by omega, by omega⟩]
      simp [List.getElem?_append_right (show pre.length ≤ k by omega), hq]
    · rw [if_neg (by omega), Array.getElem?_eq_none (by omega)]
      symm
      rw [Array.getElem?_eq_none (by simp; omega)]
theorem zEnt_cells : zEnt.cells.size = 34 := rfl
set_option maxRecDepth 100000 in
theorem built_entry (n : Txt) (k : Int) (id : Txt) (hid : id.length = 32) : Tryd.prog.built 76 [(1, .int .i64 k), (0, .string (B n)), (2, .agg (u8s id))] = some (entC ⟨n, k, id⟩).toArray := by
  obtain ⟨it, hi, hz, hs, hb⟩ := Tryd.entTy.hi
  have hpl : (match Tryd.prog.underlying 76 with | some (.struct fields) => fields.toList.mapM (fun f => (Tryd.prog.info? f.type).map fun i => (f.offset, i.size)) | _ => none) = some [(0, 1), (1, 1), (2, 32)] := by kernel_rfl
  have hu := Tryd.underlying76
  rw [hu] at hpl
  unfold Program.built
  rw [hi, hu]
  simp only [hz]
  simp only at hpl
  rw [hpl]
  have h34 := zEnt_cells
  have e0 : (Value.string (B n)).cells = #[.string (B n)] := rfl
  have e1 : (Value.int .i64 k).cells = #[.int .i64 k] := rfl
  have e2 : (Value.agg (u8s id)).cells = u8s id := rfl
  have f0 : ∀ c : Array Value, Array.foldl (fun cs (x : Value × Nat) => cs.setIfInBounds (0 + x.snd) x.fst) c (#[.string (B n)] : Array Value).zipIdx = c.setIfInBounds 0 (.string (B n)) := fun c => rfl
  have f1 : ∀ c : Array Value, Array.foldl (fun cs (x : Value × Nat) => cs.setIfInBounds (1 + x.snd) x.fst) c (#[.int .i64 k] : Array Value).zipIdx = c.setIfInBounds 1 (.int .i64 k) := fun c => rfl
  have f2 : ∀ c : Array Value, Array.foldl (fun cs (x : Value × Nat) => cs.setIfInBounds (2 + x.snd) x.fst) c (u8s id).zipIdx = (id.map u8v).zipIdx.foldl (fun cs (x : Value × Nat) => cs.setIfInBounds (2 + x.snd) x.fst) c := fun c => by
    rw [← Array.foldl_toList, Array.toList_zipIdx]
    rfl
  have g0 : (#[(0, 1), (1, 1), (2, 32)] : Array (Nat × Nat))[0]? = some (0, 1) := rfl
  have g1 : (#[(0, 1), (1, 1), (2, 32)] : Array (Nat × Nat))[1]? = some (1, 1) := rfl
  have g2 : (#[(0, 1), (1, 1), (2, 32)] : Array (Nat × Nat))[2]? = some (2, 32) := rfl
  have hfin : (id.map u8v).zipIdx.foldl (fun cs (x : Value × Nat) => cs.setIfInBounds (2 + x.snd) x.fst) ((zEnt.cells.setIfInBounds 1 (.int .i64 k)).setIfInBounds 0 (.string (B n))) = (entC ⟨n, k, id⟩).toArray := by
    rw [fold_at 2 _ [.string (B n), .int .i64 k] (id.map u8v) rfl (by rw [Array.size_setIfInBounds, Array.size_setIfInBounds, h34, List.length_map, hid]) (fun i hi => by
      rw [Array.getElem?_setIfInBounds, Array.getElem?_setIfInBounds]
      match i, hi with
      | 0, _ => simp [h34]
      | 1, _ => simp [h34])]
    unfold entC
    rw [show (u8s id).toList = id.map u8v from by simp [u8s]]
    rfl
  simp only [Instr.fill, g0, g1, g2, e0, e1, e2]
  rw [f1, if_neg (by simp [h34]), f0, if_neg (by simp [h34]), f2, if_neg (by simp [u8s_size, hid, h34]), hfin]
theorem takeN_le (s : Txt) : (takeN s).2 ≤ s.length ∧ (takeN s).1.length ≤ s.length := by
  by_cases h : (getN s).2 = 0
  · rw [takeN_zero h]; simp
  · by_cases h2 : s.length - (getN s).2 < (getN s).1
    · rw [takeN_short h h2]; simp
    · rw [takeN_yes h (by omega)]
      have := getN_le s
      simp
      omega
/-- What lies there while an object is guessed: the result's cells, and all that was. -/
structure GsI (w : World) (W : World) : Prop where
  z : Blk W w.heap.size 41 zObj
  bel : Below w.heap.size w W
theorem GsI.below {w W W' : World} (h : GsI w W) (hb : Below W.heap.size W W') : GsI w W' := ⟨h.z.below hb h.z.lt, bthen h.bel h.bel.size hb⟩
theorem GsI.low {w W W' : World} {B0 : Nat} (h : GsI w W) (hB : w.heap.size < B0) (hb : Below B0 W W') : GsI w W' := ⟨(hb.block _ hB).trans h.z, h.bel.trans (hb.mono (Nat.le_of_lt hB))⟩
theorem GsI.set_ {w W : World} (h : GsI w W) {g o : Nat} (hg : w.heap.size < g) (v : Value) : GsI w (W.setCell ⟨g, o, none⟩ v) := ⟨h.z.far (by simp; omega) v, h.bel.setCell (Nat.le_of_lt hg) v⟩
theorem GsI.cells_ {w W : World} (h : GsI w W) {g o : Nat} (hg : w.heap.size < g) (vs : List Value) : GsI w (W.setCells g o vs) :=
  ⟨(Far.cells (S := [some g]) (g := g) (.inl (by simp)) vs o W (Far.refl _ W)).blk h.z (by simp; omega), h.bel.trans ((Far.cells (S := [some g]) (g := g) (.inl (by simp)) vs o W (Far.refl _ W)).below h.bel.size (fun k hk => by simp at hk; omega))⟩
/-- What guess returns. -/
def GsR (o : ObjL) (w : World) (e : Ending) (w' : World) : Prop := (∃ A1 A2 k1 k2, e = .returned (.agg (objC o (.slice A1 o.ents.length k1) (.slice A2 o.pars.length k2)).toArray) ∧ ObjV w' (.slice A1 o.ents.length k1) (.slice A2 o.pars.length k2) o ∧ OwnEnts w' w.heap.size (.slice A1 o.ents.length k1) o.ents ∧ OwnIds w' w.heap.size (.slice A2 o.pars.length k2) o.pars) ∧ Below w.heap.size w w'
/-- The object is read out and returned. -/
theorem GsR.of {w W : World} {B0 : Nat} {o : ObjL} {ve vp : Value} (ho : ObjOk o) (hz : GsI w W) (he : OwnEnts W B0 ve o.ents) (hp : OwnIds W B0 vp o.pars) (hB : w.heap.size < B0) :
    GsR o w (.returned (.agg (objC o ve vp).toArray)) (W.setRow w.heap.size (objC o ve vp).toArray) := by
  have hv := objV_row ho he hp hB (objC o ve vp).toArray
  obtain ⟨A1, k1, e1, _⟩ := hv.ents
  obtain ⟨A2, k2, e2, _⟩ := hv.pars
  subst e1 e2
  exact ⟨⟨A1, A2, k1, k2, rfl, hv, own_low' (own_row he hB _) (Nat.le_of_lt hB), own_low' (own_row hp hB _) (Nat.le_of_lt hB)⟩, below_setRow hz.bel (Nat.le_refl _) _⟩
theorem zero_smallG : Small zeroO := ⟨by decide, by simp [zeroO], by decide, by decide, by decide, by decide⟩
theorem zero_okG (w : World) : ObjV w (.slice none 0 0) (.slice none 0 0) zeroO := ⟨⟨noId_len, noId_len, by simp [zeroO], by simp [zeroO], by decide, by decide, by decide, by decide, by decide, by decide, by decide, by decide⟩, SliceAt.nil, SliceAt.nil⟩
theorem objC_all' (o : ObjL) {ve vp : Value} {W : World} {B0 : Nat} (he : OwnEnts W B0 ve o.ents) (hp : OwnIds W B0 vp o.pars) : (objC o ve vp).toArray.all (·.oneCell') = true := by
  obtain ⟨A1, k1, rfl⟩ := own_form' he
  obtain ⟨A2, k2, rfl⟩ := own_form' hp
  exact objC_all o A1 A2 _ k1 _ k2
end Go.Proofs.YtnehabcopjgklaaDoor
/- The walks of layer 4's document: guess at a blob, a tag, another thing, and at nothing. Condition: a text that is not great. -/
namespace Go.Proofs.YtnehabcopjgklaaDoor
open Go.RowKit
attribute [local go_sem ↓] ldvO_eq
theorem ObjB.drewN {w : World} {g : Nat} {o : ObjL} {ve vp : Value} (h : ObjB w g o ve vp) (n : Nat) : ObjB (w.drewN n) g o ve vp := ⟨h.blk.drewN n, h.tr, h.ta⟩
theorem GsI.drewN {w W : World} (h : GsI w W) (n : Nat) : GsI w (W.drewN n) := ⟨h.z.drewN n, bdrewN h.bel n⟩
theorem plainO_ok (n : Int) (hn : 0 ≤ n) (hn2 : n < 256) (t : Txt) (ht : t.length ≤ 5000) : ObjOk ⟨n, t, [], noId, [], 0, [], noId, 0, []⟩ :=
  ⟨noId_len, noId_len, (fun _ h => by cases h), (fun _ h => by cases h), by show t.length ≤ _; omega, by simp, by simp, by simp, by show _ ≤ n; omega, by show n ≤ _; omega, by simp, by simp⟩
theorem tagO_ok (i : Txt) (hi : i.length = 32) (n : Int) (hn : 0 ≤ n) (hn2 : n < 256) (t : Txt) (ht : t.length ≤ 5000) : ObjOk ⟨4, [], [], noId, [], 0, [], i, n, t⟩ :=
  ⟨noId_len, hi, (fun _ h => by cases h), (fun _ h => by cases h), by simp, by simp, by show t.length ≤ _; omega, by simp, by simp, by simp, by show _ ≤ n; omega, by show n ≤ _; omega⟩
set_option maxRecDepth 100000 in
set_option maxHeartbeats 4000000 in
theorem guess_blob (c : UInt8) (q : Txt) (hl : q.length ≤ 5000) (hk : c.toNat = 1) (hn0 : ¬ (takeN q).2 = 0) (w : World) : Calls Tryd.prog 50 #[.string (B (c :: q))] w fun e w' => GsR ⟨1, (takeN q).1, [], noId, [], 0, [], noId, 0, []⟩ w e w' := by
  have HK := Lib.hid hk
  clear hk
  have hzv := zeroObj
  have hzl : zObj.size = 72 := zObj_size
  have htl : (takeN q).1.length ≤ q.length := (takeN_le q).2
  have htk : ∀ W, Calls Tryd.prog 73 #[.string (B q)] W fun e w' => e = .returned (.tuple #[.string (B (takeN q).1), .int .i64 (takeN q).2]) ∧ W = w' := fun W => (refTake_calls q (by omega) W).mono fun _ _ h => ⟨h.1, h.2.symm⟩
  generalize (takeN q).1 = t at *
  generalize (takeN q).2 = kn at *
  have hki : ((kn : Int) == 0) = false := by simp; omega
  have hex : (B (c :: q)).extract 1 (q.length + 1) = B q := by
    rw [extract_B]
    simp
  obtain ⟨W1, hW1⟩ : ∃ W1, w.alloc (.cells zObj 41) = W1 := ⟨_, rfl⟩
  have hx1 : Blk W1 w.heap.size 41 zObj := by rw [← hW1]; exact Blk.new _ _ _
  have b1 : Below w.heap.size w W1 := by rw [← hW1]; exact (Below.refl _ _).alloc (Nat.le_refl _) _
  have hs1 : w.heap.size < W1.heap.size := by rw [← hW1]; simp
  have htk := Lib.hid htk
  have hc0 : 0 ≤ (c.toNat : Int) := by omega
  have hc1 : (c.toNat : Int) < 256 := by have := c.toNat_lt; omega
  have hbd := built_kobj (c.toNat : Int)
  have e72 : (objC ⟨c.toNat, [], [], noId, [], 0, [], noId, 0, []⟩ (.slice none 0 0) (.slice none 0 0)).toArray.size = 72 := by rw [List.size_toArray]; unfold objC; simp only [List.length_cons, List.length_append, u8s_len, noId_len, List.length_nil]
  have eone : (objC ⟨c.toNat, [], [], noId, [], 0, [], noId, 0, []⟩ (.slice none 0 0) (.slice none 0 0)).toArray.all (·.oneCell') = true := by kernel_rfl
  obtain ⟨X, hX⟩ : ∃ X, Hid ((⟨1, t, [], noId, [], 0, [], noId, 0, []⟩ : ObjL) = X) := ⟨_, Lib.hid rfl⟩
  rw [hX.out]
  go_enter Tryd.func50, Tryd.ntmps50
  go_upto_if 26 with (first
    | ((with_reducible refine lit_build1 hbd ?_ ?_); rfl)
    | ((with_reducible refine lit_new 41 (.tmp 3) (.tmp 18) (objC ⟨c.toNat, [], [], noId, [], 0, [], noId, 0, []⟩ (.slice none 0 0) (.slice none 0 0)).toArray 72 szObj e72 eone _ ?_ ?_ ?_ ?_)
       · first | exact hzl | rfl
       · rfl
       · rfl
       intro W2 hb2 hbl2
       have hO2 : ObjB W2 W1.heap.size ⟨c.toNat, [], [], noId, [], 0, [], noId, 0, []⟩ (.slice none 0 0) (.slice none 0 0) := ⟨hb2, noId_len, noId_len⟩
       have hI2 : GsI w W2 := ⟨hx1.below hbl2 hx1.lt, bthen b1 b1.size hbl2⟩
       have hgOB : W1.heap.size < W2.heap.size := hb2.lt
       have tk2 := htk.out W2
       have tk2 := Lib.hid tk2
       clear hx1 b1 hb2 hbl2)
    | ((with_reducible refine tk2.out.mono ?_); rintro e w3 ⟨rfl, rfl⟩
       clear tk2))
  have ck := hO2.kind
  simp only at ck
  have hsO := hs1
  clear hW1 hbd e72 eone hs1
  generalize W1.heap.size = gO at *
  obtain ⟨BB, hBB⟩ : ∃ BB, BB = W2.heap.size := ⟨_, rfl⟩
  rw [← hBB] at hgOB
  have hnE : OwnEnts W2 BB (.slice none 0 0) [] := World.ownsRow_nil _ _ _ _
  have hnP : OwnIds W2 BB (.slice none 0 0) [] := World.ownsRow_nil _ _ _ _
  have hBs : BB ≤ W2.heap.size := by omega
  have hwB : w.heap.size < BB := by omega
  clear hBB
  rw [HK.out] at hO2 ck
  have hki2 : (c.toNat : Int) = 1 := by rw [HK.out]; rfl
  clear hc0 hc1
  have f1 := hO2.fr 1
  have d1 := hO2.data
  have hO3 : ObjB _ gO ⟨1, t, [], noId, [], 0, [], noId, 0, []⟩ _ _ := hO2.setData t
  have hI3 := hI2.set_ (o := 1) hsO (.string (B t))
  have hnE3 := own_set (p := ⟨gO, 1, none⟩) hnE hgOB (.string (B t))
  have hnP3 := own_set (p := ⟨gO, 1, none⟩) hnP hgOB (.string (B t))
  have hok : ObjOk (⟨1, t, [], noId, [], 0, [], noId, 0, []⟩ : ObjL) := plainO_ok 1 (by omega) (by omega) t (by omega)
  have hzF := hI3.z
  have hfin := Lib.hid (GsR.of hok hI3 hnE3 hnP3 hwB)
  have hq := run_ldvO hO3 hok
  have hc72 : (objC (⟨1, t, [], noId, [], 0, [], noId, 0, []⟩ : ObjL) (.slice none 0 0) (.slice none 0 0)).toArray.size = 72 := by rw [List.size_toArray, objC_len hok]
  have hcone := objC_all' (⟨1, t, [], noId, [], 0, [], noId, 0, []⟩ : ObjL) hnE3 hnP3
  clear hI3 hI2 hO2 hO3 hnE hnP hnE3 hnP3
  generalize hcs : (objC (⟨1, t, [], noId, [], 0, [], noId, 0, []⟩ : ObjL) (.slice none 0 0) (.slice none 0 0)).toArray = cs at *
  have HC := Lib.hid hcs
  clear hcs
  have hcsz : (Tryd.prog.info? 41).map (·.size) = some cs.size := by rw [hc72]; exact szObj
  go_wp2_with (first
    | (refine wpList_store_row rfl 41 (.tmp 2) (.tmp 138) rfl w.heap.size cs rfl rfl _ _ hzF hcsz (by rw [hzl, hc72]) hcone ?_))
  exact bodyPost_ret (results_cell_row rfl _ _ w.heap.size _ _ _ _ rfl (setRow_heap _ _ _ _ _ _ hzF) Tryd.underlying41 rfl hcsz) rfl (by rw [← hX.out]; exact hfin.out)
set_option maxRecDepth 100000 in
set_option maxHeartbeats 4000000 in
theorem guess_other (c : UInt8) (q : Txt) (hl : q.length ≤ 5000) (hk : c.toNat ≠ 1 ∧ c.toNat ≠ 2 ∧ c.toNat ≠ 3 ∧ c.toNat ≠ 4) (hn0 : ¬ (takeN q).2 = 0) (w : World) : Calls Tryd.prog 50 #[.string (B (c :: q))] w fun e w' => GsR (nObj c.toNat) w e w' := by
  have HK := Lib.hid hk
  clear hk
  have hzv := zeroObj
  have hzl : zObj.size = 72 := zObj_size
  have htl : (takeN q).1.length ≤ q.length := (takeN_le q).2
  have htk : ∀ W, Calls Tryd.prog 73 #[.string (B q)] W fun e w' => e = .returned (.tuple #[.string (B (takeN q).1), .int .i64 (takeN q).2]) ∧ W = w' := fun W => (refTake_calls q (by omega) W).mono fun _ _ h => ⟨h.1, h.2.symm⟩
  generalize (takeN q).1 = t at *
  generalize (takeN q).2 = kn at *
  have hki : ((kn : Int) == 0) = false := by simp; omega
  have hex : (B (c :: q)).extract 1 (q.length + 1) = B q := by
    rw [extract_B]
    simp
  obtain ⟨W1, hW1⟩ : ∃ W1, w.alloc (.cells zObj 41) = W1 := ⟨_, rfl⟩
  have hx1 : Blk W1 w.heap.size 41 zObj := by rw [← hW1]; exact Blk.new _ _ _
  have b1 : Below w.heap.size w W1 := by rw [← hW1]; exact (Below.refl _ _).alloc (Nat.le_refl _) _
  have hs1 : w.heap.size < W1.heap.size := by rw [← hW1]; simp
  have htk := Lib.hid htk
  have hc0 : 0 ≤ (c.toNat : Int) := by omega
  have hc1 : (c.toNat : Int) < 256 := by have := c.toNat_lt; omega
  have hbd := built_kobj (c.toNat : Int)
  have e72 : (objC ⟨c.toNat, [], [], noId, [], 0, [], noId, 0, []⟩ (.slice none 0 0) (.slice none 0 0)).toArray.size = 72 := by rw [List.size_toArray]; unfold objC; simp only [List.length_cons, List.length_append, u8s_len, noId_len, List.length_nil]
  have eone : (objC ⟨c.toNat, [], [], noId, [], 0, [], noId, 0, []⟩ (.slice none 0 0) (.slice none 0 0)).toArray.all (·.oneCell') = true := by kernel_rfl
  obtain ⟨X, hX⟩ : ∃ X, Hid (nObj c.toNat = X) := ⟨_, Lib.hid rfl⟩
  rw [hX.out]
  go_enter Tryd.func50, Tryd.ntmps50
  go_upto_if 26 with (first
    | ((with_reducible refine lit_build1 hbd ?_ ?_); rfl)
    | ((with_reducible refine lit_new 41 (.tmp 3) (.tmp 18) (objC ⟨c.toNat, [], [], noId, [], 0, [], noId, 0, []⟩ (.slice none 0 0) (.slice none 0 0)).toArray 72 szObj e72 eone _ ?_ ?_ ?_ ?_)
       · first | exact hzl | rfl
       · rfl
       · rfl
       intro W2 hb2 hbl2
       have hO2 : ObjB W2 W1.heap.size ⟨c.toNat, [], [], noId, [], 0, [], noId, 0, []⟩ (.slice none 0 0) (.slice none 0 0) := ⟨hb2, noId_len, noId_len⟩
       have hI2 : GsI w W2 := ⟨hx1.below hbl2 hx1.lt, bthen b1 b1.size hbl2⟩
       have hgOB : W1.heap.size < W2.heap.size := hb2.lt
       have tk2 := htk.out W2
       have tk2 := Lib.hid tk2
       clear hx1 b1 hb2 hbl2)
    | ((with_reducible refine tk2.out.mono ?_); rintro e w3 ⟨rfl, rfl⟩
       clear tk2))
  have ck := hO2.kind
  simp only at ck
  have hsO := hs1
  clear hW1 hbd e72 eone hs1
  generalize W1.heap.size = gO at *
  obtain ⟨BB, hBB⟩ : ∃ BB, BB = W2.heap.size := ⟨_, rfl⟩
  rw [← hBB] at hgOB
  have hnE : OwnEnts W2 BB (.slice none 0 0) [] := World.ownsRow_nil _ _ _ _
  have hnP : OwnIds W2 BB (.slice none 0 0) [] := World.ownsRow_nil _ _ _ _
  have hBs : BB ≤ W2.heap.size := by omega
  have hwB : w.heap.size < BB := by omega
  clear hBB
  have k1 : ((c.toNat : Int) == 1) = false := by have := HK.out.1; simp; omega
  have k2 : ((c.toNat : Int) == 2) = false := by have := HK.out.2.1; simp; omega
  have k3 : ((c.toNat : Int) == 3) = false := by have := HK.out.2.2.1; simp; omega
  have k4 : ((c.toNat : Int) == 4) = false := by have := HK.out.2.2.2; simp; omega
  have hok : ObjOk (⟨c.toNat, [], [], noId, [], 0, [], noId, 0, []⟩ : ObjL) := plainO_ok c.toNat hc0 hc1 [] (by simp)
  have hzF := hI2.z
  have hfin := Lib.hid (GsR.of hok hI2 hnE hnP hwB)
  have hq := run_ldvO hO2 hok
  have hc72 : (objC (⟨c.toNat, [], [], noId, [], 0, [], noId, 0, []⟩ : ObjL) (.slice none 0 0) (.slice none 0 0)).toArray.size = 72 := by rw [List.size_toArray, objC_len hok]
  have hcone := objC_all' (⟨c.toNat, [], [], noId, [], 0, [], noId, 0, []⟩ : ObjL) hnE hnP
  clear hI2 hO2 hnE hnP
  generalize hcs : (objC (⟨c.toNat, [], [], noId, [], 0, [], noId, 0, []⟩ : ObjL) (.slice none 0 0) (.slice none 0 0)).toArray = cs at *
  have HC := Lib.hid hcs
  clear hcs
  have hcsz : (Tryd.prog.info? 41).map (·.size) = some cs.size := by rw [hc72]; exact szObj
  go_wp2_with (first
    | (refine wpList_store_row rfl 41 (.tmp 2) (.tmp 138) rfl w.heap.size cs rfl rfl _ _ hzF hcsz (by rw [hzl, hc72]) hcone ?_))
  exact bodyPost_ret (results_cell_row rfl _ _ w.heap.size _ _ _ _ rfl (setRow_heap _ _ _ _ _ _ hzF) Tryd.underlying41 rfl hcsz) rfl (by rw [← hX.out]; exact hfin.out)
set_option maxRecDepth 100000 in
set_option maxHeartbeats 4000000 in
theorem guess_tag (c : UInt8) (q : Txt) (hl : q.length ≤ 5000) (hk : c.toNat = 4) (hn0 : ¬ (takeN q).2 = 0) (w : World) : Calls Tryd.prog 50 #[.string (B (c :: q))] w fun e w' => GsR (gTag (takeN q).1) w e w' := by
  have HK := Lib.hid hk
  clear hk
  have hzv := zeroObj
  have hzl : zObj.size = 72 := zObj_size
  have htl : (takeN q).1.length ≤ q.length := (takeN_le q).2
  have htk : ∀ W, Calls Tryd.prog 73 #[.string (B q)] W fun e w' => e = .returned (.tuple #[.string (B (takeN q).1), .int .i64 (takeN q).2]) ∧ W = w' := fun W => (refTake_calls q (by omega) W).mono fun _ _ h => ⟨h.1, h.2.symm⟩
  generalize (takeN q).1 = t at *
  generalize (takeN q).2 = kn at *
  have hki : ((kn : Int) == 0) = false := by simp; omega
  have hex : (B (c :: q)).extract 1 (q.length + 1) = B q := by
    rw [extract_B]
    simp
  obtain ⟨W1, hW1⟩ : ∃ W1, w.alloc (.cells zObj 41) = W1 := ⟨_, rfl⟩
  have hx1 : Blk W1 w.heap.size 41 zObj := by rw [← hW1]; exact Blk.new _ _ _
  have b1 : Below w.heap.size w W1 := by rw [← hW1]; exact (Below.refl _ _).alloc (Nat.le_refl _) _
  have hs1 : w.heap.size < W1.heap.size := by rw [← hW1]; simp
  have htk := Lib.hid htk
  have hc0 : 0 ≤ (c.toNat : Int) := by omega
  have hc1 : (c.toNat : Int) < 256 := by have := c.toNat_lt; omega
  have hbd := built_kobj (c.toNat : Int)
  have e72 : (objC ⟨c.toNat, [], [], noId, [], 0, [], noId, 0, []⟩ (.slice none 0 0) (.slice none 0 0)).toArray.size = 72 := by rw [List.size_toArray]; unfold objC; simp only [List.length_cons, List.length_append, u8s_len, noId_len, List.length_nil]
  have eone : (objC ⟨c.toNat, [], [], noId, [], 0, [], noId, 0, []⟩ (.slice none 0 0) (.slice none 0 0)).toArray.all (·.oneCell') = true := by kernel_rfl
  obtain ⟨X, hX⟩ : ∃ X, Hid (gTag t = X) := ⟨_, Lib.hid rfl⟩
  rw [hX.out]
  go_enter Tryd.func50, Tryd.ntmps50
  go_upto_if 26 with (first
    | ((with_reducible refine lit_build1 hbd ?_ ?_); rfl)
    | ((with_reducible refine lit_new 41 (.tmp 3) (.tmp 18) (objC ⟨c.toNat, [], [], noId, [], 0, [], noId, 0, []⟩ (.slice none 0 0) (.slice none 0 0)).toArray 72 szObj e72 eone _ ?_ ?_ ?_ ?_)
       · first | exact hzl | rfl
       · rfl
       · rfl
       intro W2 hb2 hbl2
       have hO2 : ObjB W2 W1.heap.size ⟨c.toNat, [], [], noId, [], 0, [], noId, 0, []⟩ (.slice none 0 0) (.slice none 0 0) := ⟨hb2, noId_len, noId_len⟩
       have hI2 : GsI w W2 := ⟨hx1.below hbl2 hx1.lt, bthen b1 b1.size hbl2⟩
       have hgOB : W1.heap.size < W2.heap.size := hb2.lt
       have tk2 := htk.out W2
       have tk2 := Lib.hid tk2
       clear hx1 b1 hb2 hbl2)
    | ((with_reducible refine tk2.out.mono ?_); rintro e w3 ⟨rfl, rfl⟩
       clear tk2))
  have ck := hO2.kind
  simp only at ck
  have hsO := hs1
  clear hW1 hbd e72 eone hs1
  generalize W1.heap.size = gO at *
  obtain ⟨BB, hBB⟩ : ∃ BB, BB = W2.heap.size := ⟨_, rfl⟩
  rw [← hBB] at hgOB
  have hnE : OwnEnts W2 BB (.slice none 0 0) [] := World.ownsRow_nil _ _ _ _
  have hnP : OwnIds W2 BB (.slice none 0 0) [] := World.ownsRow_nil _ _ _ _
  have hBs : BB ≤ W2.heap.size := by omega
  have hwB : w.heap.size < BB := by omega
  clear hBB
  rw [HK.out] at hO2 ck
  have hki2 : (c.toNat : Int) = 4 := by rw [HK.out]; rfl
  clear hc0 hc1
  have hXX : Hid ((⟨4, [], [], noId, [], 0, [], idG (t.drop 1), (t.headD 0).toNat, (takeN ((t.drop 1).drop 32)).1⟩ : ObjL) = X) := hX.out
  clear hX
  have hX := hXX
  clear hXX
  have hc8 : (t.headD 0).toNat < 256 := (t.headD 0).toNat_lt
  have hb1 : ∀ W, Calls Tryd.prog 74 #[.string (B t), .int .i64 1] W fun e w' => e = .returned (.string (B (t.drop 1))) ∧ ∃ nq, w' = W.drewN nq := fun W => behind_calls t 1 (by omega) (by omega) W
  have hd1 : (t.drop 1).length ≤ t.length := by rw [List.length_drop]; omega
  have hd2 : ((t.drop 1).drop 32).length ≤ t.length := by rw [List.length_drop, List.length_drop]; omega
  have hb2 : ∀ W, Calls Tryd.prog 74 #[.string (B (t.drop 1)), .int .i64 32] W fun e w' => e = .returned (.string (B ((t.drop 1).drop 32))) ∧ ∃ nq, w' = W.drewN nq := fun W => behind_calls (t.drop 1) 32 (by omega) (by omega) W
  have hgi := fun W => Lib.hid (gid_calls (t.drop 1) (by omega) W)
  have hi32 := idG_len (t.drop 1)
  have htk2 : ∀ W, Calls Tryd.prog 73 #[.string (B ((t.drop 1).drop 32))] W fun e w' => e = .returned (.tuple #[.string (B (takeN ((t.drop 1).drop 32)).1), .int .i64 (takeN ((t.drop 1).drop 32)).2]) ∧ W = w' := fun W => (refTake_calls ((t.drop 1).drop 32) (by omega) W).mono fun _ _ h => ⟨h.1, h.2.symm⟩
  have hnl := (takeN_le ((t.drop 1).drop 32)).2
  have hb1 := Lib.hid hb1
  have hb2 := Lib.hid hb2
  have htk2 := Lib.hid htk2
  generalize takeN ((t.drop 1).drop 32) = NM at *
  generalize (t.drop 1).drop 32 = R2 at *
  generalize idG (t.drop 1) = ID at *
  generalize t.drop 1 = R1 at *
  cases t with
  | nil =>
    go_upto_region 35 with (first
      | ((with_reducible refine (hb1.out _).mono ?_); rintro e w3 ⟨rfl, nq, rfl⟩
         have hO3 := (hO2).drewN nq
         have hI3 := (hI2).drewN nq)
      | ((with_reducible refine (hgi _).out.mono ?_); rintro e w4 ⟨rfl, hb4⟩
         have hO4 := hO3.below hb4
         have hI4 := hI3.below hb4
         have ht4 := hO4.there 38 32 (by omega)
         clear hO3 hI3)
      | ((with_reducible refine lit_store_id (.tmp 130) (.tmp 129) gO 38 ID hi32 ht4 ?_ ?_ ?_); rfl; rfl
         have hO5 := hO4.setTarget ID hi32
         have hI5 := hI4.cells_ (o := 38) hsO (u8s ID).toList
         clear hO4 hI4 ht4)
      | ((with_reducible refine (hb2.out _).mono ?_); rintro e w6 ⟨rfl, nq2, rfl⟩
         have hO6 := hO5.drewN nq2
         have hI6 := hI5.drewN nq2
         have f71 := hO6.fr 71
         have c71 := hO6.name
         clear hO5 hI5)
      | ((with_reducible refine (htk2.out _).mono ?_); rintro e w7 ⟨rfl, rfl⟩
         have hO7 := hO6.setName NM.1
         have hI7 := hI6.set_ (o := 71) hsO (.string (B NM.1))
         clear hO6 hI6))
    have hE7 : ∀ W, OwnEnts W BB (.slice none 0 0) [] := fun W => World.ownsRow_nil _ _ _ _
    have hP7 : ∀ W, OwnIds W BB (.slice none 0 0) [] := fun W => World.ownsRow_nil _ _ _ _
    have hok : ObjOk (⟨4, [], [], noId, [], 0, [], ID, 0, NM.1⟩ : ObjL) := tagO_ok ID hi32 0 (by omega) (by omega) NM.1 (by omega)
    have hzF := hI7.z
    have hfin := Lib.hid (GsR.of hok hI7 (hE7 _) (hP7 _) hwB)
    have hq := run_ldvO hO7 hok
    have hc72 : (objC (⟨4, [], [], noId, [], 0, [], ID, 0, NM.1⟩ : ObjL) (.slice none 0 0) (.slice none 0 0)).toArray.size = 72 := by rw [List.size_toArray, objC_len hok]
    have hcone := objC_all' (⟨4, [], [], noId, [], 0, [], ID, 0, NM.1⟩ : ObjL) (hE7 W2) (hP7 W2)
    clear hI7 hO7 hE7 hP7
    generalize hcs : (objC (⟨4, [], [], noId, [], 0, [], ID, 0, NM.1⟩ : ObjL) (.slice none 0 0) (.slice none 0 0)).toArray = cs at *
    have HC := Lib.hid hcs
    clear hcs
    have hcsz : (Tryd.prog.info? 41).map (·.size) = some cs.size := by rw [hc72]; exact szObj
    go_wp2_with (first
      | (refine wpList_store_row rfl 41 (.tmp 2) (.tmp 138) rfl w.heap.size cs rfl rfl _ _ hzF hcsz (by rw [hzl, hc72]) hcone ?_))
    exact bodyPost_ret (results_cell_row rfl _ _ w.heap.size _ _ _ _ rfl (setRow_heap _ _ _ _ _ _ hzF) Tryd.underlying41 rfl hcsz) rfl (by rw [← hX.out]; exact hfin.out)
  | cons d t1 =>
    have f70 := hO2.fr 70
    have c70 := hO2.of_
    have hd0 : 0 ≤ (d.toNat : Int) := by omega
    have hd1 : (d.toNat : Int) < 256 := by have := d.toNat_lt; omega
    have hOa := hO2.setOf d.toNat
    have hIa := hI2.set_ (o := 70) hsO (.int .i64 d.toNat)
    go_upto_region 35 with (first
      | ((with_reducible refine (hb1.out _).mono ?_); rintro e w3 ⟨rfl, nq, rfl⟩
         have hO3 := (hOa).drewN nq
         have hI3 := (hIa).drewN nq)
      | ((with_reducible refine (hgi _).out.mono ?_); rintro e w4 ⟨rfl, hb4⟩
         have hO4 := hO3.below hb4
         have hI4 := hI3.below hb4
         have ht4 := hO4.there 38 32 (by omega)
         clear hO3 hI3)
      | ((with_reducible refine lit_store_id (.tmp 130) (.tmp 129) gO 38 ID hi32 ht4 ?_ ?_ ?_); rfl; rfl
         have hO5 := hO4.setTarget ID hi32
         have hI5 := hI4.cells_ (o := 38) hsO (u8s ID).toList
         clear hO4 hI4 ht4)
      | ((with_reducible refine (hb2.out _).mono ?_); rintro e w6 ⟨rfl, nq2, rfl⟩
         have hO6 := hO5.drewN nq2
         have hI6 := hI5.drewN nq2
         have f71 := hO6.fr 71
         have c71 := hO6.name
         clear hO5 hI5)
      | ((with_reducible refine (htk2.out _).mono ?_); rintro e w7 ⟨rfl, rfl⟩
         have hO7 := hO6.setName NM.1
         have hI7 := hI6.set_ (o := 71) hsO (.string (B NM.1))
         clear hO6 hI6))
    have hE7 : ∀ W, OwnEnts W BB (.slice none 0 0) [] := fun W => World.ownsRow_nil _ _ _ _
    have hP7 : ∀ W, OwnIds W BB (.slice none 0 0) [] := fun W => World.ownsRow_nil _ _ _ _
    have hok : ObjOk (⟨4, [], [], noId, [], 0, [], ID, d.toNat, NM.1⟩ : ObjL) := tagO_ok ID hi32 d.toNat hd0 hd1 NM.1 (by omega)
    have hzF := hI7.z
    have hfin := Lib.hid (GsR.of hok hI7 (hE7 _) (hP7 _) hwB)
    have hq := run_ldvO hO7 hok
    have hc72 : (objC (⟨4, [], [], noId, [], 0, [], ID, d.toNat, NM.1⟩ : ObjL) (.slice none 0 0) (.slice none 0 0)).toArray.size = 72 := by rw [List.size_toArray, objC_len hok]
    have hcone := objC_all' (⟨4, [], [], noId, [], 0, [], ID, d.toNat, NM.1⟩ : ObjL) (hE7 W2) (hP7 W2)
    clear hI7 hO7 hE7 hP7
    generalize hcs : (objC (⟨4, [], [], noId, [], 0, [], ID, d.toNat, NM.1⟩ : ObjL) (.slice none 0 0) (.slice none 0 0)).toArray = cs at *
    have HC := Lib.hid hcs
    clear hcs
    have hcsz : (Tryd.prog.info? 41).map (·.size) = some cs.size := by rw [hc72]; exact szObj
    go_wp2_with (first
      | (refine wpList_store_row rfl 41 (.tmp 2) (.tmp 138) rfl w.heap.size cs rfl rfl _ _ hzF hcsz (by rw [hzl, hc72]) hcone ?_))
    exact bodyPost_ret (results_cell_row rfl _ _ w.heap.size _ _ _ _ rfl (setRow_heap _ _ _ _ _ _ hzF) Tryd.underlying41 rfl hcsz) rfl (by rw [← hX.out]; exact hfin.out)
end Go.Proofs.YtnehabcopjgklaaDoor
