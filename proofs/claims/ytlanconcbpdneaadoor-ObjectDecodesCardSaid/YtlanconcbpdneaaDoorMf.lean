/- Lemmas and walks of this seat, laid together: RdD, GsE, GsC, GsT. -/
import Derived.Test.YtlanconcbpdneaaDoorMe
import Derived.Great.FillDense
/- The walk of layer 4: object.Decode. Condition: a text of no more bytes than there can be. -/
namespace Go.Proofs.YtlanconcbpdneaaDoor
open Go.RowKit
attribute [local go_sem ↓] ldvO_eq
theorem rKind_lt (r : Rd) : (rKind r).1 < 256 := by
  unfold rKind
  split
  · show (0 : Nat) < 256
    omega
  · exact UInt8.toNat_lt _
theorem rEnt_ok (r : Rd) (h : r.1.length ≤ 1000000) : EntOk (rEnt r).1 := by
  have h1 := rKind_lt r
  have h2 := rText_len (rKind r).2
  have h3 := rKind_le r
  exact ⟨rId_len _, by show (rText (rKind r).2).1.length ≤ _; omega, by show _ ≤ ((rKind r).1 : Int); omega, by show ((rKind r).1 : Int) ≤ _; omega⟩
theorem rEnt_le (r : Rd) : (rEnt r).2.1.length ≤ r.1.length := Nat.le_trans (rId_le _) (Nat.le_trans (rText_le _) (rKind_le _))
theorem rTree_ok : ∀ (f : Nat) (r : Rd) (acc : List EntL), r.1.length ≤ 1000000 → (∀ e ∈ acc, EntOk e) → ∀ e ∈ (rTree f r acc).1, EntOk e
  | 0, r, acc, _, h => h
  | f + 1, r, acc, hl, h => by
    rw [rTree]
    split
    · exact h
    · refine rTree_ok f _ _ (Nat.le_trans (rEnt_le r) hl) ?_
      intro e he
      rcases List.mem_append.1 he with he | he
      · exact h e he
      · obtain rfl := List.mem_singleton.1 he
        exact rEnt_ok r hl
theorem readO_ok (k : Nat) (hk : k < 256) (r : Rd) (hr : r.1.length ≤ 100000) : ObjOk (readO k r).1 := by
  have hs := readO_sound k r
  have h0 : ([] : Txt).length ≤ 9223372036854775807 := by simp
  have hkk := readO_kind k r
  refine ⟨hs.tree, hs.target, ?_, hs.pars, ?_, ?_, ?_, hs.time, by rw [hkk]; omega, by rw [hkk]; omega, ?_, ?_⟩
  all_goals
    unfold readO
    split
    · first
        | exact rTree_ok _ _ _ (by omega) (by simp)
        | exact h0
        | (show (-9223372036854775808 : Int) ≤ 0; omega)
        | (show (0 : Int) ≤ 9223372036854775807; omega)
    · split
      · first
          | exact h0
          | (intro e he; cases he; done)
          | (refine Nat.le_trans (rText_len _) ?_
             rw [badIf_le]
             refine Nat.le_trans (Nat.le_trans (rNum_le _) (Nat.le_trans (rPars_le _ _ _) ?_)) (Nat.le_trans hr (by omega))
             rw [badIf_le]
             exact Nat.le_trans (rNum_le _) (rId_le _))
          | (show (-9223372036854775808 : Int) ≤ 0; omega)
          | (show (0 : Int) ≤ 9223372036854775807; omega)
      · split
        · first
            | exact h0
            | (intro e he; cases he; done)
            | (refine Nat.le_trans (rText_len _) (Nat.le_trans (Nat.le_trans (rId_le _) (rKind_le _)) (by omega)))
            | (have := rKind_lt r; show (-9223372036854775808 : Int) ≤ ((rKind r).1 : Int); omega)
            | (have := rKind_lt r; show ((rKind r).1 : Int) ≤ 9223372036854775807; omega)
        · first
            | exact h0
            | (intro e he; cases he; done)
            | (show (rBytes r.1.length r).1.length ≤ _
               rcases bytes_or (n := r.1.length) r with h | h
               · rw [h]; exact h0
               · rw [h]; omega)
            | (show (-9223372036854775808 : Int) ≤ 0; omega)
            | (show (0 : Int) ≤ 9223372036854775807; omega)
theorem built_kobj (k : Int) : Tryd.prog.built 29 [(0, .int .i64 k)] = some (objC ⟨k, [], [], noId, [], 0, [], noId, 0, []⟩ (.slice none 0 0) (.slice none 0 0)).toArray := by kernel_rfl
theorem built_rd (t : Txt) : Tryd.prog.built 44 [(0, .string (B t))] = some #[.string (B t), .bool false] := by kernel_rfl
/-- What Decode returns. -/
def DecR (x : Option ObjL) (w' : World) (e : Ending) : Prop := match x with
  | some o => ∃ A1 A2 k1 k2, e = .returned (.tuple #[.agg (objC o (.slice A1 o.ents.length k1) (.slice A2 o.pars.length k2)).toArray, .int .i64 0]) ∧ ObjV w' (.slice A1 o.ents.length k1) (.slice A2 o.pars.length k2) o
  | none => e = .returned (.tuple #[.agg zObj, .int .i64 2])
theorem Did.val {w w' : World} {gO gR : Nat} {x : ObjL × Rd} {ve vp : Value} (h : Been w gO gR w.heap.size x.1 x.2 ve vp w') (ho : ObjOk x.1) : ∃ A1 A2 k1 k2, ve = .slice A1 x.1.ents.length k1 ∧ vp = .slice A2 x.1.pars.length k2 ∧ ObjV w' ve vp x.1 := by
  have he : Ents w' ve x.1.ents := SliceAt.of_own (fun e h => entC_len (ho.ents e h)) h.ents
  have hp : Ids w' vp x.1.pars := SliceAt.of_own (fun e h => idC_len (ho.pars e h)) h.pars
  have he' := he
  have hp' := hp
  obtain ⟨A1, k1, e1, _⟩ := he'
  obtain ⟨A2, k2, e2, _⟩ := hp'
  exact ⟨A1, A2, k1, k2, e1, e2, ho, he, hp⟩
theorem own_row {w : World} {B g : Nat} {e : TypeId} {k m : Nat} {v : Value} {zs : List Value} (h : w.ownsRow B e k v m zs) (hg : g < B) (cs : Array Value) : (w.setRow g cs).ownsRow B e k v m zs :=
  Far.own (S := [some g]) (Far.row (Far.refl _ w) (.inl (by simp)) cs) h fun q hq => by
    have := (World.ownsRow.lt h q hq).1
    simp; omega
theorem objV_row {w : World} {B g : Nat} {ve vp : Value} {o : ObjL} (ho : ObjOk o) (he : OwnEnts w B ve o.ents) (hp : OwnIds w B vp o.pars) (hg : g < B) (cs : Array Value) : ObjV (w.setRow g cs) ve vp o :=
  ⟨ho, SliceAt.of_own (fun e h => entC_len (ho.ents e h)) (own_row he hg cs), SliceAt.of_own (fun e h => idC_len (ho.pars e h)) (own_row hp hg cs)⟩
theorem objC_all (o : ObjL) (A1 A2 : Option Addr) (a b c d : Nat) : (objC o (.slice A1 a b) (.slice A2 c d)).toArray.all (·.oneCell') = true := by
  refine all_oneCell_toArray ?_
  intro v hv
  unfold objC at hv
  simp only [List.mem_cons, List.mem_append] at hv
  have h8 : ∀ l : Txt, v ∈ (u8s l).toList → v.oneCell' = true := fun l h => u8v_one l v (by simpa [u8s] using h)
  rcases hv with rfl | rfl | rfl | hv | rfl | rfl | rfl | hv | rfl | rfl | hv
  · rfl
  · rfl
  · rfl
  · exact h8 _ hv
  · rfl
  · rfl
  · rfl
  · exact h8 _ hv
  · rfl
  · rfl
  · cases hv
set_option maxRecDepth 100000 in
set_option maxHeartbeats 2000000 in
theorem decode_no (s : Txt) (hs : s.length ≤ 4611686018427387904) (h : s = [] ∨ 4096 < s.length ∨ takeP (s.drop 1) = none ∨ ∃ t c q, takeP (s.drop 1) = some (t, c :: q)) (w : World) :
    Calls Tryd.prog 5 #[.string (B s)] w fun e w' => e = .returned (.tuple #[.agg zObj, .int .i64 2]) ∧ Below w.heap.size w w' := by
  have hzv := zeroObj
  obtain ⟨W0, hW0⟩ : ∃ W0, w.alloc (.cells zObj 29) = W0 := ⟨_, rfl⟩
  have hz0 : Blk W0 w.heap.size 29 zObj := by rw [← hW0]; exact Blk.new _ _ _
  have b0 : Below w.heap.size w W0 := by rw [← hW0]; exact (Below.refl _ _).alloc (Nat.le_refl _) _
  have hrb := fun W => run_build (P := Tryd.prog) W _ _ _ built_zObj
  have hone := zObj_one
  have hsz := sizedObj
  by_cases h1 : s = [] ∨ 4096 < s.length
  · clear h
    rcases h1 with rfl | h1
    · go_enter Tryd.func5, Tryd.ntmps5
      go_wp2_with (first
        | (refine wpList_store_row rfl 29 (.tmp 2) (.tmp 17) rfl w.heap.size zObj rfl rfl _ _ hz0 hsz rfl hone ?_))
      refine bodyPost_ret (results_row_tmp rfl _ _ w.heap.size _ _ _ _ rfl (setRow_heap _ _ _ _ _ _ hz0) Tryd.underlying29 rfl hsz) rfl ⟨rfl, below_setRow b0 (Nat.le_refl _) _⟩
    · match s, h1, hs with
      | c :: q, h1, hs =>
        simp only [List.length_cons] at h1 hs
        have i1 : (4096 : Int) < (q.length : Int) + 1 := by omega
        go_enter Tryd.func5, Tryd.ntmps5
        go_wp2_with (first
          | (refine wpList_store_row rfl 29 (.tmp 2) (.tmp 17) rfl w.heap.size zObj rfl rfl _ _ hz0 hsz rfl hone ?_))
        refine bodyPost_ret (results_row_tmp rfl _ _ w.heap.size _ _ _ _ rfl (setRow_heap _ _ _ _ _ _ hz0) Tryd.underlying29 rfl hsz) rfl ⟨rfl, below_setRow b0 (Nat.le_refl _) _⟩
  · match s, h1, hs, h with
    | [], h1, _, _ => exact absurd (.inl rfl) h1
    | c :: q, h1, hs, h =>
      simp only [List.length_cons, List.drop_succ_cons, List.drop_zero, reduceCtorEq, false_or] at h1 hs h
      have hex : (B (c :: q)).extract 1 (q.length + 1) = B q := by
        rw [extract_B]
        simp
      have i1 : ¬ (4096 : Int) < ((q.length : Int) + 1) := by omega
      have ht := take_calls q (by omega) W0
      rcases h with h | h | ⟨t, c2, q2, h⟩
      · omega
      · rw [takeV_none h] at ht
        have ht := Lib.hid ht
        clear h h1
        go_enter Tryd.func5, Tryd.ntmps5
        go_wp2_with (first
          | ((with_reducible refine ht.out.mono ?_); rintro e w1 ⟨rfl, nq, rfl⟩
             have hz1 := hz0.drewN nq)
          | (refine wpList_store_row rfl 29 (.tmp 2) (.tmp 31) rfl w.heap.size zObj rfl rfl _ _ hz1 hsz rfl hone ?_))
        refine bodyPost_ret (results_row_tmp rfl _ _ w.heap.size _ _ _ _ rfl (setRow_heap _ _ _ _ _ _ hz1) Tryd.underlying29 rfl hsz) rfl ⟨rfl, below_setRow (bdrewN b0 nq) (Nat.le_refl _) _⟩
      · rw [takeV_some h] at ht
        have ht := Lib.hid ht
        clear h h1
        go_enter Tryd.func5, Tryd.ntmps5
        go_wp2_with (first
          | ((with_reducible refine ht.out.mono ?_); rintro e w1 ⟨rfl, nq, rfl⟩
             have hz1 := hz0.drewN nq)
          | (refine wpList_store_row rfl 29 (.tmp 2) (.tmp 31) rfl w.heap.size zObj rfl rfl _ _ hz1 hsz rfl hone ?_))
        refine bodyPost_ret (results_row_tmp rfl _ _ w.heap.size _ _ _ _ rfl (setRow_heap _ _ _ _ _ _ hz1) Tryd.underlying29 rfl hsz) rfl ⟨rfl, below_setRow (bdrewN b0 nq) (Nat.le_refl _) _⟩
set_option maxRecDepth 100000 in
set_option maxHeartbeats 4000000 in
theorem decode_yes (c : UInt8) (q t : Txt) (hs : q.length ≤ 4095) (h : takeP q = some (t, [])) (w : World) :
    Calls Tryd.prog 5 #[.string (B (c :: q))] w fun e w' => DecR (decO (c :: q)) w' e ∧ Below w.heap.size w w' := by
  have hzv := zeroObj
  obtain ⟨W0, hW0⟩ : ∃ W0, w.alloc (.cells zObj 29) = W0 := ⟨_, rfl⟩
  have hz0 : Blk W0 w.heap.size 29 zObj := by rw [← hW0]; exact Blk.new _ _ _
  have b0 : Below w.heap.size w W0 := by rw [← hW0]; exact (Below.refl _ _).alloc (Nat.le_refl _) _
  have hrb := fun W => run_build (P := Tryd.prog) W _ _ _ built_zObj
  have hone := zObj_one
  have hsz := sizedObj
  have hex : (B (c :: q)).extract 1 (q.length + 1) = B q := by
    rw [extract_B]
    simp
  have i1 : ¬ (4096 : Int) < ((q.length : Int) + 1) := by omega
  have hlt : t.length ≤ 100000 := by
    have := takeP_back h
    rw [this] at hs
    unfold textE at hs
    simp only [List.length_append] at hs
    omega
  have ht := take_calls q (by omega) W0
  rw [takeV_some h] at ht
  have ht := Lib.hid ht
  have hdec : Hid (decO (c :: q) = if (readO c.toNat (t, false)).2.2 = true ∨ (readO c.toNat (t, false)).2.1 ≠ [] ∨ mayB (readO c.toNat (t, false)).1 = false then none else some (readO c.toNat (t, false)).1) := by
    show _ = _
    unfold decO
    simp only [h]
    rw [if_neg (by simp only [List.length_cons]; omega), if_neg (by simp)]
  have hk256 : c.toNat < 256 := c.toNat_lt
  have hc0 : 0 ≤ (c.toNat : Int) := by omega
  have hc1 : (c.toNat : Int) < 256 := by omega
  have hrok := readO_ok c.toNat hk256 (t, false) hlt
  have hbd := built_kobj (c.toNat : Int)
  have hbr := built_rd t
  have e72 : (objC ⟨c.toNat, [], [], noId, [], 0, [], noId, 0, []⟩ (.slice none 0 0) (.slice none 0 0)).toArray.size = 72 := by rw [List.size_toArray]; unfold objC; simp only [List.length_cons, List.length_append, u8s_len, noId_len, List.length_nil]
  have eone : (objC ⟨c.toNat, [], [], noId, [], 0, [], noId, 0, []⟩ (.slice none 0 0) (.slice none 0 0)).toArray.all (·.oneCell') = true := by kernel_rfl
  obtain ⟨D, hD⟩ : ∃ D, Hid (decO (c :: q) = D) := ⟨_, Lib.hid rfl⟩
  rw [hD.out] at hdec ⊢
  have hread : Hid (∀ W gO gR, gO ≠ gR → ObjB W gO (nObj c.toNat) (.slice none 0 0) (.slice none 0 0) → RdB W gR (t, false) → Calls Tryd.prog (if c.toNat = 2 then 14 else if c.toNat = 3 then 15 else if c.toNat = 4 then 16 else 13) #[.pointer (some ⟨gR, 0, none⟩), .pointer (some ⟨gO, 0, none⟩)] W fun e w' => e = .returned (.tuple #[]) ∧ Did W gO gR W.heap.size (readO c.toNat (t, false)) w') := fun W gO gR hne hO hR => by
    unfold readO
    split
    · exact tree_calls c.toNat (t, false) hlt gO gR hne W hO hR
    · split
      · exact commit_calls c.toNat (t, false) hlt gO gR hne W hO hR
      · split
        · exact tag_calls c.toNat (t, false) hlt gO gR hne W hO hR
        · exact blob_calls c.toNat (t, false) hlt gO gR hne W hO hR
  generalize hX : readO c.toNat (t, false) = X at *
  clear hX h
  go_enter Tryd.func5, Tryd.ntmps5
  go_upto_region 9 with (first
    | ((with_reducible refine ht.out.mono ?_); rintro e w1 ⟨rfl, nq, rfl⟩
       have hz1 := hz0.drewN nq
       have b1 := bdrewN b0 nq
       clear ht)
    | ((with_reducible refine lit_build1 hbd ?_ ?_); rfl)
    | ((with_reducible refine lit_build1 hbr ?_ ?_); rfl)
    | ((with_reducible refine lit_new 29 (.tmp 7) (.tmp 35) (objC ⟨c.toNat, [], [], noId, [], 0, [], noId, 0, []⟩ (.slice none 0 0) (.slice none 0 0)).toArray 72 szObj e72 eone _ ?_ ?_ ?_ ?_); rfl; rfl; rfl; intro W2 hb2 hbl2
       have hz2 := hz1.below hbl2 hz1.lt
       have b2 := bthen b1 b1.size hbl2
       clear hz1 b1))
  have hO2 : ObjB W2 W0.heap.size (nObj c.toNat) (.slice none 0 0) (.slice none 0 0) := ⟨hb2, noId_len, noId_len⟩
  obtain ⟨W3, hW3⟩ : ∃ W3, W2.alloc (.cells #[.string (B t), .bool false] 44) = W3 := ⟨_, rfl⟩
  have hR3 : RdB W3 W2.heap.size (t, false) := by rw [← hW3]; exact Blk.new _ _ _
  have hb3 : Below W2.heap.size W2 W3 := by rw [← hW3]; exact (Below.refl _ _).alloc (Nat.le_refl _) _
  have hO3 := hO2.below hb3
  have hz3 := hz2.below hb3 hz2.lt
  have b3 := bthen b2 b2.size hb3
  have hb2 : Blk W2 W0.heap.size 29 _ := hb2
  have hne : W0.heap.size ≠ W2.heap.size := by have := hb2.lt; omega
  have hsO : w.heap.size < W0.heap.size := by rw [← hW0]; simp
  have hsR : w.heap.size < W2.heap.size := by have := hb2.lt; omega
  have hrd := hread.out W3 _ _ hne hO3 hR3
  have ck : W3.cell? ⟨W0.heap.size, 0, none⟩ = some (.int .i64 c.toNat) := hO3.kind
  clear hO2 hb2 hz2 b2 hb3 hread hO3 hR3
  rw [hW3]
  clear hW3 hW0 hz0 b0
  generalize W2.heap.size = gR at *
  generalize W0.heap.size = gO at *
  clear ht hbd hbr e72 eone
  have hXk : ∀ W ve vp, ObjB W gO X.1 ve vp → (ldvO ⟨gO, 0, none⟩).run Tryd.prog W = .ok (.agg (objC X.1 ve vp).toArray) W := fun W ve vp h => run_ldvO h hrok
  have hzlt : w.heap.size < W3.heap.size := hz3.lt
  have hgz : some w.heap.size ∉ [some gO, some gR] := by simp; omega
  have hgB : ∀ k, some k ∈ [some gO, some gR] → w.heap.size ≤ k := fun k hk => by simp at hk; omega
  have hszB : w.heap.size ≤ W3.heap.size := Nat.le_of_lt hzlt
  by_cases k2 : c.toNat = 2
  · have e2 : ((c.toNat : Int) == 2) = true := by simp; omega
    rw [if_pos k2] at hrd
    have hrd := Lib.hid hrd
    clear k2 hne
    by_cases hb1 : X.2.2 = true
    · have hDn : Hid (D = none) := by show _ = _; rw [hdec.out, if_pos (.inl hb1)]
      clear hdec hD
      go_wp2_with (first
        | ((with_reducible refine hrd.out.mono ?_); rintro e w4 ⟨rfl, ve, vp, hbe⟩
           have c0 := hbe.rd.c0
           have c1 := hbe.rd.c1
           obtain ⟨A1, A2, n1, n2, rfl, rfl, hv⟩ := Did.val hbe hrok
           have hq4 := hXk w4 _ _ hbe.obj
           have hz4 := hbe.far.blk hz3 hgz
           have b4 := b3.trans (hbe.far.below (B := w.heap.size) hszB hgB)
           rw [hb1] at c1
           clear hq4 hv c0 hb1
           clear hrd hbe)
        | (refine wpList_store_row rfl 29 (.tmp 2) (.tmp 66) rfl w.heap.size zObj rfl rfl _ _ hz4 hsz rfl hone ?_))
      refine bodyPost_ret (results_row_tmp rfl _ _ w.heap.size _ _ _ _ rfl (setRow_heap _ _ _ _ _ _ hz4) Tryd.underlying29 rfl hsz) rfl ⟨by rw [hDn.out]; rfl, below_setRow b4 (Nat.le_refl _) _⟩
    · by_cases hb2 : X.2.1 = []
      · cases hM : mayB X.1 with
        | false =>
          have hDn : Hid (D = none) := by show _ = _; rw [hdec.out, if_pos (.inr (.inr hM))]
          clear hdec hD
          have hb1 : X.2.2 = false := by simpa using hb1
          go_wp2_with (first
            | ((with_reducible refine hrd.out.mono ?_); rintro e w4 ⟨rfl, ve, vp, hbe⟩
               have c0 := hbe.rd.c0
               have c1 := hbe.rd.c1
               obtain ⟨A1, A2, n1, n2, rfl, rfl, hv⟩ := Did.val hbe hrok
               have hq4 := hXk w4 _ _ hbe.obj
               have hz4 := hbe.far.blk hz3 hgz
               have b4 := b3.trans (hbe.far.below (B := w.heap.size) hszB hgB)
               rw [hb1] at c1
               rw [hb2] at c0
               have hmay := may_calls X.1 A1 A2 n1 n2 w4 hv
               rw [hM] at hmay
               have hmay := Lib.hid hmay
               clear hv hb1 hb2 hM
               clear hrd hbe)
            | ((with_reducible refine hmay.out.mono ?_); rintro e w5 ⟨rfl, hb5⟩
               have hz5 := hz4.below hb5 hz4.lt
               have b5 := bthen b4 b4.size hb5
               skip
               clear hmay)
            | (refine wpList_store_row rfl 29 (.tmp 2) (.tmp 66) rfl w.heap.size zObj rfl rfl _ _ hz5 hsz rfl hone ?_))
          refine bodyPost_ret (results_row_tmp rfl _ _ w.heap.size _ _ _ _ rfl (setRow_heap _ _ _ _ _ _ hz5) Tryd.underlying29 rfl hsz) rfl ⟨by rw [hDn.out]; rfl, below_setRow b5 (Nat.le_refl _) _⟩
        | true =>
          have hDn : Hid (D = some X.1) := by
            show _ = _
            rw [hdec.out, if_neg]
            rintro (h | h | h)
            · exact hb1 h
            · exact h hb2
            · rw [hM] at h; cases h
          clear hdec hD
          have hb1 : X.2.2 = false := by simpa using hb1
          go_wp2_with (first
            | ((with_reducible refine hrd.out.mono ?_); rintro e w4 ⟨rfl, ve, vp, hbe⟩
               have c0 := hbe.rd.c0
               have c1 := hbe.rd.c1
               obtain ⟨A1, A2, n1, n2, rfl, rfl, hv⟩ := Did.val hbe hrok
               have hq4 := hXk w4 _ _ hbe.obj
               have hz4 := hbe.far.blk hz3 hgz
               have b4 := b3.trans (hbe.far.below (B := w.heap.size) hszB hgB)
               rw [hb1] at c1
               rw [hb2] at c0
               have hmay := may_calls X.1 A1 A2 n1 n2 w4 hv
               rw [hM] at hmay
               have hmay := Lib.hid hmay
               have hO4 := hbe.obj
               have hoe := hbe.ents
               have hop := hbe.pars
               have hc72 : (objC X.1 (.slice A1 X.1.ents.length n1) (.slice A2 X.1.pars.length n2)).toArray.size = 72 := by rw [List.size_toArray, objC_len hrok]
               have hcone := objC_all X.1 A1 A2 X.1.ents.length n1 X.1.pars.length n2
               clear hb1 hb2 hM
               clear hrd hbe)
            | ((with_reducible refine hmay.out.mono ?_); rintro e w5 ⟨rfl, hb5⟩
               have hz5 := hz4.below hb5 hz4.lt
               have b5 := bthen b4 b4.size hb5
               have hO5 := hO4.below hb5
               have hoe5 := own_below hoe hb5
               have hop5 := own_below hop hb5
               have hv5 := hv.below hb5
               have hq5 := hXk w5 _ _ hO5
               generalize hcs : (objC X.1 (.slice A1 X.1.ents.length n1) (.slice A2 X.1.pars.length n2)).toArray = cs at *
               have HCS := Lib.hid hcs
               clear hcs hq4
               clear hmay)
            | (refine wpList_store_row rfl 29 (.tmp 2) (.tmp 67) rfl w.heap.size cs rfl rfl _ _ hz5 (by rw [hc72]; exact szObj) (by rw [hc72]; rfl) hcone ?_))
          refine bodyPost_ret (results_row_tmp rfl _ _ w.heap.size _ _ _ _ rfl (setRow_heap _ _ _ _ _ _ hz5) Tryd.underlying29 rfl (by rw [hc72]; exact szObj)) rfl ⟨?_, below_setRow b5 (Nat.le_refl _) _⟩
          rw [hDn.out]
          exact ⟨A1, A2, n1, n2, by rw [HCS.out]; rfl, objV_row hrok hoe5 hop5 hzlt _⟩
      · have hDn : Hid (D = none) := by show _ = _; rw [hdec.out, if_pos (.inr (.inl hb2))]
        clear hdec hD
        have hb1 : X.2.2 = false := by simpa using hb1
        obtain ⟨x, xs, hx⟩ : ∃ x xs, X.2.1 = x :: xs := by
          cases hq : X.2.1 with
          | nil => exact absurd hq hb2
          | cons x xs => exact ⟨x, xs, rfl⟩
        clear hb2
        go_wp2_with (first
          | ((with_reducible refine hrd.out.mono ?_); rintro e w4 ⟨rfl, ve, vp, hbe⟩
             have c0 := hbe.rd.c0
             have c1 := hbe.rd.c1
             obtain ⟨A1, A2, n1, n2, rfl, rfl, hv⟩ := Did.val hbe hrok
             have hq4 := hXk w4 _ _ hbe.obj
             have hz4 := hbe.far.blk hz3 hgz
             have b4 := b3.trans (hbe.far.below (B := w.heap.size) hszB hgB)
             rw [hb1] at c1
             rw [hx] at c0
             clear hq4 hv hb1 hx
             clear hrd hbe)
          | (refine wpList_store_row rfl 29 (.tmp 2) (.tmp 66) rfl w.heap.size zObj rfl rfl _ _ hz4 hsz rfl hone ?_))
        refine bodyPost_ret (results_row_tmp rfl _ _ w.heap.size _ _ _ _ rfl (setRow_heap _ _ _ _ _ _ hz4) Tryd.underlying29 rfl hsz) rfl ⟨by rw [hDn.out]; rfl, below_setRow b4 (Nat.le_refl _) _⟩
  · have e2 : ((c.toNat : Int) == 2) = false := by simp; omega
    rw [if_neg k2] at hrd
    by_cases k3 : c.toNat = 3
    · have e3 : ((c.toNat : Int) == 3) = true := by simp; omega
      rw [if_pos k3] at hrd
      have hrd := Lib.hid hrd
      clear k2 k3 hne
      by_cases hb1 : X.2.2 = true
      · have hDn : Hid (D = none) := by show _ = _; rw [hdec.out, if_pos (.inl hb1)]
        clear hdec hD
        go_wp2_with (first
          | ((with_reducible refine hrd.out.mono ?_); rintro e w4 ⟨rfl, ve, vp, hbe⟩
             have c0 := hbe.rd.c0
             have c1 := hbe.rd.c1
             obtain ⟨A1, A2, n1, n2, rfl, rfl, hv⟩ := Did.val hbe hrok
             have hq4 := hXk w4 _ _ hbe.obj
             have hz4 := hbe.far.blk hz3 hgz
             have b4 := b3.trans (hbe.far.below (B := w.heap.size) hszB hgB)
             rw [hb1] at c1
             clear hq4 hv c0 hb1
             clear hrd hbe)
          | (refine wpList_store_row rfl 29 (.tmp 2) (.tmp 66) rfl w.heap.size zObj rfl rfl _ _ hz4 hsz rfl hone ?_))
        refine bodyPost_ret (results_row_tmp rfl _ _ w.heap.size _ _ _ _ rfl (setRow_heap _ _ _ _ _ _ hz4) Tryd.underlying29 rfl hsz) rfl ⟨by rw [hDn.out]; rfl, below_setRow b4 (Nat.le_refl _) _⟩
      · by_cases hb2 : X.2.1 = []
        · cases hM : mayB X.1 with
          | false =>
            have hDn : Hid (D = none) := by show _ = _; rw [hdec.out, if_pos (.inr (.inr hM))]
            clear hdec hD
            have hb1 : X.2.2 = false := by simpa using hb1
            go_wp2_with (first
              | ((with_reducible refine hrd.out.mono ?_); rintro e w4 ⟨rfl, ve, vp, hbe⟩
                 have c0 := hbe.rd.c0
                 have c1 := hbe.rd.c1
                 obtain ⟨A1, A2, n1, n2, rfl, rfl, hv⟩ := Did.val hbe hrok
                 have hq4 := hXk w4 _ _ hbe.obj
                 have hz4 := hbe.far.blk hz3 hgz
                 have b4 := b3.trans (hbe.far.below (B := w.heap.size) hszB hgB)
                 rw [hb1] at c1
                 rw [hb2] at c0
                 have hmay := may_calls X.1 A1 A2 n1 n2 w4 hv
                 rw [hM] at hmay
                 have hmay := Lib.hid hmay
                 clear hv hb1 hb2 hM
                 clear hrd hbe)
              | ((with_reducible refine hmay.out.mono ?_); rintro e w5 ⟨rfl, hb5⟩
                 have hz5 := hz4.below hb5 hz4.lt
                 have b5 := bthen b4 b4.size hb5
                 skip
                 clear hmay)
              | (refine wpList_store_row rfl 29 (.tmp 2) (.tmp 66) rfl w.heap.size zObj rfl rfl _ _ hz5 hsz rfl hone ?_))
            refine bodyPost_ret (results_row_tmp rfl _ _ w.heap.size _ _ _ _ rfl (setRow_heap _ _ _ _ _ _ hz5) Tryd.underlying29 rfl hsz) rfl ⟨by rw [hDn.out]; rfl, below_setRow b5 (Nat.le_refl _) _⟩
          | true =>
            have hDn : Hid (D = some X.1) := by
              show _ = _
              rw [hdec.out, if_neg]
              rintro (h | h | h)
              · exact hb1 h
              · exact h hb2
              · rw [hM] at h; cases h
            clear hdec hD
            have hb1 : X.2.2 = false := by simpa using hb1
            go_wp2_with (first
              | ((with_reducible refine hrd.out.mono ?_); rintro e w4 ⟨rfl, ve, vp, hbe⟩
                 have c0 := hbe.rd.c0
                 have c1 := hbe.rd.c1
                 obtain ⟨A1, A2, n1, n2, rfl, rfl, hv⟩ := Did.val hbe hrok
                 have hq4 := hXk w4 _ _ hbe.obj
                 have hz4 := hbe.far.blk hz3 hgz
                 have b4 := b3.trans (hbe.far.below (B := w.heap.size) hszB hgB)
                 rw [hb1] at c1
                 rw [hb2] at c0
                 have hmay := may_calls X.1 A1 A2 n1 n2 w4 hv
                 rw [hM] at hmay
                 have hmay := Lib.hid hmay
                 have hO4 := hbe.obj
                 have hoe := hbe.ents
                 have hop := hbe.pars
                 have hc72 : (objC X.1 (.slice A1 X.1.ents.length n1) (.slice A2 X.1.pars.length n2)).toArray.size = 72 := by rw [List.size_toArray, objC_len hrok]
                 have hcone := objC_all X.1 A1 A2 X.1.ents.length n1 X.1.pars.length n2
                 clear hb1 hb2 hM
                 clear hrd hbe)
              | ((with_reducible refine hmay.out.mono ?_); rintro e w5 ⟨rfl, hb5⟩
                 have hz5 := hz4.below hb5 hz4.lt
                 have b5 := bthen b4 b4.size hb5
                 have hO5 := hO4.below hb5
                 have hoe5 := own_below hoe hb5
                 have hop5 := own_below hop hb5
                 have hv5 := hv.below hb5
                 have hq5 := hXk w5 _ _ hO5
                 generalize hcs : (objC X.1 (.slice A1 X.1.ents.length n1) (.slice A2 X.1.pars.length n2)).toArray = cs at *
                 have HCS := Lib.hid hcs
                 clear hcs hq4
                 clear hmay)
              | (refine wpList_store_row rfl 29 (.tmp 2) (.tmp 67) rfl w.heap.size cs rfl rfl _ _ hz5 (by rw [hc72]; exact szObj) (by rw [hc72]; rfl) hcone ?_))
            refine bodyPost_ret (results_row_tmp rfl _ _ w.heap.size _ _ _ _ rfl (setRow_heap _ _ _ _ _ _ hz5) Tryd.underlying29 rfl (by rw [hc72]; exact szObj)) rfl ⟨?_, below_setRow b5 (Nat.le_refl _) _⟩
            rw [hDn.out]
            exact ⟨A1, A2, n1, n2, by rw [HCS.out]; rfl, objV_row hrok hoe5 hop5 hzlt _⟩
        · have hDn : Hid (D = none) := by show _ = _; rw [hdec.out, if_pos (.inr (.inl hb2))]
          clear hdec hD
          have hb1 : X.2.2 = false := by simpa using hb1
          obtain ⟨x, xs, hx⟩ : ∃ x xs, X.2.1 = x :: xs := by
            cases hq : X.2.1 with
            | nil => exact absurd hq hb2
            | cons x xs => exact ⟨x, xs, rfl⟩
          clear hb2
          go_wp2_with (first
            | ((with_reducible refine hrd.out.mono ?_); rintro e w4 ⟨rfl, ve, vp, hbe⟩
               have c0 := hbe.rd.c0
               have c1 := hbe.rd.c1
               obtain ⟨A1, A2, n1, n2, rfl, rfl, hv⟩ := Did.val hbe hrok
               have hq4 := hXk w4 _ _ hbe.obj
               have hz4 := hbe.far.blk hz3 hgz
               have b4 := b3.trans (hbe.far.below (B := w.heap.size) hszB hgB)
               rw [hb1] at c1
               rw [hx] at c0
               clear hq4 hv hb1 hx
               clear hrd hbe)
            | (refine wpList_store_row rfl 29 (.tmp 2) (.tmp 66) rfl w.heap.size zObj rfl rfl _ _ hz4 hsz rfl hone ?_))
          refine bodyPost_ret (results_row_tmp rfl _ _ w.heap.size _ _ _ _ rfl (setRow_heap _ _ _ _ _ _ hz4) Tryd.underlying29 rfl hsz) rfl ⟨by rw [hDn.out]; rfl, below_setRow b4 (Nat.le_refl _) _⟩
    · have e3 : ((c.toNat : Int) == 3) = false := by simp; omega
      rw [if_neg k3] at hrd
      by_cases k4 : c.toNat = 4
      · have e4 : ((c.toNat : Int) == 4) = true := by simp; omega
        rw [if_pos k4] at hrd
        have hrd := Lib.hid hrd
        clear k2 k3 k4 hne
        by_cases hb1 : X.2.2 = true
        · have hDn : Hid (D = none) := by show _ = _; rw [hdec.out, if_pos (.inl hb1)]
          clear hdec hD
          go_wp2_with (first
            | ((with_reducible refine hrd.out.mono ?_); rintro e w4 ⟨rfl, ve, vp, hbe⟩
               have c0 := hbe.rd.c0
               have c1 := hbe.rd.c1
               obtain ⟨A1, A2, n1, n2, rfl, rfl, hv⟩ := Did.val hbe hrok
               have hq4 := hXk w4 _ _ hbe.obj
               have hz4 := hbe.far.blk hz3 hgz
               have b4 := b3.trans (hbe.far.below (B := w.heap.size) hszB hgB)
               rw [hb1] at c1
               clear hq4 hv c0 hb1
               clear hrd hbe)
            | (refine wpList_store_row rfl 29 (.tmp 2) (.tmp 66) rfl w.heap.size zObj rfl rfl _ _ hz4 hsz rfl hone ?_))
          refine bodyPost_ret (results_row_tmp rfl _ _ w.heap.size _ _ _ _ rfl (setRow_heap _ _ _ _ _ _ hz4) Tryd.underlying29 rfl hsz) rfl ⟨by rw [hDn.out]; rfl, below_setRow b4 (Nat.le_refl _) _⟩
        · by_cases hb2 : X.2.1 = []
          · cases hM : mayB X.1 with
            | false =>
              have hDn : Hid (D = none) := by show _ = _; rw [hdec.out, if_pos (.inr (.inr hM))]
              clear hdec hD
              have hb1 : X.2.2 = false := by simpa using hb1
              go_wp2_with (first
                | ((with_reducible refine hrd.out.mono ?_); rintro e w4 ⟨rfl, ve, vp, hbe⟩
                   have c0 := hbe.rd.c0
                   have c1 := hbe.rd.c1
                   obtain ⟨A1, A2, n1, n2, rfl, rfl, hv⟩ := Did.val hbe hrok
                   have hq4 := hXk w4 _ _ hbe.obj
                   have hz4 := hbe.far.blk hz3 hgz
                   have b4 := b3.trans (hbe.far.below (B := w.heap.size) hszB hgB)
                   rw [hb1] at c1
                   rw [hb2] at c0
                   have hmay := may_calls X.1 A1 A2 n1 n2 w4 hv
                   rw [hM] at hmay
                   have hmay := Lib.hid hmay
                   clear hv hb1 hb2 hM
                   clear hrd hbe)
                | ((with_reducible refine hmay.out.mono ?_); rintro e w5 ⟨rfl, hb5⟩
                   have hz5 := hz4.below hb5 hz4.lt
                   have b5 := bthen b4 b4.size hb5
                   skip
                   clear hmay)
                | (refine wpList_store_row rfl 29 (.tmp 2) (.tmp 66) rfl w.heap.size zObj rfl rfl _ _ hz5 hsz rfl hone ?_))
              refine bodyPost_ret (results_row_tmp rfl _ _ w.heap.size _ _ _ _ rfl (setRow_heap _ _ _ _ _ _ hz5) Tryd.underlying29 rfl hsz) rfl ⟨by rw [hDn.out]; rfl, below_setRow b5 (Nat.le_refl _) _⟩
            | true =>
              have hDn : Hid (D = some X.1) := by
                show _ = _
                rw [hdec.out, if_neg]
                rintro (h | h | h)
                · exact hb1 h
                · exact h hb2
                · rw [hM] at h; cases h
              clear hdec hD
              have hb1 : X.2.2 = false := by simpa using hb1
              go_wp2_with (first
                | ((with_reducible refine hrd.out.mono ?_); rintro e w4 ⟨rfl, ve, vp, hbe⟩
                   have c0 := hbe.rd.c0
                   have c1 := hbe.rd.c1
                   obtain ⟨A1, A2, n1, n2, rfl, rfl, hv⟩ := Did.val hbe hrok
                   have hq4 := hXk w4 _ _ hbe.obj
                   have hz4 := hbe.far.blk hz3 hgz
                   have b4 := b3.trans (hbe.far.below (B := w.heap.size) hszB hgB)
                   rw [hb1] at c1
                   rw [hb2] at c0
                   have hmay := may_calls X.1 A1 A2 n1 n2 w4 hv
                   rw [hM] at hmay
                   have hmay := Lib.hid hmay
                   have hO4 := hbe.obj
                   have hoe := hbe.ents
                   have hop := hbe.pars
                   have hc72 : (objC X.1 (.slice A1 X.1.ents.length n1) (.slice A2 X.1.pars.length n2)).toArray.size = 72 := by rw [List.size_toArray, objC_len hrok]
                   have hcone := objC_all X.1 A1 A2 X.1.ents.length n1 X.1.pars.length n2
                   clear hb1 hb2 hM
                   clear hrd hbe)
                | ((with_reducible refine hmay.out.mono ?_); rintro e w5 ⟨rfl, hb5⟩
                   have hz5 := hz4.below hb5 hz4.lt
                   have b5 := bthen b4 b4.size hb5
                   have hO5 := hO4.below hb5
                   have hoe5 := own_below hoe hb5
                   have hop5 := own_below hop hb5
                   have hv5 := hv.below hb5
                   have hq5 := hXk w5 _ _ hO5
                   generalize hcs : (objC X.1 (.slice A1 X.1.ents.length n1) (.slice A2 X.1.pars.length n2)).toArray = cs at *
                   have HCS := Lib.hid hcs
                   clear hcs hq4
                   clear hmay)
                | (refine wpList_store_row rfl 29 (.tmp 2) (.tmp 67) rfl w.heap.size cs rfl rfl _ _ hz5 (by rw [hc72]; exact szObj) (by rw [hc72]; rfl) hcone ?_))
              refine bodyPost_ret (results_row_tmp rfl _ _ w.heap.size _ _ _ _ rfl (setRow_heap _ _ _ _ _ _ hz5) Tryd.underlying29 rfl (by rw [hc72]; exact szObj)) rfl ⟨?_, below_setRow b5 (Nat.le_refl _) _⟩
              rw [hDn.out]
              exact ⟨A1, A2, n1, n2, by rw [HCS.out]; rfl, objV_row hrok hoe5 hop5 hzlt _⟩
          · have hDn : Hid (D = none) := by show _ = _; rw [hdec.out, if_pos (.inr (.inl hb2))]
            clear hdec hD
            have hb1 : X.2.2 = false := by simpa using hb1
            obtain ⟨x, xs, hx⟩ : ∃ x xs, X.2.1 = x :: xs := by
              cases hq : X.2.1 with
              | nil => exact absurd hq hb2
              | cons x xs => exact ⟨x, xs, rfl⟩
            clear hb2
            go_wp2_with (first
              | ((with_reducible refine hrd.out.mono ?_); rintro e w4 ⟨rfl, ve, vp, hbe⟩
                 have c0 := hbe.rd.c0
                 have c1 := hbe.rd.c1
                 obtain ⟨A1, A2, n1, n2, rfl, rfl, hv⟩ := Did.val hbe hrok
                 have hq4 := hXk w4 _ _ hbe.obj
                 have hz4 := hbe.far.blk hz3 hgz
                 have b4 := b3.trans (hbe.far.below (B := w.heap.size) hszB hgB)
                 rw [hb1] at c1
                 rw [hx] at c0
                 clear hq4 hv hb1 hx
                 clear hrd hbe)
              | (refine wpList_store_row rfl 29 (.tmp 2) (.tmp 66) rfl w.heap.size zObj rfl rfl _ _ hz4 hsz rfl hone ?_))
            refine bodyPost_ret (results_row_tmp rfl _ _ w.heap.size _ _ _ _ rfl (setRow_heap _ _ _ _ _ _ hz4) Tryd.underlying29 rfl hsz) rfl ⟨by rw [hDn.out]; rfl, below_setRow b4 (Nat.le_refl _) _⟩
      · have e4 : ((c.toNat : Int) == 4) = false := by simp; omega
        rw [if_neg k4] at hrd
        have hrd := Lib.hid hrd
        clear k2 k3 k4 hne
        by_cases hb1 : X.2.2 = true
        · have hDn : Hid (D = none) := by show _ = _; rw [hdec.out, if_pos (.inl hb1)]
          clear hdec hD
          go_wp2_with (first
            | ((with_reducible refine hrd.out.mono ?_); rintro e w4 ⟨rfl, ve, vp, hbe⟩
               have c0 := hbe.rd.c0
               have c1 := hbe.rd.c1
               obtain ⟨A1, A2, n1, n2, rfl, rfl, hv⟩ := Did.val hbe hrok
               have hq4 := hXk w4 _ _ hbe.obj
               have hz4 := hbe.far.blk hz3 hgz
               have b4 := b3.trans (hbe.far.below (B := w.heap.size) hszB hgB)
               rw [hb1] at c1
               clear hq4 hv c0 hb1
               clear hrd hbe)
            | (refine wpList_store_row rfl 29 (.tmp 2) (.tmp 66) rfl w.heap.size zObj rfl rfl _ _ hz4 hsz rfl hone ?_))
          refine bodyPost_ret (results_row_tmp rfl _ _ w.heap.size _ _ _ _ rfl (setRow_heap _ _ _ _ _ _ hz4) Tryd.underlying29 rfl hsz) rfl ⟨by rw [hDn.out]; rfl, below_setRow b4 (Nat.le_refl _) _⟩
        · by_cases hb2 : X.2.1 = []
          · cases hM : mayB X.1 with
            | false =>
              have hDn : Hid (D = none) := by show _ = _; rw [hdec.out, if_pos (.inr (.inr hM))]
              clear hdec hD
              have hb1 : X.2.2 = false := by simpa using hb1
              go_wp2_with (first
                | ((with_reducible refine hrd.out.mono ?_); rintro e w4 ⟨rfl, ve, vp, hbe⟩
                   have c0 := hbe.rd.c0
                   have c1 := hbe.rd.c1
                   obtain ⟨A1, A2, n1, n2, rfl, rfl, hv⟩ := Did.val hbe hrok
                   have hq4 := hXk w4 _ _ hbe.obj
                   have hz4 := hbe.far.blk hz3 hgz
                   have b4 := b3.trans (hbe.far.below (B := w.heap.size) hszB hgB)
                   rw [hb1] at c1
                   rw [hb2] at c0
                   have hmay := may_calls X.1 A1 A2 n1 n2 w4 hv
                   rw [hM] at hmay
                   have hmay := Lib.hid hmay
                   clear hv hb1 hb2 hM
                   clear hrd hbe)
                | ((with_reducible refine hmay.out.mono ?_); rintro e w5 ⟨rfl, hb5⟩
                   have hz5 := hz4.below hb5 hz4.lt
                   have b5 := bthen b4 b4.size hb5
                   skip
                   clear hmay)
                | (refine wpList_store_row rfl 29 (.tmp 2) (.tmp 66) rfl w.heap.size zObj rfl rfl _ _ hz5 hsz rfl hone ?_))
              refine bodyPost_ret (results_row_tmp rfl _ _ w.heap.size _ _ _ _ rfl (setRow_heap _ _ _ _ _ _ hz5) Tryd.underlying29 rfl hsz) rfl ⟨by rw [hDn.out]; rfl, below_setRow b5 (Nat.le_refl _) _⟩
            | true =>
              have hDn : Hid (D = some X.1) := by
                show _ = _
                rw [hdec.out, if_neg]
                rintro (h | h | h)
                · exact hb1 h
                · exact h hb2
                · rw [hM] at h; cases h
              clear hdec hD
              have hb1 : X.2.2 = false := by simpa using hb1
              go_wp2_with (first
                | ((with_reducible refine hrd.out.mono ?_); rintro e w4 ⟨rfl, ve, vp, hbe⟩
                   have c0 := hbe.rd.c0
                   have c1 := hbe.rd.c1
                   obtain ⟨A1, A2, n1, n2, rfl, rfl, hv⟩ := Did.val hbe hrok
                   have hq4 := hXk w4 _ _ hbe.obj
                   have hz4 := hbe.far.blk hz3 hgz
                   have b4 := b3.trans (hbe.far.below (B := w.heap.size) hszB hgB)
                   rw [hb1] at c1
                   rw [hb2] at c0
                   have hmay := may_calls X.1 A1 A2 n1 n2 w4 hv
                   rw [hM] at hmay
                   have hmay := Lib.hid hmay
                   have hO4 := hbe.obj
                   have hoe := hbe.ents
                   have hop := hbe.pars
                   have hc72 : (objC X.1 (.slice A1 X.1.ents.length n1) (.slice A2 X.1.pars.length n2)).toArray.size = 72 := by rw [List.size_toArray, objC_len hrok]
                   have hcone := objC_all X.1 A1 A2 X.1.ents.length n1 X.1.pars.length n2
                   clear hb1 hb2 hM
                   clear hrd hbe)
                | ((with_reducible refine hmay.out.mono ?_); rintro e w5 ⟨rfl, hb5⟩
                   have hz5 := hz4.below hb5 hz4.lt
                   have b5 := bthen b4 b4.size hb5
                   have hO5 := hO4.below hb5
                   have hoe5 := own_below hoe hb5
                   have hop5 := own_below hop hb5
                   have hv5 := hv.below hb5
                   have hq5 := hXk w5 _ _ hO5
                   generalize hcs : (objC X.1 (.slice A1 X.1.ents.length n1) (.slice A2 X.1.pars.length n2)).toArray = cs at *
                   have HCS := Lib.hid hcs
                   clear hcs hq4
                   clear hmay)
                | (refine wpList_store_row rfl 29 (.tmp 2) (.tmp 67) rfl w.heap.size cs rfl rfl _ _ hz5 (by rw [hc72]; exact szObj) (by rw [hc72]; rfl) hcone ?_))
              refine bodyPost_ret (results_row_tmp rfl _ _ w.heap.size _ _ _ _ rfl (setRow_heap _ _ _ _ _ _ hz5) Tryd.underlying29 rfl (by rw [hc72]; exact szObj)) rfl ⟨?_, below_setRow b5 (Nat.le_refl _) _⟩
              rw [hDn.out]
              exact ⟨A1, A2, n1, n2, by rw [HCS.out]; rfl, objV_row hrok hoe5 hop5 hzlt _⟩
          · have hDn : Hid (D = none) := by show _ = _; rw [hdec.out, if_pos (.inr (.inl hb2))]
            clear hdec hD
            have hb1 : X.2.2 = false := by simpa using hb1
            obtain ⟨x, xs, hx⟩ : ∃ x xs, X.2.1 = x :: xs := by
              cases hq : X.2.1 with
              | nil => exact absurd hq hb2
              | cons x xs => exact ⟨x, xs, rfl⟩
            clear hb2
            go_wp2_with (first
              | ((with_reducible refine hrd.out.mono ?_); rintro e w4 ⟨rfl, ve, vp, hbe⟩
                 have c0 := hbe.rd.c0
                 have c1 := hbe.rd.c1
                 obtain ⟨A1, A2, n1, n2, rfl, rfl, hv⟩ := Did.val hbe hrok
                 have hq4 := hXk w4 _ _ hbe.obj
                 have hz4 := hbe.far.blk hz3 hgz
                 have b4 := b3.trans (hbe.far.below (B := w.heap.size) hszB hgB)
                 rw [hb1] at c1
                 rw [hx] at c0
                 clear hq4 hv hb1 hx
                 clear hrd hbe)
              | (refine wpList_store_row rfl 29 (.tmp 2) (.tmp 66) rfl w.heap.size zObj rfl rfl _ _ hz4 hsz rfl hone ?_))
            refine bodyPost_ret (results_row_tmp rfl _ _ w.heap.size _ _ _ _ rfl (setRow_heap _ _ _ _ _ _ hz4) Tryd.underlying29 rfl hsz) rfl ⟨by rw [hDn.out]; rfl, below_setRow b4 (Nat.le_refl _) _⟩
end Go.Proofs.YtlanconcbpdneaaDoor
/- The walk of layer 4's document: guess at a tree. Condition: a text that is not great. -/
namespace Go.Proofs.YtlanconcbpdneaaDoor
open Go.RowKit
attribute [local go_sem ↓] ldvO_eq
theorem fold_at (q : Nat) (c0 : Array Value) (pre : List Value) (l : List Value) (hq : pre.length = q) (h0 : c0.size = q + l.length) (hp : ∀ i, i < q → c0[i]? = pre[i]?) :
    (l.zipIdx 0).foldl (fun cs (x : Value × Nat) => cs.setIfInBounds (q + x.2) x.1) c0 = (pre ++ l).toArray := by
  obtain ⟨h1, h2⟩ := Great.foldl_set q l 0 c0
  apply Array.ext_getElem?
  intro k
  rw [h2 k]
  by_cases hk : k < q
  · rw [if_neg (by omega), hp k hk]
    simp [List.getElem?_append_left (show k < pre.length by omega)]
  · by_cases hk2 : k < q + l.length
    · rw [if_pos ⟨by omega, by omega, by omega⟩]
      simp [List.getElem?_append_right (show pre.length ≤ k by omega), hq]
    · rw [if_neg (by omega), Array.getElem?_eq_none (by omega)]
      symm
      rw [Array.getElem?_eq_none (by simp; omega)]
theorem zEnt_cells : zEnt.cells.size = 34 := rfl
set_option maxRecDepth 100000 in
theorem built_entry (n : Txt) (k : Int) (id : Txt) (hid : id.length = 32) : Tryd.prog.built 53 [(1, .int .i64 k), (0, .string (B n)), (2, .agg (u8s id))] = some (entC ⟨n, k, id⟩).toArray := by
  obtain ⟨it, hi, hz, hs, hb⟩ := Tryd.entTy.hi
  have hpl : (match Tryd.prog.underlying 53 with | some (.struct fields) => fields.toList.mapM (fun f => (Tryd.prog.info? f.type).map fun i => (f.offset, i.size)) | _ => none) = some [(0, 1), (1, 1), (2, 32)] := by kernel_rfl
  have hu := Tryd.underlying53
  rw [hu] at hpl
  unfold Program.built
  rw [hi, hu]
  simp only [hz]
  simp only at hpl
  rw [hpl]
  have h34 := zEnt_cells
  have e0 : (Value.string (B n)).cells = #[.string (B n)] := rfl
  have e1 : (Value.int .i64 k).cells = #[.int .i64 k] := rfl
  have e2 : (Value.agg (u8s id)).cells = u8s id := rfl
  have f0 : ∀ c : Array Value, Array.foldl (fun cs (x : Value × Nat) => cs.setIfInBounds (0 + x.snd) x.fst) c (#[.string (B n)] : Array Value).zipIdx = c.setIfInBounds 0 (.string (B n)) := fun c => rfl
  have f1 : ∀ c : Array Value, Array.foldl (fun cs (x : Value × Nat) => cs.setIfInBounds (1 + x.snd) x.fst) c (#[.int .i64 k] : Array Value).zipIdx = c.setIfInBounds 1 (.int .i64 k) := fun c => rfl
  have f2 : ∀ c : Array Value, Array.foldl (fun cs (x : Value × Nat) => cs.setIfInBounds (2 + x.snd) x.fst) c (u8s id).zipIdx = (id.map u8v).zipIdx.foldl (fun cs (x : Value × Nat) => cs.setIfInBounds (2 + x.snd) x.fst) c := fun c => by
    rw [← Array.foldl_toList, Array.toList_zipIdx]
    rfl
  have g0 : (#[(0, 1), (1, 1), (2, 32)] : Array (Nat × Nat))[0]? = some (0, 1) := rfl
  have g1 : (#[(0, 1), (1, 1), (2, 32)] : Array (Nat × Nat))[1]? = some (1, 1) := rfl
  have g2 : (#[(0, 1), (1, 1), (2, 32)] : Array (Nat × Nat))[2]? = some (2, 32) := rfl
  have hfin : (id.map u8v).zipIdx.foldl (fun cs (x : Value × Nat) => cs.setIfInBounds (2 + x.snd) x.fst) ((zEnt.cells.setIfInBounds 1 (.int .i64 k)).setIfInBounds 0 (.string (B n))) = (entC ⟨n, k, id⟩).toArray := by
    rw [fold_at 2 _ [.string (B n), .int .i64 k] (id.map u8v) rfl (by rw [Array.size_setIfInBounds, Array.size_setIfInBounds, h34, List.length_map, hid]) (fun i hi => by
      rw [Array.getElem?_setIfInBounds, Array.getElem?_setIfInBounds]
      match i, hi with
      | 0, _ => simp [h34]
      | 1, _ => simp [h34])]
    unfold entC
    rw [show (u8s id).toList = id.map u8v from by simp [u8s]]
    rfl
  simp only [Instr.fill, g0, g1, g2, e0, e1, e2]
  rw [f1, if_neg (by simp [h34]), f0, if_neg (by simp [h34]), f2, if_neg (by simp [u8s_size, hid, h34]), hfin]
theorem takeN_le (s : Txt) : (takeN s).2 ≤ s.length ∧ (takeN s).1.length ≤ s.length := by
  by_cases h : (getN s).2 = 0
  · rw [takeN_zero h]; simp
  · by_cases h2 : s.length - (getN s).2 < (getN s).1
    · rw [takeN_short h h2]; simp
    · rw [takeN_yes h (by omega)]
      have := getN_le s
      simp
      omega
/-- What lies there while an object is guessed: the result's cells, and all that was. -/
structure GsI (w : World) (W : World) : Prop where
  z : Blk W w.heap.size 29 zObj
  bel : Below w.heap.size w W
theorem GsI.below {w W W' : World} (h : GsI w W) (hb : Below W.heap.size W W') : GsI w W' := ⟨h.z.below hb h.z.lt, bthen h.bel h.bel.size hb⟩
theorem GsI.low {w W W' : World} {B0 : Nat} (h : GsI w W) (hB : w.heap.size < B0) (hb : Below B0 W W') : GsI w W' := ⟨(hb.block _ hB).trans h.z, h.bel.trans (hb.mono (Nat.le_of_lt hB))⟩
theorem GsI.set_ {w W : World} (h : GsI w W) {g o : Nat} (hg : w.heap.size < g) (v : Value) : GsI w (W.setCell ⟨g, o, none⟩ v) := ⟨h.z.far (by simp; omega) v, h.bel.setCell (Nat.le_of_lt hg) v⟩
theorem GsI.cells_ {w W : World} (h : GsI w W) {g o : Nat} (hg : w.heap.size < g) (vs : List Value) : GsI w (W.setCells g o vs) :=
  ⟨(Far.cells (S := [some g]) (g := g) (.inl (by simp)) vs o W (Far.refl _ W)).blk h.z (by simp; omega), h.bel.trans ((Far.cells (S := [some g]) (g := g) (.inl (by simp)) vs o W (Far.refl _ W)).below h.bel.size (fun k hk => by simp at hk; omega))⟩
/-- What guess returns. -/
def GsR (o : ObjL) (w : World) (e : Ending) (w' : World) : Prop := (∃ A1 A2 k1 k2, e = .returned (.agg (objC o (.slice A1 o.ents.length k1) (.slice A2 o.pars.length k2)).toArray) ∧ ObjV w' (.slice A1 o.ents.length k1) (.slice A2 o.pars.length k2) o ∧ OwnEnts w' w.heap.size (.slice A1 o.ents.length k1) o.ents ∧ OwnIds w' w.heap.size (.slice A2 o.pars.length k2) o.pars) ∧ Below w.heap.size w w'
theorem own_low' {w : World} {base base' n size : Nat} {e : TypeId} {v : Value} {xs : List Value} (h : w.ownsRow base e size v n xs) (hb : base' ≤ base) : w.ownsRow base' e size v n xs := by
  refine ⟨h.1, ?_⟩
  rcases h.2 with h1 | ⟨g, cap, cur, h1, h2, h3⟩
  · exact .inl h1
  · exact .inr ⟨g, cap, cur, h1, Nat.le_trans hb h2, h3⟩
/-- The object is read out and returned. -/
theorem GsR.of {w W : World} {B0 : Nat} {o : ObjL} {ve vp : Value} (ho : ObjOk o) (hz : GsI w W) (he : OwnEnts W B0 ve o.ents) (hp : OwnIds W B0 vp o.pars) (hB : w.heap.size < B0) :
    GsR o w (.returned (.agg (objC o ve vp).toArray)) (W.setRow w.heap.size (objC o ve vp).toArray) := by
  have hv := objV_row ho he hp hB (objC o ve vp).toArray
  obtain ⟨A1, k1, e1, _⟩ := hv.ents
  obtain ⟨A2, k2, e2, _⟩ := hv.pars
  subst e1 e2
  exact ⟨⟨A1, A2, k1, k2, rfl, hv, own_low' (own_row he hB _) (Nat.le_of_lt hB), own_low' (own_row hp hB _) (Nat.le_of_lt hB)⟩, below_setRow hz.bel (Nat.le_refl _) _⟩
theorem zero_smallG : Small zeroO := ⟨by decide, by simp [zeroO], by decide, by decide, by decide, by decide⟩
theorem zero_okG (w : World) : ObjV w (.slice none 0 0) (.slice none 0 0) zeroO := ⟨⟨noId_len, noId_len, by simp [zeroO], by simp [zeroO], by decide, by decide, by decide, by decide, by decide, by decide, by decide, by decide⟩, SliceAt.nil, SliceAt.nil⟩
theorem objC_all' (o : ObjL) {ve vp : Value} {W : World} {B0 : Nat} (he : OwnEnts W B0 ve o.ents) (hp : OwnIds W B0 vp o.pars) : (objC o ve vp).toArray.all (·.oneCell') = true := by
  obtain ⟨A1, k1, rfl⟩ := own_form' he
  obtain ⟨A2, k2, rfl⟩ := own_form' hp
  exact objC_all o A1 A2 _ k1 _ k2
end Go.Proofs.YtlanconcbpdneaaDoor
/- The walks of layer 4's document: guess at a blob, a tag, another thing, and at nothing. Condition: a text that is not great. -/
namespace Go.Proofs.YtlanconcbpdneaaDoor
open Go.RowKit
attribute [local go_sem ↓] ldvO_eq
theorem ObjB.drewN {w : World} {g : Nat} {o : ObjL} {ve vp : Value} (h : ObjB w g o ve vp) (n : Nat) : ObjB (w.drewN n) g o ve vp := ⟨h.blk.drewN n, h.tr, h.ta⟩
theorem GsI.drewN {w W : World} (h : GsI w W) (n : Nat) : GsI w (W.drewN n) := ⟨h.z.drewN n, bdrewN h.bel n⟩
theorem plainO_ok (n : Int) (hn : 0 ≤ n) (hn2 : n < 256) (t : Txt) (ht : t.length ≤ 5000) : ObjOk ⟨n, t, [], noId, [], 0, [], noId, 0, []⟩ :=
  ⟨noId_len, noId_len, (fun _ h => by cases h), (fun _ h => by cases h), by show t.length ≤ _; omega, by simp, by simp, by simp, by show _ ≤ n; omega, by show n ≤ _; omega, by simp, by simp⟩
theorem tagO_ok (i : Txt) (hi : i.length = 32) (n : Int) (hn : 0 ≤ n) (hn2 : n < 256) (t : Txt) (ht : t.length ≤ 5000) : ObjOk ⟨4, [], [], noId, [], 0, [], i, n, t⟩ :=
  ⟨noId_len, hi, (fun _ h => by cases h), (fun _ h => by cases h), by simp, by simp, by show t.length ≤ _; omega, by simp, by simp, by simp, by show _ ≤ n; omega, by show n ≤ _; omega⟩
set_option maxRecDepth 100000 in
set_option maxHeartbeats 4000000 in
theorem guess_blob (c : UInt8) (q : Txt) (hl : q.length ≤ 5000) (hk : c.toNat = 1) (hn0 : ¬ (takeN q).2 = 0) (w : World) : Calls Tryd.prog 18 #[.string (B (c :: q))] w fun e w' => GsR ⟨1, (takeN q).1, [], noId, [], 0, [], noId, 0, []⟩ w e w' := by
  have HK := Lib.hid hk
  clear hk
  have hzv := zeroObj
  have hzl : zObj.size = 72 := zObj_size
  have htl : (takeN q).1.length ≤ q.length := (takeN_le q).2
  have htk : ∀ W, Calls Tryd.prog 35 #[.string (B q)] W fun e w' => e = .returned (.tuple #[.string (B (takeN q).1), .int .i64 (takeN q).2]) ∧ W = w' := fun W => (refTake_calls q (by omega) W).mono fun _ _ h => ⟨h.1, h.2.symm⟩
  generalize (takeN q).1 = t at *
  generalize (takeN q).2 = kn at *
  have hki : ((kn : Int) == 0) = false := by simp; omega
  have hex : (B (c :: q)).extract 1 (q.length + 1) = B q := by
    rw [extract_B]
    simp
  obtain ⟨W1, hW1⟩ : ∃ W1, w.alloc (.cells zObj 29) = W1 := ⟨_, rfl⟩
  have hx1 : Blk W1 w.heap.size 29 zObj := by rw [← hW1]; exact Blk.new _ _ _
  have b1 : Below w.heap.size w W1 := by rw [← hW1]; exact (Below.refl _ _).alloc (Nat.le_refl _) _
  have hs1 : w.heap.size < W1.heap.size := by rw [← hW1]; simp
  have htk := Lib.hid htk
  have hc0 : 0 ≤ (c.toNat : Int) := by omega
  have hc1 : (c.toNat : Int) < 256 := by have := c.toNat_lt; omega
  have hbd := built_kobj (c.toNat : Int)
  have e72 : (objC ⟨c.toNat, [], [], noId, [], 0, [], noId, 0, []⟩ (.slice none 0 0) (.slice none 0 0)).toArray.size = 72 := by rw [List.size_toArray]; unfold objC; simp only [List.length_cons, List.length_append, u8s_len, noId_len, List.length_nil]
  have eone : (objC ⟨c.toNat, [], [], noId, [], 0, [], noId, 0, []⟩ (.slice none 0 0) (.slice none 0 0)).toArray.all (·.oneCell') = true := by kernel_rfl
  obtain ⟨X, hX⟩ : ∃ X, Hid ((⟨1, t, [], noId, [], 0, [], noId, 0, []⟩ : ObjL) = X) := ⟨_, Lib.hid rfl⟩
  rw [hX.out]
  go_enter Tryd.func18, Tryd.ntmps18
  go_upto_if 26 with (first
    | ((with_reducible refine lit_build1 hbd ?_ ?_); rfl)
    | ((with_reducible refine lit_new 29 (.tmp 3) (.tmp 18) (objC ⟨c.toNat, [], [], noId, [], 0, [], noId, 0, []⟩ (.slice none 0 0) (.slice none 0 0)).toArray 72 szObj e72 eone _ ?_ ?_ ?_ ?_)
       · first | exact hzl | rfl
       · rfl
       · rfl
       intro W2 hb2 hbl2
       have hO2 : ObjB W2 W1.heap.size ⟨c.toNat, [], [], noId, [], 0, [], noId, 0, []⟩ (.slice none 0 0) (.slice none 0 0) := ⟨hb2, noId_len, noId_len⟩
       have hI2 : GsI w W2 := ⟨hx1.below hbl2 hx1.lt, bthen b1 b1.size hbl2⟩
       have hgOB : W1.heap.size < W2.heap.size := hb2.lt
       have tk2 := htk.out W2
       have tk2 := Lib.hid tk2
       clear hx1 b1 hb2 hbl2)
    | ((with_reducible refine tk2.out.mono ?_); rintro e w3 ⟨rfl, rfl⟩
       clear tk2))
  have ck := hO2.kind
  simp only at ck
  have hsO := hs1
  clear hW1 hbd e72 eone hs1
  generalize W1.heap.size = gO at *
  obtain ⟨BB, hBB⟩ : ∃ BB, BB = W2.heap.size := ⟨_, rfl⟩
  rw [← hBB] at hgOB
  have hnE : OwnEnts W2 BB (.slice none 0 0) [] := World.ownsRow_nil _ _ _ _
  have hnP : OwnIds W2 BB (.slice none 0 0) [] := World.ownsRow_nil _ _ _ _
  have hBs : BB ≤ W2.heap.size := by omega
  have hwB : w.heap.size < BB := by omega
  clear hBB
  rw [HK.out] at hO2 ck
  have hki2 : (c.toNat : Int) = 1 := by rw [HK.out]; rfl
  clear hc0 hc1
  have f1 := hO2.fr 1
  have d1 := hO2.data
  have hO3 : ObjB _ gO ⟨1, t, [], noId, [], 0, [], noId, 0, []⟩ _ _ := hO2.setData t
  have hI3 := hI2.set_ (o := 1) hsO (.string (B t))
  have hnE3 := own_set (p := ⟨gO, 1, none⟩) hnE hgOB (.string (B t))
  have hnP3 := own_set (p := ⟨gO, 1, none⟩) hnP hgOB (.string (B t))
  have hok : ObjOk (⟨1, t, [], noId, [], 0, [], noId, 0, []⟩ : ObjL) := plainO_ok 1 (by omega) (by omega) t (by omega)
  have hzF := hI3.z
  have hfin := Lib.hid (GsR.of hok hI3 hnE3 hnP3 hwB)
  have hq := run_ldvO hO3 hok
  have hc72 : (objC (⟨1, t, [], noId, [], 0, [], noId, 0, []⟩ : ObjL) (.slice none 0 0) (.slice none 0 0)).toArray.size = 72 := by rw [List.size_toArray, objC_len hok]
  have hcone := objC_all' (⟨1, t, [], noId, [], 0, [], noId, 0, []⟩ : ObjL) hnE3 hnP3
  clear hI3 hI2 hO2 hO3 hnE hnP hnE3 hnP3
  generalize hcs : (objC (⟨1, t, [], noId, [], 0, [], noId, 0, []⟩ : ObjL) (.slice none 0 0) (.slice none 0 0)).toArray = cs at *
  have HC := Lib.hid hcs
  clear hcs
  have hcsz : (Tryd.prog.info? 29).map (·.size) = some cs.size := by rw [hc72]; exact szObj
  go_wp2_with (first
    | (refine wpList_store_row rfl 29 (.tmp 2) (.tmp 138) rfl w.heap.size cs rfl rfl _ _ hzF hcsz (by rw [hzl, hc72]) hcone ?_))
  exact bodyPost_ret (results_cell_row rfl _ _ w.heap.size _ _ _ _ rfl (setRow_heap _ _ _ _ _ _ hzF) Tryd.underlying29 rfl hcsz) rfl (by rw [← hX.out]; exact hfin.out)
set_option maxRecDepth 100000 in
set_option maxHeartbeats 4000000 in
theorem guess_other (c : UInt8) (q : Txt) (hl : q.length ≤ 5000) (hk : c.toNat ≠ 1 ∧ c.toNat ≠ 2 ∧ c.toNat ≠ 3 ∧ c.toNat ≠ 4) (hn0 : ¬ (takeN q).2 = 0) (w : World) : Calls Tryd.prog 18 #[.string (B (c :: q))] w fun e w' => GsR (nObj c.toNat) w e w' := by
  have HK := Lib.hid hk
  clear hk
  have hzv := zeroObj
  have hzl : zObj.size = 72 := zObj_size
  have htl : (takeN q).1.length ≤ q.length := (takeN_le q).2
  have htk : ∀ W, Calls Tryd.prog 35 #[.string (B q)] W fun e w' => e = .returned (.tuple #[.string (B (takeN q).1), .int .i64 (takeN q).2]) ∧ W = w' := fun W => (refTake_calls q (by omega) W).mono fun _ _ h => ⟨h.1, h.2.symm⟩
  generalize (takeN q).1 = t at *
  generalize (takeN q).2 = kn at *
  have hki : ((kn : Int) == 0) = false := by simp; omega
  have hex : (B (c :: q)).extract 1 (q.length + 1) = B q := by
    rw [extract_B]
    simp
  obtain ⟨W1, hW1⟩ : ∃ W1, w.alloc (.cells zObj 29) = W1 := ⟨_, rfl⟩
  have hx1 : Blk W1 w.heap.size 29 zObj := by rw [← hW1]; exact Blk.new _ _ _
  have b1 : Below w.heap.size w W1 := by rw [← hW1]; exact (Below.refl _ _).alloc (Nat.le_refl _) _
  have hs1 : w.heap.size < W1.heap.size := by rw [← hW1]; simp
  have htk := Lib.hid htk
  have hc0 : 0 ≤ (c.toNat : Int) := by omega
  have hc1 : (c.toNat : Int) < 256 := by have := c.toNat_lt; omega
  have hbd := built_kobj (c.toNat : Int)
  have e72 : (objC ⟨c.toNat, [], [], noId, [], 0, [], noId, 0, []⟩ (.slice none 0 0) (.slice none 0 0)).toArray.size = 72 := by rw [List.size_toArray]; unfold objC; simp only [List.length_cons, List.length_append, u8s_len, noId_len, List.length_nil]
  have eone : (objC ⟨c.toNat, [], [], noId, [], 0, [], noId, 0, []⟩ (.slice none 0 0) (.slice none 0 0)).toArray.all (·.oneCell') = true := by kernel_rfl
  obtain ⟨X, hX⟩ : ∃ X, Hid (nObj c.toNat = X) := ⟨_, Lib.hid rfl⟩
  rw [hX.out]
  go_enter Tryd.func18, Tryd.ntmps18
  go_upto_if 26 with (first
    | ((with_reducible refine lit_build1 hbd ?_ ?_); rfl)
    | ((with_reducible refine lit_new 29 (.tmp 3) (.tmp 18) (objC ⟨c.toNat, [], [], noId, [], 0, [], noId, 0, []⟩ (.slice none 0 0) (.slice none 0 0)).toArray 72 szObj e72 eone _ ?_ ?_ ?_ ?_)
       · first | exact hzl | rfl
       · rfl
       · rfl
       intro W2 hb2 hbl2
       have hO2 : ObjB W2 W1.heap.size ⟨c.toNat, [], [], noId, [], 0, [], noId, 0, []⟩ (.slice none 0 0) (.slice none 0 0) := ⟨hb2, noId_len, noId_len⟩
       have hI2 : GsI w W2 := ⟨hx1.below hbl2 hx1.lt, bthen b1 b1.size hbl2⟩
       have hgOB : W1.heap.size < W2.heap.size := hb2.lt
       have tk2 := htk.out W2
       have tk2 := Lib.hid tk2
       clear hx1 b1 hb2 hbl2)
    | ((with_reducible refine tk2.out.mono ?_); rintro e w3 ⟨rfl, rfl⟩
       clear tk2))
  have ck := hO2.kind
  simp only at ck
  have hsO := hs1
  clear hW1 hbd e72 eone hs1
  generalize W1.heap.size = gO at *
  obtain ⟨BB, hBB⟩ : ∃ BB, BB = W2.heap.size := ⟨_, rfl⟩
  rw [← hBB] at hgOB
  have hnE : OwnEnts W2 BB (.slice none 0 0) [] := World.ownsRow_nil _ _ _ _
  have hnP : OwnIds W2 BB (.slice none 0 0) [] := World.ownsRow_nil _ _ _ _
  have hBs : BB ≤ W2.heap.size := by omega
  have hwB : w.heap.size < BB := by omega
  clear hBB
  have k1 : ((c.toNat : Int) == 1) = false := by have := HK.out.1; simp; omega
  have k2 : ((c.toNat : Int) == 2) = false := by have := HK.out.2.1; simp; omega
  have k3 : ((c.toNat : Int) == 3) = false := by have := HK.out.2.2.1; simp; omega
  have k4 : ((c.toNat : Int) == 4) = false := by have := HK.out.2.2.2; simp; omega
  have hok : ObjOk (⟨c.toNat, [], [], noId, [], 0, [], noId, 0, []⟩ : ObjL) := plainO_ok c.toNat hc0 hc1 [] (by simp)
  have hzF := hI2.z
  have hfin := Lib.hid (GsR.of hok hI2 hnE hnP hwB)
  have hq := run_ldvO hO2 hok
  have hc72 : (objC (⟨c.toNat, [], [], noId, [], 0, [], noId, 0, []⟩ : ObjL) (.slice none 0 0) (.slice none 0 0)).toArray.size = 72 := by rw [List.size_toArray, objC_len hok]
  have hcone := objC_all' (⟨c.toNat, [], [], noId, [], 0, [], noId, 0, []⟩ : ObjL) hnE hnP
  clear hI2 hO2 hnE hnP
  generalize hcs : (objC (⟨c.toNat, [], [], noId, [], 0, [], noId, 0, []⟩ : ObjL) (.slice none 0 0) (.slice none 0 0)).toArray = cs at *
  have HC := Lib.hid hcs
  clear hcs
  have hcsz : (Tryd.prog.info? 29).map (·.size) = some cs.size := by rw [hc72]; exact szObj
  go_wp2_with (first
    | (refine wpList_store_row rfl 29 (.tmp 2) (.tmp 138) rfl w.heap.size cs rfl rfl _ _ hzF hcsz (by rw [hzl, hc72]) hcone ?_))
  exact bodyPost_ret (results_cell_row rfl _ _ w.heap.size _ _ _ _ rfl (setRow_heap _ _ _ _ _ _ hzF) Tryd.underlying29 rfl hcsz) rfl (by rw [← hX.out]; exact hfin.out)
set_option maxRecDepth 100000 in
set_option maxHeartbeats 4000000 in
theorem guess_tag (c : UInt8) (q : Txt) (hl : q.length ≤ 5000) (hk : c.toNat = 4) (hn0 : ¬ (takeN q).2 = 0) (w : World) : Calls Tryd.prog 18 #[.string (B (c :: q))] w fun e w' => GsR (gTag (takeN q).1) w e w' := by
  have HK := Lib.hid hk
  clear hk
  have hzv := zeroObj
  have hzl : zObj.size = 72 := zObj_size
  have htl : (takeN q).1.length ≤ q.length := (takeN_le q).2
  have htk : ∀ W, Calls Tryd.prog 35 #[.string (B q)] W fun e w' => e = .returned (.tuple #[.string (B (takeN q).1), .int .i64 (takeN q).2]) ∧ W = w' := fun W => (refTake_calls q (by omega) W).mono fun _ _ h => ⟨h.1, h.2.symm⟩
  generalize (takeN q).1 = t at *
  generalize (takeN q).2 = kn at *
  have hki : ((kn : Int) == 0) = false := by simp; omega
  have hex : (B (c :: q)).extract 1 (q.length + 1) = B q := by
    rw [extract_B]
    simp
  obtain ⟨W1, hW1⟩ : ∃ W1, w.alloc (.cells zObj 29) = W1 := ⟨_, rfl⟩
  have hx1 : Blk W1 w.heap.size 29 zObj := by rw [← hW1]; exact Blk.new _ _ _
  have b1 : Below w.heap.size w W1 := by rw [← hW1]; exact (Below.refl _ _).alloc (Nat.le_refl _) _
  have hs1 : w.heap.size < W1.heap.size := by rw [← hW1]; simp
  have htk := Lib.hid htk
  have hc0 : 0 ≤ (c.toNat : Int) := by omega
  have hc1 : (c.toNat : Int) < 256 := by have := c.toNat_lt; omega
  have hbd := built_kobj (c.toNat : Int)
  have e72 : (objC ⟨c.toNat, [], [], noId, [], 0, [], noId, 0, []⟩ (.slice none 0 0) (.slice none 0 0)).toArray.size = 72 := by rw [List.size_toArray]; unfold objC; simp only [List.length_cons, List.length_append, u8s_len, noId_len, List.length_nil]
  have eone : (objC ⟨c.toNat, [], [], noId, [], 0, [], noId, 0, []⟩ (.slice none 0 0) (.slice none 0 0)).toArray.all (·.oneCell') = true := by kernel_rfl
  obtain ⟨X, hX⟩ : ∃ X, Hid (gTag t = X) := ⟨_, Lib.hid rfl⟩
  rw [hX.out]
  go_enter Tryd.func18, Tryd.ntmps18
  go_upto_if 26 with (first
    | ((with_reducible refine lit_build1 hbd ?_ ?_); rfl)
    | ((with_reducible refine lit_new 29 (.tmp 3) (.tmp 18) (objC ⟨c.toNat, [], [], noId, [], 0, [], noId, 0, []⟩ (.slice none 0 0) (.slice none 0 0)).toArray 72 szObj e72 eone _ ?_ ?_ ?_ ?_)
       · first | exact hzl | rfl
       · rfl
       · rfl
       intro W2 hb2 hbl2
       have hO2 : ObjB W2 W1.heap.size ⟨c.toNat, [], [], noId, [], 0, [], noId, 0, []⟩ (.slice none 0 0) (.slice none 0 0) := ⟨hb2, noId_len, noId_len⟩
       have hI2 : GsI w W2 := ⟨hx1.below hbl2 hx1.lt, bthen b1 b1.size hbl2⟩
       have hgOB : W1.heap.size < W2.heap.size := hb2.lt
       have tk2 := htk.out W2
       have tk2 := Lib.hid tk2
       clear hx1 b1 hb2 hbl2)
    | ((with_reducible refine tk2.out.mono ?_); rintro e w3 ⟨rfl, rfl⟩
       clear tk2))
  have ck := hO2.kind
  simp only at ck
  have hsO := hs1
  clear hW1 hbd e72 eone hs1
  generalize W1.heap.size = gO at *
  obtain ⟨BB, hBB⟩ : ∃ BB, BB = W2.heap.size := ⟨_, rfl⟩
  rw [← hBB] at hgOB
  have hnE : OwnEnts W2 BB (.slice none 0 0) [] := World.ownsRow_nil _ _ _ _
  have hnP : OwnIds W2 BB (.slice none 0 0) [] := World.ownsRow_nil _ _ _ _
  have hBs : BB ≤ W2.heap.size := by omega
  have hwB : w.heap.size < BB := by omega
  clear hBB
  rw [HK.out] at hO2 ck
  have hki2 : (c.toNat : Int) = 4 := by rw [HK.out]; rfl
  clear hc0 hc1
  have hXX : Hid ((⟨4, [], [], noId, [], 0, [], idG (t.drop 1), (t.headD 0).toNat, (takeN ((t.drop 1).drop 32)).1⟩ : ObjL) = X) := hX.out
  clear hX
  have hX := hXX
  clear hXX
  have hc8 : (t.headD 0).toNat < 256 := (t.headD 0).toNat_lt
  have hb1 : ∀ W, Calls Tryd.prog 36 #[.string (B t), .int .i64 1] W fun e w' => e = .returned (.string (B (t.drop 1))) ∧ ∃ nq, w' = W.drewN nq := fun W => behind_calls t 1 (by omega) (by omega) W
  have hd1 : (t.drop 1).length ≤ t.length := by rw [List.length_drop]; omega
  have hd2 : ((t.drop 1).drop 32).length ≤ t.length := by rw [List.length_drop, List.length_drop]; omega
  have hb2 : ∀ W, Calls Tryd.prog 36 #[.string (B (t.drop 1)), .int .i64 32] W fun e w' => e = .returned (.string (B ((t.drop 1).drop 32))) ∧ ∃ nq, w' = W.drewN nq := fun W => behind_calls (t.drop 1) 32 (by omega) (by omega) W
  have hgi := fun W => Lib.hid (gid_calls (t.drop 1) (by omega) W)
  have hi32 := idG_len (t.drop 1)
  have htk2 : ∀ W, Calls Tryd.prog 35 #[.string (B ((t.drop 1).drop 32))] W fun e w' => e = .returned (.tuple #[.string (B (takeN ((t.drop 1).drop 32)).1), .int .i64 (takeN ((t.drop 1).drop 32)).2]) ∧ W = w' := fun W => (refTake_calls ((t.drop 1).drop 32) (by omega) W).mono fun _ _ h => ⟨h.1, h.2.symm⟩
  have hnl := (takeN_le ((t.drop 1).drop 32)).2
  have hb1 := Lib.hid hb1
  have hb2 := Lib.hid hb2
  have htk2 := Lib.hid htk2
  generalize takeN ((t.drop 1).drop 32) = NM at *
  generalize (t.drop 1).drop 32 = R2 at *
  generalize idG (t.drop 1) = ID at *
  generalize t.drop 1 = R1 at *
  cases t with
  | nil =>
    go_upto_region 35 with (first
      | ((with_reducible refine (hb1.out _).mono ?_); rintro e w3 ⟨rfl, nq, rfl⟩
         have hO3 := (hO2).drewN nq
         have hI3 := (hI2).drewN nq)
      | ((with_reducible refine (hgi _).out.mono ?_); rintro e w4 ⟨rfl, hb4⟩
         have hO4 := hO3.below hb4
         have hI4 := hI3.below hb4
         have ht4 := hO4.there 38 32 (by omega)
         clear hO3 hI3)
      | ((with_reducible refine lit_store_id (.tmp 130) (.tmp 129) gO 38 ID hi32 ht4 ?_ ?_ ?_); rfl; rfl
         have hO5 := hO4.setTarget ID hi32
         have hI5 := hI4.cells_ (o := 38) hsO (u8s ID).toList
         clear hO4 hI4 ht4)
      | ((with_reducible refine (hb2.out _).mono ?_); rintro e w6 ⟨rfl, nq2, rfl⟩
         have hO6 := hO5.drewN nq2
         have hI6 := hI5.drewN nq2
         have f71 := hO6.fr 71
         have c71 := hO6.name
         clear hO5 hI5)
      | ((with_reducible refine (htk2.out _).mono ?_); rintro e w7 ⟨rfl, rfl⟩
         have hO7 := hO6.setName NM.1
         have hI7 := hI6.set_ (o := 71) hsO (.string (B NM.1))
         clear hO6 hI6))
    have hE7 : ∀ W, OwnEnts W BB (.slice none 0 0) [] := fun W => World.ownsRow_nil _ _ _ _
    have hP7 : ∀ W, OwnIds W BB (.slice none 0 0) [] := fun W => World.ownsRow_nil _ _ _ _
    have hok : ObjOk (⟨4, [], [], noId, [], 0, [], ID, 0, NM.1⟩ : ObjL) := tagO_ok ID hi32 0 (by omega) (by omega) NM.1 (by omega)
    have hzF := hI7.z
    have hfin := Lib.hid (GsR.of hok hI7 (hE7 _) (hP7 _) hwB)
    have hq := run_ldvO hO7 hok
    have hc72 : (objC (⟨4, [], [], noId, [], 0, [], ID, 0, NM.1⟩ : ObjL) (.slice none 0 0) (.slice none 0 0)).toArray.size = 72 := by rw [List.size_toArray, objC_len hok]
    have hcone := objC_all' (⟨4, [], [], noId, [], 0, [], ID, 0, NM.1⟩ : ObjL) (hE7 W2) (hP7 W2)
    clear hI7 hO7 hE7 hP7
    generalize hcs : (objC (⟨4, [], [], noId, [], 0, [], ID, 0, NM.1⟩ : ObjL) (.slice none 0 0) (.slice none 0 0)).toArray = cs at *
    have HC := Lib.hid hcs
    clear hcs
    have hcsz : (Tryd.prog.info? 29).map (·.size) = some cs.size := by rw [hc72]; exact szObj
    go_wp2_with (first
      | (refine wpList_store_row rfl 29 (.tmp 2) (.tmp 138) rfl w.heap.size cs rfl rfl _ _ hzF hcsz (by rw [hzl, hc72]) hcone ?_))
    exact bodyPost_ret (results_cell_row rfl _ _ w.heap.size _ _ _ _ rfl (setRow_heap _ _ _ _ _ _ hzF) Tryd.underlying29 rfl hcsz) rfl (by rw [← hX.out]; exact hfin.out)
  | cons d t1 =>
    have f70 := hO2.fr 70
    have c70 := hO2.of_
    have hd0 : 0 ≤ (d.toNat : Int) := by omega
    have hd1 : (d.toNat : Int) < 256 := by have := d.toNat_lt; omega
    have hOa := hO2.setOf d.toNat
    have hIa := hI2.set_ (o := 70) hsO (.int .i64 d.toNat)
    go_upto_region 35 with (first
      | ((with_reducible refine (hb1.out _).mono ?_); rintro e w3 ⟨rfl, nq, rfl⟩
         have hO3 := (hOa).drewN nq
         have hI3 := (hIa).drewN nq)
      | ((with_reducible refine (hgi _).out.mono ?_); rintro e w4 ⟨rfl, hb4⟩
         have hO4 := hO3.below hb4
         have hI4 := hI3.below hb4
         have ht4 := hO4.there 38 32 (by omega)
         clear hO3 hI3)
      | ((with_reducible refine lit_store_id (.tmp 130) (.tmp 129) gO 38 ID hi32 ht4 ?_ ?_ ?_); rfl; rfl
         have hO5 := hO4.setTarget ID hi32
         have hI5 := hI4.cells_ (o := 38) hsO (u8s ID).toList
         clear hO4 hI4 ht4)
      | ((with_reducible refine (hb2.out _).mono ?_); rintro e w6 ⟨rfl, nq2, rfl⟩
         have hO6 := hO5.drewN nq2
         have hI6 := hI5.drewN nq2
         have f71 := hO6.fr 71
         have c71 := hO6.name
         clear hO5 hI5)
      | ((with_reducible refine (htk2.out _).mono ?_); rintro e w7 ⟨rfl, rfl⟩
         have hO7 := hO6.setName NM.1
         have hI7 := hI6.set_ (o := 71) hsO (.string (B NM.1))
         clear hO6 hI6))
    have hE7 : ∀ W, OwnEnts W BB (.slice none 0 0) [] := fun W => World.ownsRow_nil _ _ _ _
    have hP7 : ∀ W, OwnIds W BB (.slice none 0 0) [] := fun W => World.ownsRow_nil _ _ _ _
    have hok : ObjOk (⟨4, [], [], noId, [], 0, [], ID, d.toNat, NM.1⟩ : ObjL) := tagO_ok ID hi32 d.toNat hd0 hd1 NM.1 (by omega)
    have hzF := hI7.z
    have hfin := Lib.hid (GsR.of hok hI7 (hE7 _) (hP7 _) hwB)
    have hq := run_ldvO hO7 hok
    have hc72 : (objC (⟨4, [], [], noId, [], 0, [], ID, d.toNat, NM.1⟩ : ObjL) (.slice none 0 0) (.slice none 0 0)).toArray.size = 72 := by rw [List.size_toArray, objC_len hok]
    have hcone := objC_all' (⟨4, [], [], noId, [], 0, [], ID, d.toNat, NM.1⟩ : ObjL) (hE7 W2) (hP7 W2)
    clear hI7 hO7 hE7 hP7
    generalize hcs : (objC (⟨4, [], [], noId, [], 0, [], ID, d.toNat, NM.1⟩ : ObjL) (.slice none 0 0) (.slice none 0 0)).toArray = cs at *
    have HC := Lib.hid hcs
    clear hcs
    have hcsz : (Tryd.prog.info? 29).map (·.size) = some cs.size := by rw [hc72]; exact szObj
    go_wp2_with (first
      | (refine wpList_store_row rfl 29 (.tmp 2) (.tmp 138) rfl w.heap.size cs rfl rfl _ _ hzF hcsz (by rw [hzl, hc72]) hcone ?_))
    exact bodyPost_ret (results_cell_row rfl _ _ w.heap.size _ _ _ _ rfl (setRow_heap _ _ _ _ _ _ hzF) Tryd.underlying29 rfl hcsz) rfl (by rw [← hX.out]; exact hfin.out)
end Go.Proofs.YtlanconcbpdneaaDoor
/- The walk of layer 4's document: guess at a tree. Condition: a text that is not great. -/
namespace Go.Proofs.YtlanconcbpdneaaDoor
open Go.RowKit
attribute [local go_sem ↓] ldvO_eq
theorem gEnt_ok (d : UInt8) (t : Txt) (h : t.length ≤ 1000000) : EntOk (gEnt d t) := by
  have h1 := (takeN_le t).2
  have h2 := d.toNat_lt
  exact ⟨idG_len _, by show (takeN t).1.length ≤ _; omega, by show _ ≤ (d.toNat : Int); omega, by show (d.toNat : Int) ≤ _; omega⟩
theorem gTree_ok : ∀ (f : Nat) (t : Txt) (acc : List EntL), t.length ≤ 1000000 → (∀ e ∈ acc, EntOk e) → ∀ e ∈ gTree f t acc, EntOk e
  | 0, t, acc, _, h => by rw [gTree]; exact h; intro a b c hc; cases hc
  | f + 1, [], acc, _, h => by rw [gTree]; exact h; intro a b c hc hd; cases hd
  | f + 1, d :: t, acc, hl, h => by
    rw [gTree]
    simp only [List.length_cons] at hl
    refine gTree_ok f _ _ (by simp only [List.length_drop]; omega) ?_
    intro e he
    rcases List.mem_append.1 he with he | he
    · exact h e he
    · obtain rfl := List.mem_singleton.1 he
      exact gEnt_ok d t (by omega)
theorem gTree_end {f : Nat} {t : Txt} {acc : List EntL} (h : f = 0 ∨ t = []) : gTree f t acc = acc := by
  rcases h with rfl | rfl
  · rw [gTree]; intro a b c hc; cases hc
  · cases f with
    | zero => rw [gTree]; intro a b c hc; cases hc
    | succ f => rw [gTree]; intro a b c hc hd; cases hd
theorem gTree_step {f : Nat} {d : UInt8} {t : Txt} {acc : List EntL} : gTree (f + 1) (d :: t) acc = gTree f ((t.drop (takeN t).2).drop 32) (acc ++ [⟨(takeN t).1, d.toNat, idG (t.drop (takeN t).2)⟩]) := by rw [gTree]; rfl
theorem treeO_ok (n : Int) (hn : 0 ≤ n) (hn2 : n < 256) (l : List EntL) (h : ∀ e ∈ l, EntOk e) : ObjOk ⟨n, [], l, noId, [], 0, [], noId, 0, []⟩ :=
  ⟨noId_len, noId_len, h, (fun _ h => by cases h), by simp, by simp, by simp, by simp, by show _ ≤ n; omega, by show n ≤ _; omega, by simp, by simp⟩
set_option maxRecDepth 100000 in
set_option maxHeartbeats 4000000 in
theorem guess_tree (c : UInt8) (q : Txt) (hl : q.length ≤ 5000) (hk : c.toNat = 2) (hn0 : ¬ (takeN q).2 = 0) (w : World) : Calls Tryd.prog 18 #[.string (B (c :: q))] w fun e w' => GsR ⟨2, [], gTree 65 (takeN q).1 [], noId, [], 0, [], noId, 0, []⟩ w e w' := by
  have hgok := Lib.hid (gTree_ok 65 (takeN q).1 [] (by have := (takeN_le q).2; omega) (by simp))
  have HK := Lib.hid hk
  clear hk
  have hzv := zeroObj
  have hzl : zObj.size = 72 := zObj_size
  have htl : (takeN q).1.length ≤ q.length := (takeN_le q).2
  have htk : ∀ W, Calls Tryd.prog 35 #[.string (B q)] W fun e w' => e = .returned (.tuple #[.string (B (takeN q).1), .int .i64 (takeN q).2]) ∧ W = w' := fun W => (refTake_calls q (by omega) W).mono fun _ _ h => ⟨h.1, h.2.symm⟩
  generalize (takeN q).1 = t at *
  generalize (takeN q).2 = kn at *
  have hki : ((kn : Int) == 0) = false := by simp; omega
  have hex : (B (c :: q)).extract 1 (q.length + 1) = B q := by
    rw [extract_B]
    simp
  obtain ⟨W1, hW1⟩ : ∃ W1, w.alloc (.cells zObj 29) = W1 := ⟨_, rfl⟩
  have hx1 : Blk W1 w.heap.size 29 zObj := by rw [← hW1]; exact Blk.new _ _ _
  have b1 : Below w.heap.size w W1 := by rw [← hW1]; exact (Below.refl _ _).alloc (Nat.le_refl _) _
  have hs1 : w.heap.size < W1.heap.size := by rw [← hW1]; simp
  have htk := Lib.hid htk
  have hc0 : 0 ≤ (c.toNat : Int) := by omega
  have hc1 : (c.toNat : Int) < 256 := by have := c.toNat_lt; omega
  have hbd := built_kobj (c.toNat : Int)
  have e72 : (objC ⟨c.toNat, [], [], noId, [], 0, [], noId, 0, []⟩ (.slice none 0 0) (.slice none 0 0)).toArray.size = 72 := by rw [List.size_toArray]; unfold objC; simp only [List.length_cons, List.length_append, u8s_len, noId_len, List.length_nil]
  have eone : (objC ⟨c.toNat, [], [], noId, [], 0, [], noId, 0, []⟩ (.slice none 0 0) (.slice none 0 0)).toArray.all (·.oneCell') = true := by kernel_rfl
  obtain ⟨X, hX⟩ : ∃ X, Hid ((⟨2, [], gTree 65 t [], noId, [], 0, [], noId, 0, []⟩ : ObjL) = X) := ⟨_, Lib.hid rfl⟩
  rw [hX.out]
  go_enter Tryd.func18, Tryd.ntmps18
  go_upto_if 26 with (first
    | ((with_reducible refine lit_build1 hbd ?_ ?_); rfl)
    | ((with_reducible refine lit_new 29 (.tmp 3) (.tmp 18) (objC ⟨c.toNat, [], [], noId, [], 0, [], noId, 0, []⟩ (.slice none 0 0) (.slice none 0 0)).toArray 72 szObj e72 eone _ ?_ ?_ ?_ ?_)
       · first | exact hzl | rfl
       · rfl
       · rfl
       intro W2 hb2 hbl2
       have hO2 : ObjB W2 W1.heap.size ⟨c.toNat, [], [], noId, [], 0, [], noId, 0, []⟩ (.slice none 0 0) (.slice none 0 0) := ⟨hb2, noId_len, noId_len⟩
       have hI2 : GsI w W2 := ⟨hx1.below hbl2 hx1.lt, bthen b1 b1.size hbl2⟩
       have hgOB : W1.heap.size < W2.heap.size := hb2.lt
       have tk2 := htk.out W2
       have tk2 := Lib.hid tk2
       clear hx1 b1 hb2 hbl2)
    | ((with_reducible refine tk2.out.mono ?_); rintro e w3 ⟨rfl, rfl⟩
       clear tk2))
  have ck := hO2.kind
  simp only at ck
  have hsO := hs1
  clear hW1 hbd e72 eone hs1
  generalize W1.heap.size = gO at *
  obtain ⟨BB, hBB⟩ : ∃ BB, BB = W2.heap.size := ⟨_, rfl⟩
  rw [← hBB] at hgOB
  have hnE : OwnEnts W2 BB (.slice none 0 0) [] := World.ownsRow_nil _ _ _ _
  have hnP : OwnIds W2 BB (.slice none 0 0) [] := World.ownsRow_nil _ _ _ _
  have hBs : BB ≤ W2.heap.size := by omega
  have hwB : w.heap.size < BB := by omega
  clear hBB
  rw [HK.out] at hO2 ck
  clear hnP
  have hki2 : (c.toNat : Int) = 2 := by rw [HK.out]; rfl
  obtain ⟨Y, hY⟩ : ∃ Y, Hid (gTree 65 t [] = Y) := ⟨_, Lib.hid rfl⟩
  rw [hY.out] at hX hgok
  clear hc0 hc1
  go_wp2_with (fail)
  clear hki hki2 ck HK
  go_loopg [4, 6] 65 (fun f s4 s6 wr => ∃ (n : Nat) (t' : Txt) (acc : List EntL) (ve : Value), s6 = .int .i64 n ∧ s4 = .string (B t') ∧ n + f ≤ 65 ∧ 65 ≤ n + f ∧ acc.length ≤ n ∧ t'.length ≤ 5000 ∧ Hid (gTree f t' acc = Y) ∧ OwnEnts wr BB ve acc ∧ ObjB wr gO ⟨2, [], acc, noId, [], 0, [], noId, 0, []⟩ ve (.slice none 0 0) ∧ GsI w wr ∧ BB ≤ wr.heap.size)
  case atStart => exact ⟨0, t, [], .slice none 0 0, rfl, rfl, by omega, by omega, by simp, by omega, hY, hnE, hO2, hI2, hBs⟩
  case round =>
    obtain ⟨n, t', acc, ve, rfl, rfl, hn1, hn2, hacc, ht', hrel, hown, hOb, hI, hsz⟩ := hrel
    clear hnE hO2 hI2 hBs
    by_cases hend : gk = 0 ∨ t' = []
    · have hx : Hid (acc = Y) := by show _ = _; rw [← hrel.out]; exact (gTree_end hend).symm
      rw [hx.out] at hown hOb
      clear hrel hacc hx
      have hnP : OwnIds wr BB (.slice none 0 0) [] := World.ownsRow_nil _ _ _ _
      have hok : ObjOk (⟨2, [], Y, noId, [], 0, [], noId, 0, []⟩ : ObjL) := treeO_ok 2 (by omega) (by omega) Y hgok.out
      have hzF := hI.z
      have hfin := Lib.hid (GsR.of hok hI hown hnP hwB)
      have hq := run_ldvO hOb hok
      have hc72 : (objC (⟨2, [], Y, noId, [], 0, [], noId, 0, []⟩ : ObjL) ve (.slice none 0 0)).toArray.size = 72 := by rw [List.size_toArray, objC_len hok]
      have hcone := objC_all' (⟨2, [], Y, noId, [], 0, [], noId, 0, []⟩ : ObjL) hown hnP
      clear hI hown hOb hnP
      generalize hcs : (objC (⟨2, [], Y, noId, [], 0, [], noId, 0, []⟩ : ObjL) ve (.slice none 0 0)).toArray = cs at *
      have HC := Lib.hid hcs
      clear hcs
      have hcsz : (Tryd.prog.info? 29).map (·.size) = some cs.size := by rw [hc72]; exact szObj
      by_cases hlt : n < 65
      · obtain rfl : t' = [] := by
          rcases hend with h | h
          · omega
          · exact h
        have hlti : (n : Int) < 65 := by omega
        clear hend
        go_wp2_with (first
          | (refine wpList_store_row rfl 29 (.tmp 2) (.tmp 138) rfl w.heap.size cs rfl rfl _ _ hzF hcsz (by rw [hzl, hc72]) hcone ?_))
        exact bodyPost_ret (results_cell_row rfl _ _ w.heap.size _ _ _ _ rfl (setRow_heap _ _ _ _ _ _ hzF) Tryd.underlying29 rfl hcsz) rfl (by rw [← hX.out]; exact hfin.out)
      · have hlti : ¬ (n : Int) < 65 := by omega
        clear hend
        go_wp2_with (first
          | (refine wpList_store_row rfl 29 (.tmp 2) (.tmp 138) rfl w.heap.size cs rfl rfl _ _ hzF hcsz (by rw [hzl, hc72]) hcone ?_))
        exact bodyPost_ret (results_cell_row rfl _ _ w.heap.size _ _ _ _ rfl (setRow_heap _ _ _ _ _ _ hzF) Tryd.underlying29 rfl hcsz) rfl (by rw [← hX.out]; exact hfin.out)
    · cases gk with
      | zero => exact absurd (.inl rfl) hend
      | succ f =>
      match t', hend with
      | [], hend => exact absurd (.inr rfl) hend
      | d :: t1, _ =>
        clear hend
        have hlti : (n : Int) < 65 := by omega
        simp only [List.length_cons] at ht'
        rw [gTree_step] at hrel
        have hm := (takeN_le t1).1
        have hnm := (takeN_le t1).2
        have htk1 : ∀ W, Calls Tryd.prog 35 #[.string (B t1)] W fun e w' => e = .returned (.tuple #[.string (B (takeN t1).1), .int .i64 (takeN t1).2]) ∧ W = w' := fun W => (refTake_calls t1 (by omega) W).mono fun _ _ h => ⟨h.1, h.2.symm⟩
        have hbe1 : ∀ W, Calls Tryd.prog 36 #[.string (B (d :: t1)), .int .i64 (1 + ((takeN t1).2 : Int))] W fun e w' => e = .returned (.string (B (t1.drop (takeN t1).2))) ∧ ∃ nq, w' = W.drewN nq := fun W => by
          have := behind_calls (d :: t1) (1 + (takeN t1).2) (by simp only [List.length_cons]; omega) (by omega) W
          rw [Int.natCast_add, Nat.add_comm 1, List.drop_succ_cons] at this
          exact this
        have hbe2 : ∀ W, Calls Tryd.prog 36 #[.string (B (t1.drop (takeN t1).2)), .int .i64 32] W fun e w' => e = .returned (.string (B ((t1.drop (takeN t1).2).drop 32))) ∧ ∃ nq, w' = W.drewN nq := fun W => behind_calls (t1.drop (takeN t1).2) 32 (by rw [List.length_drop]; omega) (by omega) W
        have hrl : (t1.drop (takeN t1).2).length ≤ t1.length := by rw [List.length_drop]; omega
        have hidc := fun W => Lib.hid (gid_calls (t1.drop (takeN t1).2) (by omega) W)
        have hex1 : (B (d :: t1)).extract 1 (t1.length + 1) = B t1 := by
          rw [extract_B]
          simp
        have hdl : ((t1.drop (takeN t1).2).drop 32).length ≤ 5000 := by rw [List.length_drop]; omega
        generalize (t1.drop (takeN t1).2).drop 32 = RR at *
        generalize t1.drop (takeN t1).2 = RS at *
        generalize (takeN t1).1 = NM at *
        generalize (takeN t1).2 = m at *
        have htk1 := Lib.hid htk1
        have hbe1 := Lib.hid hbe1
        have hbe2 := Lib.hid hbe2
        have hd0 : 0 ≤ (d.toNat : Int) := by omega
        have hd1 : (d.toNat : Int) < 256 := by have := d.toNat_lt; omega
        have hm0 : (m : Int) ≤ 5000 := by omega
        clear hex tk2
        go_upto_region 14 with (first
          | ((with_reducible refine (htk1.out _).mono ?_); rintro e w3 ⟨rfl, rfl⟩)
          | ((with_reducible refine (hbe1.out _).mono ?_); rintro e w4 ⟨rfl, nq, rfl⟩))
        all_goals try (exfalso; omega)
        have hbd := built_entry NM (d.toNat : Int) (idG RS) (idG_len RS)
        have hxok : EntOk ⟨NM, d.toNat, idG RS⟩ := ⟨idG_len RS, by show NM.length ≤ _; omega, by show _ ≤ (d.toNat : Int); omega, by show (d.toNat : Int) ≤ _; omega⟩
        have hotr := hOb.tr
        have hota := hOb.ta
        have hF1 : F1 BB gO 29 (objC ⟨2, [], acc, noId, [], 0, [], noId, 0, []⟩ ve (.slice none 0 0)).toArray 53 34 ve acc.length (rowsOf entC acc) (GsI w) (fun _ => True) (wr.drewN nq).drew := ⟨(hOb.blk.drewN nq).drew, hown, ⟨(hI.z.drewN nq).drew, (bdrewN hI.bel nq).drew⟩, trivial, hsz⟩
        have hcO : (objC ⟨2, [], acc, noId, [], 0, [], noId, 0, []⟩ ve (.slice none 0 0)).toArray.size = 72 := by rw [List.size_toArray]; unfold objC; simp only [List.length_cons, List.length_append, u8s_len, noId_len, List.length_nil]
        have hve : (objC ⟨2, [], acc, noId, [], 0, [], noId, 0, []⟩ ve (.slice none 0 0)).toArray[2]? = some ve := rfl
        have hset : Hid (∀ v' : Value, (objC ⟨2, [], acc, noId, [], 0, [], noId, 0, []⟩ ve (.slice none 0 0)).toArray.setIfInBounds 2 v' = (objC ⟨2, [], acc ++ [⟨NM, d.toNat, idG RS⟩], noId, [], 0, [], noId, 0, []⟩ v' (.slice none 0 0)).toArray) := fun v' => by rw [List.setIfInBounds_toArray]; rfl
        have hrow : Hid (rowsOf entC acc ++ entC ⟨NM, d.toNat, idG RS⟩ = rowsOf entC (acc ++ [⟨NM, d.toNat, idG RS⟩])) := by show _ = _; rw [rowsOf_append, rowsOf_one]
        have hm1 : acc.length + 1 ≤ 9223372036854775807 := by omega
        have hm2 : (acc.length + 1) * 56 ≤ 140737488355328 := by omega
        have hIb := fun w1 w2 (h : GsI w w1) (hb : Below w1.heap.size w1 w2) => h.below hb
        have hIB := fun w1 w2 (h : GsI w w1) (hb : Below BB w1 w2) => h.low hwB hb
        have hIs := fun v w1 (h : GsI w w1) => h.set_ (o := 2) hsO v
        have hJb := fun (w1 w2 : World) (_ : True) (_ : Below w1.heap.size w1 w2) => trivial
        clear hOb hown hI htk1 hbe1
        generalize (objC ⟨2, [], acc, noId, [], 0, [], noId, 0, []⟩ ve (.slice none 0 0)).toArray = cO at *
        generalize hxx : (⟨NM, d.toNat, idG RS⟩ : EntL) = x at *
        clear hxx
        obtain ⟨n', hn'⟩ : ∃ n', Hid (acc.length = n') := ⟨_, Lib.hid rfl⟩
        rw [hn'.out] at hF1 hm1 hm2
        obtain ⟨xs, hxs⟩ : ∃ xs, Hid (rowsOf entC acc = xs) := ⟨_, Lib.hid rfl⟩
        rw [hxs.out] at hF1
        obtain ⟨II, hII⟩ : ∃ II, Hid (GsI w = II) := ⟨_, Lib.hid rfl⟩
        rw [hII.out] at hF1
        have hIb : ∀ w1 w2, II w1 → Below w1.heap.size w1 w2 → II w2 := hII.out ▸ hIb
        have hIB : ∀ w1 w2, II w1 → Below BB w1 w2 → II w2 := hII.out ▸ hIB
        have hIs : ∀ v w1, II w1 → II (w1.setCell ⟨gO, 2, none⟩ v) := hII.out ▸ hIs
        obtain ⟨V, hV⟩ : ∃ V : Nat → Value, V = fun i => [(.pointer (some ⟨gO, 2, none⟩)), ve, (.string (B (d :: t1))), (.int .u8 d.toNat), (.int .i64 d.toNat), (.string (B NM)), (.string (B RS)), (.agg (u8s (idG RS))), (.agg (entC x).toArray), undef, undef, (.pointer (some ⟨gO, 2, none⟩)), undef].getD i undef := ⟨_, rfl⟩
        have v0 : V 0 = (.pointer (some ⟨gO, 2, none⟩)) := by rw [hV]; rfl
        have v1 : V 1 = ve := by rw [hV]; rfl
        have v2 : V 2 = (.string (B (d :: t1))) := by rw [hV]; rfl
        have v3 : V 3 = (.int .u8 d.toNat) := by rw [hV]; rfl
        have v4 : V 4 = (.int .i64 d.toNat) := by rw [hV]; rfl
        have v5 : V 5 = (.string (B NM)) := by rw [hV]; rfl
        have v6 : V 6 = (.string (B RS)) := by rw [hV]; rfl
        have v7 : V 7 = (.agg (u8s (idG RS))) := by rw [hV]; rfl
        have v8 : V 8 = (.agg (entC x).toArray) := by rw [hV]; rfl
        have v11 : V 11 = (.pointer (some ⟨gO, 2, none⟩)) := by rw [hV]; rfl
        have v12 : V 12 = undef := by rw [hV]; rfl
        clear hV
        refine wp_region_listed (C := Stage 10 12 (F1 BB gO 29 cO 53 34 ve n' xs II (fun _ => True)) (F2 BB gO 29 cO II) (F3 BB gO 2 29 cO 53 34 n' xs (entC x) II)) (R := StR V 9 10 (LitR BB 53 ve (entC x)) (AppR BB 53 34 n' xs (entC x))) (by kernel_rfl) (by kernel_rfl) (by kernel_rfl) ?_ ?_ ?_ ?_
        · exact sizes_spec (n := 139) (by kernel_rfl)
        · exact Stage.start hF1
        · intro i o listed a w1 ho hi hL
          have hin := (ready_spec hi).1
          have hsz : listed.size = 13 := hL.size
          match i, ho with
          | 0, ho =>
            obtain rfl := (Option.some.inj ho).symm
            have e0 : a.tmps[3]?.getD undef = (.pointer (some ⟨gO, 0, none⟩)) := (slot_eval a 3).trans (hL.get_old hi (by kernel_rfl))
            have hc := Stage.same (i := 0) hL.cls (by decide) (by decide)
            refine step_wp rfl rfl ?_
            clear hi ho hL hin
            refine wp_val (v := (.pointer (some ⟨gO, 2, none⟩))) ?_ ⟨_, rfl, StR.mk (by decide) (by decide) v0.symm, hc, fun _ _ _ h => h⟩
            clear v0 v1 v2 v3 v4 v5 v6 v7 v8 v11 v12 hc
            unfold execOp
            go_simp
          | 1, ho =>
            obtain rfl := (Option.some.inj ho).symm
            have hla : listed.getD 10 false = false := hL.later (j := 10) hi (by kernel_rfl)
            have hls : listed.getD 12 false = false := hL.later2 hla (by kernel_rfl)
            have hc1 := Stage.one hL.cls hla hls
            have e0 : a.tmps[54]?.getD undef = (.pointer (some ⟨gO, 2, none⟩)) := (slot_eval a 54).trans (((hL.get_new (j := 0) hi (by kernel_rfl)).at_ (by decide) (by decide)).trans v0)
            have hc := Stage.same (i := 1) hL.cls (by decide) (by decide)
            refine step_wp rfl rfl ?_
            clear hi ho hL hin
            refine wp_val (v := ve) ?_ ⟨_, rfl, StR.mk (by decide) (by decide) v1.symm, hc, fun _ _ _ h => h⟩
            have f0 : w1.cell? ⟨gO, 2, none⟩ = some ve := by rw [hc1.blk.cell]; exact hve
            clear hc1
            clear v0 v1 v2 v3 v4 v5 v6 v7 v8 v11 v12 hc
            unfold execOp
            go_simp
          | 2, ho =>
            obtain rfl := (Option.some.inj ho).symm
            have e0 : a.tmps[4]?.getD undef = (.string (B (d :: t1))) := (slot_eval a 4).trans (hL.get_old hi (by kernel_rfl))
            have hc := Stage.same (i := 2) hL.cls (by decide) (by decide)
            refine step_wp rfl rfl ?_
            clear hi ho hL hin
            refine wp_val (v := (.string (B (d :: t1)))) ?_ ⟨_, rfl, StR.mk (by decide) (by decide) v2.symm, hc, fun _ _ _ h => h⟩
            clear v0 v1 v2 v3 v4 v5 v6 v7 v8 v11 v12 hc
            unfold execOp
            go_simp
          | 3, ho =>
            obtain rfl := (Option.some.inj ho).symm
            have e0 : a.tmps[56]?.getD undef = (.string (B (d :: t1))) := (slot_eval a 56).trans (((hL.get_new (j := 2) hi (by kernel_rfl)).at_ (by decide) (by decide)).trans v2)
            have hc := Stage.same (i := 3) hL.cls (by decide) (by decide)
            refine step_wp rfl rfl ?_
            clear hi ho hL hin
            refine wp_val (v := (.int .u8 d.toNat)) ?_ ⟨_, rfl, StR.mk (by decide) (by decide) v3.symm, hc, fun _ _ _ h => h⟩
            clear v0 v1 v2 v3 v4 v5 v6 v7 v8 v11 v12 hc
            unfold execOp
            go_simp
          | 4, ho =>
            obtain rfl := (Option.some.inj ho).symm
            have e0 : a.tmps[57]?.getD undef = (.int .u8 d.toNat) := (slot_eval a 57).trans (((hL.get_new (j := 3) hi (by kernel_rfl)).at_ (by decide) (by decide)).trans v3)
            have hc := Stage.same (i := 4) hL.cls (by decide) (by decide)
            refine step_wp rfl rfl ?_
            clear hi ho hL hin
            refine wp_val (v := (.int .i64 d.toNat)) ?_ ⟨_, rfl, StR.mk (by decide) (by decide) v4.symm, hc, fun _ _ _ h => h⟩
            clear v0 v1 v2 v3 v4 v5 v6 v7 v8 v11 v12 hc
            unfold execOp
            go_simp
            exact IntWalk.i64_in _ (by omega)
          | 5, ho =>
            obtain rfl := (Option.some.inj ho).symm
            have e0 : a.tmps[7]?.getD undef = (.string (B NM)) := (slot_eval a 7).trans (hL.get_old hi (by kernel_rfl))
            have hc := Stage.same (i := 5) hL.cls (by decide) (by decide)
            refine step_wp rfl rfl ?_
            clear hi ho hL hin
            refine wp_val (v := (.string (B NM))) ?_ ⟨_, rfl, StR.mk (by decide) (by decide) v5.symm, hc, fun _ _ _ h => h⟩
            clear v0 v1 v2 v3 v4 v5 v6 v7 v8 v11 v12 hc
            unfold execOp
            go_simp
          | 6, ho =>
            obtain rfl := (Option.some.inj ho).symm
            have e0 : a.tmps[9]?.getD undef = (.string (B RS)) := (slot_eval a 9).trans (hL.get_old hi (by kernel_rfl))
            have hc := Stage.same (i := 6) hL.cls (by decide) (by decide)
            refine step_wp rfl rfl ?_
            clear hi ho hL hin
            refine wp_val (v := (.string (B RS))) ?_ ⟨_, rfl, StR.mk (by decide) (by decide) v6.symm, hc, fun _ _ _ h => h⟩
            clear v0 v1 v2 v3 v4 v5 v6 v7 v8 v11 v12 hc
            unfold execOp
            go_simp
          | 7, ho =>
            obtain rfl := (Option.some.inj ho).symm
            have hla : listed.getD 10 false = false := hL.later2 (hL.later2 (hL.later (j := 8) hi (by kernel_rfl)) (by kernel_rfl : waitsB _ 9 8 = true)) (by kernel_rfl)
            have hls : listed.getD 12 false = false := hL.later2 hla (by kernel_rfl)
            have hc1 := Stage.one hL.cls hla hls
            have e0 : a.tmps[60]?.getD undef = (.string (B RS)) := (slot_eval a 60).trans (((hL.get_new (j := 6) hi (by kernel_rfl)).at_ (by decide) (by decide)).trans v6)
            refine step_wp rfl rfl ?_
            refine call_step rfl (vals := #[.string (B RS)]) (map1 (slot_is e0)) (by go_simp) (hidc w1).out ?_
            rintro e w2 ⟨rfl, hb2⟩
            exact ⟨_, rfl, _, rfl, StR.mk (by decide) (by decide) v7.symm, Stage.to1 (hc1.below hb2 (hIb _ _ hc1.inv hb2) trivial) hla hls (by decide) (by decide), fun j u _ h => StR.keep (fun _ h => h.below hb2) (fun _ h => h.below hb2) j u h⟩
          | 8, ho =>
            obtain rfl := (Option.some.inj ho).symm
            have hla : listed.getD 10 false = false := hL.later2 (hL.later (j := 9) hi (by kernel_rfl)) (by kernel_rfl)
            have hls : listed.getD 12 false = false := hL.later2 hla (by kernel_rfl)
            have hc1 := Stage.one hL.cls hla hls
            have e0 : a.tmps[58]?.getD undef = (.int .i64 d.toNat) := (slot_eval a 58).trans (((hL.get_new (j := 4) hi (by kernel_rfl)).at_ (by decide) (by decide)).trans v4)
            have e1 : a.tmps[59]?.getD undef = (.string (B NM)) := (slot_eval a 59).trans (((hL.get_new (j := 5) hi (by kernel_rfl)).at_ (by decide) (by decide)).trans v5)
            have e2 : a.tmps[61]?.getD undef = (.agg (u8s (idG RS))) := (slot_eval a 61).trans (((hL.get_new (j := 7) hi (by kernel_rfl)).at_ (by decide) (by decide)).trans v7)
            refine step_wp rfl rfl ?_
            refine build_step rfl hbd (parts3 (slot_is e0) (slot_is e1) (slot_is e2)) ⟨_, rfl, StR.mk (by decide) (by decide) v8.symm, Stage.to1 hc1 hla hls (by decide) (by decide), fun _ _ _ h => h⟩
          | 9, ho =>
            obtain rfl := (Option.some.inj ho).symm
            have hla : listed.getD 10 false = false := hL.later (j := 10) hi (by kernel_rfl)
            have hls : listed.getD 12 false = false := hL.later2 hla (by kernel_rfl)
            have hc1 := Stage.one hL.cls hla hls
            have e0 : a.tmps[62]?.getD undef = (.agg (entC x).toArray) := (slot_eval a 62).trans (((hL.get_new (j := 8) hi (by kernel_rfl)).at_ (by decide) (by decide)).trans v8)
            refine step_wp rfl rfl ?_
            have hbA : Below w1.heap.size w1 (w1.alloc (.cells (entC x).toArray 53)) := (Below.refl _ _).alloc (Nat.le_refl _) _
            refine slice_step rfl Tryd.entTy (by decide) (entC_len hxok) (.inl ( ((slot_eval a 62).symm.trans e0))) ⟨_, rfl, StR.mkLit ⟨w1.heap.size, rfl, Blk.new _ _ _, hc1.size, fun h => by have := (World.ownsRow.lt hc1.own _ h).2; omega⟩, Stage.to1 (hc1.below hbA (hIb _ _ hc1.inv hbA) (hJb _ _ hc1.pre hbA)) hla hls (by decide) (by decide), fun j u _ h => StR.keep (fun _ h => h.below hbA) (fun _ h => h.below hbA) j u h⟩
          | 10, ho =>
            obtain rfl := (Option.some.inj ho).symm
            have hla : listed.getD 10 false = false := (getD_of_size (by rw [hsz]; exact hin)).trans (ready_spec hi).2.1
            have hls : listed.getD 12 false = false := hL.later2 hla (by kernel_rfl)
            have hc1 := Stage.one hL.cls hla hls
            have hx := (hL.get_new (j := 9) (t := 63) hi (by kernel_rfl)).lit
            have hs : a.eval (.tmp 55) = ve := ((hL.get_new (j := 1) hi (by kernel_rfl)).at_ (by decide) (by decide)).trans v1
            refine step_wp rfl rfl ?_
            refine app_step rfl Tryd.entTy hc1 hgOB hx (entC_len hxok) (entC_one x) hm1 hm2 (fun w2 hb => hIB _ _ hc1.inv hb) hs rfl ?_
            intro v2 w2 hf2 ha2 hk2 hb2
            exact ⟨_, rfl, StR.mkApp ha2 (by decide), Stage.to2 hf2 hls (by rw [hsz]; decide) (by decide), fun j u hj h => StR.keepL hk2 (fun e => by rw [e, hla] at hj; cases hj) h⟩
          | 11, ho =>
            obtain rfl := (Option.some.inj ho).symm
            have e0 : a.tmps[3]?.getD undef = (.pointer (some ⟨gO, 0, none⟩)) := (slot_eval a 3).trans (hL.get_old hi (by kernel_rfl))
            have hc := Stage.same (i := 11) hL.cls (by decide) (by decide)
            refine step_wp rfl rfl ?_
            clear hi ho hL hin
            refine wp_val (v := (.pointer (some ⟨gO, 2, none⟩))) ?_ ⟨_, rfl, StR.mk (by decide) (by decide) v11.symm, hc, fun _ _ _ h => h⟩
            clear v0 v1 v2 v3 v4 v5 v6 v7 v8 v11 v12 hc
            unfold execOp
            go_simp
          | 12, ho =>
            obtain rfl := (Option.some.inj ho).symm
            have hla : listed.getD 10 false = true := hL.before hi (by kernel_rfl)
            have hls : listed.getD 12 false = false := (getD_of_size (by rw [hsz]; exact hin)).trans (ready_spec hi).2.1
            have hc2 := Stage.two hL.cls hla hls
            have e0 : a.tmps[65]?.getD undef = (.pointer (some ⟨gO, 2, none⟩)) := (slot_eval a 65).trans (((hL.get_new (j := 11) hi (by kernel_rfl)).at_ (by decide) (by decide)).trans v11)
            have hv := (hL.get_new (j := 10) (t := 64) hi (by kernel_rfl)).app (by decide)
            obtain ⟨vA, vK, hvv⟩ := own_form' hv
            rw [hvv] at hv
            have e1 : a.tmps[64]?.getD undef = _ := (slot_eval a 64).trans hvv
            have c0 : (w1.cell? ⟨gO, 2, none⟩).isSome = true := (hc2.blk.there (o := 2) (n := 1) (by rw [hcO]; decide) 0 (by decide)).1
            obtain ⟨c0v, c0⟩ := Option.isSome_iff_exists.1 c0
            have f0 := hc2.blk.frozen 2
            have hR := fun u => AppR.set_ (p := ⟨gO, 2, none⟩) (hv) hgOB u
            have h3 := Stage.to3 (ap := 10) (P1 := (F1 BB gO 29 cO 53 34 ve n' xs II (fun _ => True))) (P2 := (F2 BB gO 29 cO II)) (hc2.stored (off := 2) hv hgOB (hIs _ _ hc2.inv)) (listed := listed) (st := 12) (by rw [hsz]; decide)
            refine step_wp rfl rfl ?_
            clear hi ho hL hin hc2
            refine wp_skip (w' := w1.setCell ⟨gO, 2, none⟩ _) ?_ ⟨_, rfl, StR.mk (by decide) (by decide) v12.symm, h3, fun j u _ h => StR.keep (fun _ h => h.set_ hgOB _) (fun _ h => AppR.set_ h hgOB _) j u h⟩
            clear v0 v1 v2 v3 v4 v5 v6 v7 v8 v11 v12 h3
            unfold execOp
            go_simp
          | (n + 13), ho => exact absurd hin (by simp)
        · intro a w1 listed hL hall
          obtain ⟨v3, hb3, ho3, hi3, hsz3⟩ := Stage.three hL.cls (hall 12 (by decide))
          rw [← hII.out] at hi3
          rw [hset.out] at hb3
          have hob3 : ObjB w1 gO ⟨2, [], acc ++ [x], noId, [], 0, [], noId, 0, []⟩ v3 (.slice none 0 0) := ⟨hb3, hotr, hota⟩
          rw [← hxs.out, ← hn'.out, hrow.out] at ho3
          have hown3 : OwnEnts w1 BB v3 (acc ++ [x]) := by unfold OwnEnts; rw [List.length_append]; exact ho3
          have hl3 : (acc ++ [x]).length ≤ n + 1 := by rw [List.length_append]; simp only [List.length_cons, List.length_nil]; omega
          have hd4 := hL.frame (by kernel_rfl) (sizes_spec (n := 139) (by kernel_rfl)) hall
          obtain ⟨vs, rfl, hR⟩ := hd4
          clear hL hall hR hF1 hIb hIB hIs hJb hII hset hrow hxs hn' hm1 hm2 hb3 ho3 hve hcO hidc hbd
          simp only [putAll, Act.put, List.setIfInBounds_toArray, List.set_cons_zero, List.set_cons_succ]
          go_wp2_with (first
            | ((with_reducible refine (hbe2.out _).mono ?_); rintro e w5 ⟨rfl, nq2, rfl⟩))
          go_roundg f
          case rel => exact ⟨n + 1, RR, acc ++ [x], v3, by go_num, rfl, by omega, by omega, hl3, hdl, hrel, hown3, ⟨hob3.blk.drewN nq2, hob3.tr, hob3.ta⟩, ⟨hi3.z.drewN nq2, bdrewN hi3.bel nq2⟩, hsz3⟩
          case measure => exact Nat.lt_succ_self f
end Go.Proofs.YtlanconcbpdneaaDoor
