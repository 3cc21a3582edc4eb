/- Lemmas and walks of this seat, laid together: RdD, ObjSm, ObjBk, OpenE, OpenId, OpenObj. -/
import Derived.Test.YtlanconcbpdneaaMe
import Derived.Lib.LaidTab
/- The walk of layer 4: object.Decode. Condition: a text of no more bytes than there can be. -/
namespace Go.Proofs.Ytlanconcbpdneaa
open Go.RowKit
attribute [local go_sem ↓] ldvO_eq
theorem rKind_lt (r : Rd) : (rKind r).1 < 256 := by
  unfold rKind
  split
  · show (0 : Nat) < 256
    omega
  · exact UInt8.toNat_lt _
theorem rEnt_ok (r : Rd) (h : r.1.length ≤ 1000000) : EntOk (rEnt r).1 := by
  have h1 := rKind_lt r
  have h2 := rText_len (rKind r).2
  have h3 := rKind_le r
  exact ⟨rId_len _, by show (rText (rKind r).2).1.length ≤ _; omega, by show _ ≤ ((rKind r).1 : Int); omega, by show ((rKind r).1 : Int) ≤ _; omega⟩
theorem rEnt_le (r : Rd) : (rEnt r).2.1.length ≤ r.1.length := Nat.le_trans (rId_le _) (Nat.le_trans (rText_le _) (rKind_le _))
theorem rTree_ok : ∀ (f : Nat) (r : Rd) (acc : List EntL), r.1.length ≤ 1000000 → (∀ e ∈ acc, EntOk e) → ∀ e ∈ (rTree f r acc).1, EntOk e
  | 0, r, acc, _, h => h
  | f + 1, r, acc, hl, h => by
    rw [rTree]
    split
    · exact h
    · refine rTree_ok f _ _ (Nat.le_trans (rEnt_le r) hl) ?_
      intro e he
      rcases List.mem_append.1 he with he | he
      · exact h e he
      · obtain rfl := List.mem_singleton.1 he
        exact rEnt_ok r hl
theorem readO_ok (k : Nat) (hk : k < 256) (r : Rd) (hr : r.1.length ≤ 100000) : ObjOk (readO k r).1 := by
  have hs := readO_sound k r
  have h0 : ([] : Txt).length ≤ 9223372036854775807 := by simp
  have hkk := readO_kind k r
  refine ⟨hs.tree, hs.target, ?_, hs.pars, ?_, ?_, ?_, hs.time, by rw [hkk]; omega, by rw [hkk]; omega, ?_, ?_⟩
  all_goals
    unfold readO
    split
    · first
        | exact rTree_ok _ _ _ (by omega) (by simp)
        | exact h0
        | (show (-9223372036854775808 : Int) ≤ 0; omega)
        | (show (0 : Int) ≤ 9223372036854775807; omega)
    · split
      · first
          | exact h0
          | (intro e he; cases he; done)
          | (refine Nat.le_trans (rText_len _) ?_
             rw [badIf_le]
             refine Nat.le_trans (Nat.le_trans (rNum_le _) (Nat.le_trans (rPars_le _ _ _) ?_)) (Nat.le_trans hr (by omega))
             rw [badIf_le]
             exact Nat.le_trans (rNum_le _) (rId_le _))
          | (show (-9223372036854775808 : Int) ≤ 0; omega)
          | (show (0 : Int) ≤ 9223372036854775807; omega)
      · split
        · first
            | exact h0
            | (intro e he; cases he; done)
            | (refine Nat.le_trans (rText_len _) (Nat.le_trans (Nat.le_trans (rId_le _) (rKind_le _)) (by omega)))
            | (have := rKind_lt r; show (-9223372036854775808 : Int) ≤ ((rKind r).1 : Int); omega)
            | (have := rKind_lt r; show ((rKind r).1 : Int) ≤ 9223372036854775807; omega)
        · first
            | exact h0
            | (intro e he; cases he; done)
            | (show (rBytes r.1.length r).1.length ≤ _
               rcases bytes_or (n := r.1.length) r with h | h
               · rw [h]; exact h0
               · rw [h]; omega)
            | (show (-9223372036854775808 : Int) ≤ 0; omega)
            | (show (0 : Int) ≤ 9223372036854775807; omega)
theorem built_kobj (k : Int) : Try.prog.built 28 [(0, .int .i64 k)] = some (objC ⟨k, [], [], noId, [], 0, [], noId, 0, []⟩ (.slice none 0 0) (.slice none 0 0)).toArray := by kernel_rfl
theorem built_rd (t : Txt) : Try.prog.built 53 [(0, .string (B t))] = some #[.string (B t), .bool false] := by kernel_rfl
/-- What Decode returns. -/
def DecR (x : Option ObjL) (w' : World) (e : Ending) : Prop := match x with
  | some o => ∃ A1 A2 k1 k2, e = .returned (.tuple #[.agg (objC o (.slice A1 o.ents.length k1) (.slice A2 o.pars.length k2)).toArray, .int .i64 0]) ∧ ObjV w' (.slice A1 o.ents.length k1) (.slice A2 o.pars.length k2) o
  | none => e = .returned (.tuple #[.agg zObj, .int .i64 2])
theorem Did.val {w w' : World} {gO gR : Nat} {x : ObjL × Rd} {ve vp : Value} (h : Been w gO gR w.heap.size x.1 x.2 ve vp w') (ho : ObjOk x.1) : ∃ A1 A2 k1 k2, ve = .slice A1 x.1.ents.length k1 ∧ vp = .slice A2 x.1.pars.length k2 ∧ ObjV w' ve vp x.1 := by
  have he : Ents w' ve x.1.ents := SliceAt.of_own (fun e h => entC_len (ho.ents e h)) h.ents
  have hp : Ids w' vp x.1.pars := SliceAt.of_own (fun e h => idC_len (ho.pars e h)) h.pars
  have he' := he
  have hp' := hp
  obtain ⟨A1, k1, e1, _⟩ := he'
  obtain ⟨A2, k2, e2, _⟩ := hp'
  exact ⟨A1, A2, k1, k2, e1, e2, ho, he, hp⟩
theorem own_row {w : World} {B g : Nat} {e : TypeId} {k m : Nat} {v : Value} {zs : List Value} (h : w.ownsRow B e k v m zs) (hg : g < B) (cs : Array Value) : (w.setRow g cs).ownsRow B e k v m zs :=
  Far.own (S := [some g]) (Far.row (Far.refl _ w) (.inl (by simp)) cs) h fun q hq => by
    have := (World.ownsRow.lt h q hq).1
    simp; omega
theorem objV_row {w : World} {B g : Nat} {ve vp : Value} {o : ObjL} (ho : ObjOk o) (he : OwnEnts w B ve o.ents) (hp : OwnIds w B vp o.pars) (hg : g < B) (cs : Array Value) : ObjV (w.setRow g cs) ve vp o :=
  ⟨ho, SliceAt.of_own (fun e h => entC_len (ho.ents e h)) (own_row he hg cs), SliceAt.of_own (fun e h => idC_len (ho.pars e h)) (own_row hp hg cs)⟩
theorem objC_all (o : ObjL) (A1 A2 : Option Addr) (a b c d : Nat) : (objC o (.slice A1 a b) (.slice A2 c d)).toArray.all (·.oneCell') = true := by
  refine all_oneCell_toArray ?_
  intro v hv
  unfold objC at hv
  simp only [List.mem_cons, List.mem_append] at hv
  have h8 : ∀ l : Txt, v ∈ (u8s l).toList → v.oneCell' = true := fun l h => u8v_one l v (by simpa [u8s] using h)
  rcases hv with rfl | rfl | rfl | hv | rfl | rfl | rfl | hv | rfl | rfl | hv
  · rfl
  · rfl
  · rfl
  · exact h8 _ hv
  · rfl
  · rfl
  · rfl
  · exact h8 _ hv
  · rfl
  · rfl
  · cases hv
set_option maxRecDepth 100000 in
set_option maxHeartbeats 2000000 in
theorem decode_no (s : Txt) (hs : s.length ≤ 4611686018427387904) (h : s = [] ∨ 4096 < s.length ∨ takeP (s.drop 1) = none ∨ ∃ t c q, takeP (s.drop 1) = some (t, c :: q)) (w : World) :
    Calls Try.prog 8 #[.string (B s)] w fun e w' => e = .returned (.tuple #[.agg zObj, .int .i64 2]) ∧ Below w.heap.size w w' := by
  have hzv := zeroObj
  obtain ⟨W0, hW0⟩ : ∃ W0, w.alloc (.cells zObj 28) = W0 := ⟨_, rfl⟩
  have hz0 : Blk W0 w.heap.size 28 zObj := by rw [← hW0]; exact Blk.new _ _ _
  have b0 : Below w.heap.size w W0 := by rw [← hW0]; exact (Below.refl _ _).alloc (Nat.le_refl _) _
  have hrb := fun W => run_build (P := Try.prog) W _ _ _ built_zObj
  have hone := zObj_one
  have hsz := sizedObj
  by_cases h1 : s = [] ∨ 4096 < s.length
  · clear h
    rcases h1 with rfl | h1
    · go_enter Try.func8, Try.ntmps8
      go_wp2_with (first
        | (refine wpList_store_row rfl 28 (.tmp 2) (.tmp 17) rfl w.heap.size zObj rfl rfl _ _ hz0 hsz rfl hone ?_))
      refine bodyPost_ret (results_row_tmp rfl _ _ w.heap.size _ _ _ _ rfl (setRow_heap _ _ _ _ _ _ hz0) Try.underlying28 rfl hsz) rfl ⟨rfl, below_setRow b0 (Nat.le_refl _) _⟩
    · match s, h1, hs with
      | c :: q, h1, hs =>
        simp only [List.length_cons] at h1 hs
        have i1 : (4096 : Int) < (q.length : Int) + 1 := by omega
        go_enter Try.func8, Try.ntmps8
        go_wp2_with (first
          | (refine wpList_store_row rfl 28 (.tmp 2) (.tmp 17) rfl w.heap.size zObj rfl rfl _ _ hz0 hsz rfl hone ?_))
        refine bodyPost_ret (results_row_tmp rfl _ _ w.heap.size _ _ _ _ rfl (setRow_heap _ _ _ _ _ _ hz0) Try.underlying28 rfl hsz) rfl ⟨rfl, below_setRow b0 (Nat.le_refl _) _⟩
  · match s, h1, hs, h with
    | [], h1, _, _ => exact absurd (.inl rfl) h1
    | c :: q, h1, hs, h =>
      simp only [List.length_cons, List.drop_succ_cons, List.drop_zero, reduceCtorEq, false_or] at h1 hs h
      have hex : (B (c :: q)).extract 1 (q.length + 1) = B q := by
        rw [extract_B]
        simp
      have i1 : ¬ (4096 : Int) < ((q.length : Int) + 1) := by omega
      have ht := take_calls q (by omega) W0
      rcases h with h | h | ⟨t, c2, q2, h⟩
      · omega
      · rw [takeV_none h] at ht
        have ht := Lib.hid ht
        clear h h1
        go_enter Try.func8, Try.ntmps8
        go_wp2_with (first
          | ((with_reducible refine ht.out.mono ?_); rintro e w1 ⟨rfl, nq, rfl⟩
             have hz1 := hz0.drewN nq)
          | (refine wpList_store_row rfl 28 (.tmp 2) (.tmp 31) rfl w.heap.size zObj rfl rfl _ _ hz1 hsz rfl hone ?_))
        refine bodyPost_ret (results_row_tmp rfl _ _ w.heap.size _ _ _ _ rfl (setRow_heap _ _ _ _ _ _ hz1) Try.underlying28 rfl hsz) rfl ⟨rfl, below_setRow (bdrewN b0 nq) (Nat.le_refl _) _⟩
      · rw [takeV_some h] at ht
        have ht := Lib.hid ht
        clear h h1
        go_enter Try.func8, Try.ntmps8
        go_wp2_with (first
          | ((with_reducible refine ht.out.mono ?_); rintro e w1 ⟨rfl, nq, rfl⟩
             have hz1 := hz0.drewN nq)
          | (refine wpList_store_row rfl 28 (.tmp 2) (.tmp 31) rfl w.heap.size zObj rfl rfl _ _ hz1 hsz rfl hone ?_))
        refine bodyPost_ret (results_row_tmp rfl _ _ w.heap.size _ _ _ _ rfl (setRow_heap _ _ _ _ _ _ hz1) Try.underlying28 rfl hsz) rfl ⟨rfl, below_setRow (bdrewN b0 nq) (Nat.le_refl _) _⟩
set_option maxRecDepth 100000 in
set_option maxHeartbeats 4000000 in
theorem decode_yes (c : UInt8) (q t : Txt) (hs : q.length ≤ 4095) (h : takeP q = some (t, [])) (w : World) :
    Calls Try.prog 8 #[.string (B (c :: q))] w fun e w' => DecR (decO (c :: q)) w' e ∧ Below w.heap.size w w' := by
  have hzv := zeroObj
  obtain ⟨W0, hW0⟩ : ∃ W0, w.alloc (.cells zObj 28) = W0 := ⟨_, rfl⟩
  have hz0 : Blk W0 w.heap.size 28 zObj := by rw [← hW0]; exact Blk.new _ _ _
  have b0 : Below w.heap.size w W0 := by rw [← hW0]; exact (Below.refl _ _).alloc (Nat.le_refl _) _
  have hrb := fun W => run_build (P := Try.prog) W _ _ _ built_zObj
  have hone := zObj_one
  have hsz := sizedObj
  have hex : (B (c :: q)).extract 1 (q.length + 1) = B q := by
    rw [extract_B]
    simp
  have i1 : ¬ (4096 : Int) < ((q.length : Int) + 1) := by omega
  have hlt : t.length ≤ 100000 := by
    have := takeP_back h
    rw [this] at hs
    unfold textE at hs
    simp only [List.length_append] at hs
    omega
  have ht := take_calls q (by omega) W0
  rw [takeV_some h] at ht
  have ht := Lib.hid ht
  have hdec : Hid (decO (c :: q) = if (readO c.toNat (t, false)).2.2 = true ∨ (readO c.toNat (t, false)).2.1 ≠ [] ∨ mayB (readO c.toNat (t, false)).1 = false then none else some (readO c.toNat (t, false)).1) := by
    show _ = _
    unfold decO
    simp only [h]
    rw [if_neg (by simp only [List.length_cons]; omega), if_neg (by simp)]
  have hk256 : c.toNat < 256 := c.toNat_lt
  have hc0 : 0 ≤ (c.toNat : Int) := by omega
  have hc1 : (c.toNat : Int) < 256 := by omega
  have hrok := readO_ok c.toNat hk256 (t, false) hlt
  have hbd := built_kobj (c.toNat : Int)
  have hbr := built_rd t
  have e72 : (objC ⟨c.toNat, [], [], noId, [], 0, [], noId, 0, []⟩ (.slice none 0 0) (.slice none 0 0)).toArray.size = 72 := by rw [List.size_toArray]; unfold objC; simp only [List.length_cons, List.length_append, u8s_len, noId_len, List.length_nil]
  have eone : (objC ⟨c.toNat, [], [], noId, [], 0, [], noId, 0, []⟩ (.slice none 0 0) (.slice none 0 0)).toArray.all (·.oneCell') = true := by kernel_rfl
  obtain ⟨D, hD⟩ : ∃ D, Hid (decO (c :: q) = D) := ⟨_, Lib.hid rfl⟩
  rw [hD.out] at hdec ⊢
  have hread : Hid (∀ W gO gR, gO ≠ gR → ObjB W gO (nObj c.toNat) (.slice none 0 0) (.slice none 0 0) → RdB W gR (t, false) → Calls Try.prog (if c.toNat = 2 then 21 else if c.toNat = 3 then 22 else if c.toNat = 4 then 23 else 20) #[.pointer (some ⟨gR, 0, none⟩), .pointer (some ⟨gO, 0, none⟩)] W fun e w' => e = .returned (.tuple #[]) ∧ Did W gO gR W.heap.size (readO c.toNat (t, false)) w') := fun W gO gR hne hO hR => by
    unfold readO
    split
    · exact tree_calls c.toNat (t, false) hlt gO gR hne W hO hR
    · split
      · exact commit_calls c.toNat (t, false) hlt gO gR hne W hO hR
      · split
        · exact tag_calls c.toNat (t, false) hlt gO gR hne W hO hR
        · exact blob_calls c.toNat (t, false) hlt gO gR hne W hO hR
  generalize hX : readO c.toNat (t, false) = X at *
  clear hX h
  go_enter Try.func8, Try.ntmps8
  go_upto_region 9 with (first
    | ((with_reducible refine ht.out.mono ?_); rintro e w1 ⟨rfl, nq, rfl⟩
       have hz1 := hz0.drewN nq
       have b1 := bdrewN b0 nq
       clear ht)
    | ((with_reducible refine lit_build1 hbd ?_ ?_); rfl)
    | ((with_reducible refine lit_build1 hbr ?_ ?_); rfl)
    | ((with_reducible refine lit_new 28 (.tmp 7) (.tmp 35) (objC ⟨c.toNat, [], [], noId, [], 0, [], noId, 0, []⟩ (.slice none 0 0) (.slice none 0 0)).toArray 72 szObj e72 eone _ ?_ ?_ ?_ ?_); rfl; rfl; rfl; intro W2 hb2 hbl2
       have hz2 := hz1.below hbl2 hz1.lt
       have b2 := bthen b1 b1.size hbl2
       clear hz1 b1))
  have hO2 : ObjB W2 W0.heap.size (nObj c.toNat) (.slice none 0 0) (.slice none 0 0) := ⟨hb2, noId_len, noId_len⟩
  obtain ⟨W3, hW3⟩ : ∃ W3, W2.alloc (.cells #[.string (B t), .bool false] 53) = W3 := ⟨_, rfl⟩
  have hR3 : RdB W3 W2.heap.size (t, false) := by rw [← hW3]; exact Blk.new _ _ _
  have hb3 : Below W2.heap.size W2 W3 := by rw [← hW3]; exact (Below.refl _ _).alloc (Nat.le_refl _) _
  have hO3 := hO2.below hb3
  have hz3 := hz2.below hb3 hz2.lt
  have b3 := bthen b2 b2.size hb3
  have hb2 : Blk W2 W0.heap.size 28 _ := hb2
  have hne : W0.heap.size ≠ W2.heap.size := by have := hb2.lt; omega
  have hsO : w.heap.size < W0.heap.size := by rw [← hW0]; simp
  have hsR : w.heap.size < W2.heap.size := by have := hb2.lt; omega
  have hrd := hread.out W3 _ _ hne hO3 hR3
  have ck : W3.cell? ⟨W0.heap.size, 0, none⟩ = some (.int .i64 c.toNat) := hO3.kind
  clear hO2 hb2 hz2 b2 hb3 hread hO3 hR3
  rw [hW3]
  clear hW3 hW0 hz0 b0
  generalize W2.heap.size = gR at *
  generalize W0.heap.size = gO at *
  clear ht hbd hbr e72 eone
  have hXk : ∀ W ve vp, ObjB W gO X.1 ve vp → (ldvO ⟨gO, 0, none⟩).run Try.prog W = .ok (.agg (objC X.1 ve vp).toArray) W := fun W ve vp h => run_ldvO h hrok
  have hzlt : w.heap.size < W3.heap.size := hz3.lt
  have hgz : some w.heap.size ∉ [some gO, some gR] := by simp; omega
  have hgB : ∀ k, some k ∈ [some gO, some gR] → w.heap.size ≤ k := fun k hk => by simp at hk; omega
  have hszB : w.heap.size ≤ W3.heap.size := Nat.le_of_lt hzlt
  by_cases k2 : c.toNat = 2
  · have e2 : ((c.toNat : Int) == 2) = true := by simp; omega
    rw [if_pos k2] at hrd
    have hrd := Lib.hid hrd
    clear k2 hne
    by_cases hb1 : X.2.2 = true
    · have hDn : Hid (D = none) := by show _ = _; rw [hdec.out, if_pos (.inl hb1)]
      clear hdec hD
      go_wp2_with (first
        | ((with_reducible refine hrd.out.mono ?_); rintro e w4 ⟨rfl, ve, vp, hbe⟩
           have c0 := hbe.rd.c0
           have c1 := hbe.rd.c1
           obtain ⟨A1, A2, n1, n2, rfl, rfl, hv⟩ := Did.val hbe hrok
           have hq4 := hXk w4 _ _ hbe.obj
           have hz4 := hbe.far.blk hz3 hgz
           have b4 := b3.trans (hbe.far.below (B := w.heap.size) hszB hgB)
           rw [hb1] at c1
           clear hq4 hv c0 hb1
           clear hrd hbe)
        | (refine wpList_store_row rfl 28 (.tmp 2) (.tmp 66) rfl w.heap.size zObj rfl rfl _ _ hz4 hsz rfl hone ?_))
      refine bodyPost_ret (results_row_tmp rfl _ _ w.heap.size _ _ _ _ rfl (setRow_heap _ _ _ _ _ _ hz4) Try.underlying28 rfl hsz) rfl ⟨by rw [hDn.out]; rfl, below_setRow b4 (Nat.le_refl _) _⟩
    · by_cases hb2 : X.2.1 = []
      · cases hM : mayB X.1 with
        | false =>
          have hDn : Hid (D = none) := by show _ = _; rw [hdec.out, if_pos (.inr (.inr hM))]
          clear hdec hD
          have hb1 : X.2.2 = false := by simpa using hb1
          go_wp2_with (first
            | ((with_reducible refine hrd.out.mono ?_); rintro e w4 ⟨rfl, ve, vp, hbe⟩
               have c0 := hbe.rd.c0
               have c1 := hbe.rd.c1
               obtain ⟨A1, A2, n1, n2, rfl, rfl, hv⟩ := Did.val hbe hrok
               have hq4 := hXk w4 _ _ hbe.obj
               have hz4 := hbe.far.blk hz3 hgz
               have b4 := b3.trans (hbe.far.below (B := w.heap.size) hszB hgB)
               rw [hb1] at c1
               rw [hb2] at c0
               have hmay := may_calls X.1 A1 A2 n1 n2 w4 hv
               rw [hM] at hmay
               have hmay := Lib.hid hmay
               clear hv hb1 hb2 hM
               clear hrd hbe)
            | ((with_reducible refine hmay.out.mono ?_); rintro e w5 ⟨rfl, hb5⟩
               have hz5 := hz4.below hb5 hz4.lt
               have b5 := bthen b4 b4.size hb5
               skip
               clear hmay)
            | (refine wpList_store_row rfl 28 (.tmp 2) (.tmp 66) rfl w.heap.size zObj rfl rfl _ _ hz5 hsz rfl hone ?_))
          refine bodyPost_ret (results_row_tmp rfl _ _ w.heap.size _ _ _ _ rfl (setRow_heap _ _ _ _ _ _ hz5) Try.underlying28 rfl hsz) rfl ⟨by rw [hDn.out]; rfl, below_setRow b5 (Nat.le_refl _) _⟩
        | true =>
          have hDn : Hid (D = some X.1) := by
            show _ = _
            rw [hdec.out, if_neg]
            rintro (h | h | h)
            · exact hb1 h
            · exact h hb2
            · rw [hM] at h; cases h
          clear hdec hD
          have hb1 : X.2.2 = false := by simpa using hb1
          go_wp2_with (first
            | ((with_reducible refine hrd.out.mono ?_); rintro e w4 ⟨rfl, ve, vp, hbe⟩
               have c0 := hbe.rd.c0
               have c1 := hbe.rd.c1
               obtain ⟨A1, A2, n1, n2, rfl, rfl, hv⟩ := Did.val hbe hrok
               have hq4 := hXk w4 _ _ hbe.obj
               have hz4 := hbe.far.blk hz3 hgz
               have b4 := b3.trans (hbe.far.below (B := w.heap.size) hszB hgB)
               rw [hb1] at c1
               rw [hb2] at c0
               have hmay := may_calls X.1 A1 A2 n1 n2 w4 hv
               rw [hM] at hmay
               have hmay := Lib.hid hmay
               have hO4 := hbe.obj
               have hoe := hbe.ents
               have hop := hbe.pars
               have hc72 : (objC X.1 (.slice A1 X.1.ents.length n1) (.slice A2 X.1.pars.length n2)).toArray.size = 72 := by rw [List.size_toArray, objC_len hrok]
               have hcone := objC_all X.1 A1 A2 X.1.ents.length n1 X.1.pars.length n2
               clear hb1 hb2 hM
               clear hrd hbe)
            | ((with_reducible refine hmay.out.mono ?_); rintro e w5 ⟨rfl, hb5⟩
               have hz5 := hz4.below hb5 hz4.lt
               have b5 := bthen b4 b4.size hb5
               have hO5 := hO4.below hb5
               have hoe5 := own_below hoe hb5
               have hop5 := own_below hop hb5
               have hv5 := hv.below hb5
               have hq5 := hXk w5 _ _ hO5
               generalize hcs : (objC X.1 (.slice A1 X.1.ents.length n1) (.slice A2 X.1.pars.length n2)).toArray = cs at *
               have HCS := Lib.hid hcs
               clear hcs hq4
               clear hmay)
            | (refine wpList_store_row rfl 28 (.tmp 2) (.tmp 67) rfl w.heap.size cs rfl rfl _ _ hz5 (by rw [hc72]; exact szObj) (by rw [hc72]; rfl) hcone ?_))
          refine bodyPost_ret (results_row_tmp rfl _ _ w.heap.size _ _ _ _ rfl (setRow_heap _ _ _ _ _ _ hz5) Try.underlying28 rfl (by rw [hc72]; exact szObj)) rfl ⟨?_, below_setRow b5 (Nat.le_refl _) _⟩
          rw [hDn.out]
          exact ⟨A1, A2, n1, n2, by rw [HCS.out]; rfl, objV_row hrok hoe5 hop5 hzlt _⟩
      · have hDn : Hid (D = none) := by show _ = _; rw [hdec.out, if_pos (.inr (.inl hb2))]
        clear hdec hD
        have hb1 : X.2.2 = false := by simpa using hb1
        obtain ⟨x, xs, hx⟩ : ∃ x xs, X.2.1 = x :: xs := by
          cases hq : X.2.1 with
          | nil => exact absurd hq hb2
          | cons x xs => exact ⟨x, xs, rfl⟩
        clear hb2
        go_wp2_with (first
          | ((with_reducible refine hrd.out.mono ?_); rintro e w4 ⟨rfl, ve, vp, hbe⟩
             have c0 := hbe.rd.c0
             have c1 := hbe.rd.c1
             obtain ⟨A1, A2, n1, n2, rfl, rfl, hv⟩ := Did.val hbe hrok
             have hq4 := hXk w4 _ _ hbe.obj
             have hz4 := hbe.far.blk hz3 hgz
             have b4 := b3.trans (hbe.far.below (B := w.heap.size) hszB hgB)
             rw [hb1] at c1
             rw [hx] at c0
             clear hq4 hv hb1 hx
             clear hrd hbe)
          | (refine wpList_store_row rfl 28 (.tmp 2) (.tmp 66) rfl w.heap.size zObj rfl rfl _ _ hz4 hsz rfl hone ?_))
        refine bodyPost_ret (results_row_tmp rfl _ _ w.heap.size _ _ _ _ rfl (setRow_heap _ _ _ _ _ _ hz4) Try.underlying28 rfl hsz) rfl ⟨by rw [hDn.out]; rfl, below_setRow b4 (Nat.le_refl _) _⟩
  · have e2 : ((c.toNat : Int) == 2) = false := by simp; omega
    rw [if_neg k2] at hrd
    by_cases k3 : c.toNat = 3
    · have e3 : ((c.toNat : Int) == 3) = true := by simp; omega
      rw [if_pos k3] at hrd
      have hrd := Lib.hid hrd
      clear k2 k3 hne
      by_cases hb1 : X.2.2 = true
      · have hDn : Hid (D = none) := by show _ = _; rw [hdec.out, if_pos (.inl hb1)]
        clear hdec hD
        go_wp2_with (first
          | ((with_reducible refine hrd.out.mono ?_); rintro e w4 ⟨rfl, ve, vp, hbe⟩
             have c0 := hbe.rd.c0
             have c1 := hbe.rd.c1
             obtain ⟨A1, A2, n1, n2, rfl, rfl, hv⟩ := Did.val hbe hrok
             have hq4 := hXk w4 _ _ hbe.obj
             have hz4 := hbe.far.blk hz3 hgz
             have b4 := b3.trans (hbe.far.below (B := w.heap.size) hszB hgB)
             rw [hb1] at c1
             clear hq4 hv c0 hb1
             clear hrd hbe)
          | (refine wpList_store_row rfl 28 (.tmp 2) (.tmp 66) rfl w.heap.size zObj rfl rfl _ _ hz4 hsz rfl hone ?_))
        refine bodyPost_ret (results_row_tmp rfl _ _ w.heap.size _ _ _ _ rfl (setRow_heap _ _ _ _ _ _ hz4) Try.underlying28 rfl hsz) rfl ⟨by rw [hDn.out]; rfl, below_setRow b4 (Nat.le_refl _) _⟩
      · by_cases hb2 : X.2.1 = []
        · cases hM : mayB X.1 with
          | false =>
            have hDn : Hid (D = none) := by show _ = _; rw [hdec.out, if_pos (.inr (.inr hM))]
            clear hdec hD
            have hb1 : X.2.2 = false := by simpa using hb1
            go_wp2_with (first
              | ((with_reducible refine hrd.out.mono ?_); rintro e w4 ⟨rfl, ve, vp, hbe⟩
                 have c0 := hbe.rd.c0
                 have c1 := hbe.rd.c1
                 obtain ⟨A1, A2, n1, n2, rfl, rfl, hv⟩ := Did.val hbe hrok
                 have hq4 := hXk w4 _ _ hbe.obj
                 have hz4 := hbe.far.blk hz3 hgz
                 have b4 := b3.trans (hbe.far.below (B := w.heap.size) hszB hgB)
                 rw [hb1] at c1
                 rw [hb2] at c0
                 have hmay := may_calls X.1 A1 A2 n1 n2 w4 hv
                 rw [hM] at hmay
                 have hmay := Lib.hid hmay
                 clear hv hb1 hb2 hM
                 clear hrd hbe)
              | ((with_reducible refine hmay.out.mono ?_); rintro e w5 ⟨rfl, hb5⟩
                 have hz5 := hz4.below hb5 hz4.lt
                 have b5 := bthen b4 b4.size hb5
                 skip
                 clear hmay)
              | (refine wpList_store_row rfl 28 (.tmp 2) (.tmp 66) rfl w.heap.size zObj rfl rfl _ _ hz5 hsz rfl hone ?_))
            refine bodyPost_ret (results_row_tmp rfl _ _ w.heap.size _ _ _ _ rfl (setRow_heap _ _ _ _ _ _ hz5) Try.underlying28 rfl hsz) rfl ⟨by rw [hDn.out]; rfl, below_setRow b5 (Nat.le_refl _) _⟩
          | true =>
            have hDn : Hid (D = some X.1) := by
              show _ = _
              rw [hdec.out, if_neg]
              rintro (h | h | h)
              · exact hb1 h
              · exact h hb2
              · rw [hM] at h; cases h
            clear hdec hD
            have hb1 : X.2.2 = false := by simpa using hb1
            go_wp2_with (first
              | ((with_reducible refine hrd.out.mono ?_); rintro e w4 ⟨rfl, ve, vp, hbe⟩
                 have c0 := hbe.rd.c0
                 have c1 := hbe.rd.c1
                 obtain ⟨A1, A2, n1, n2, rfl, rfl, hv⟩ := Did.val hbe hrok
                 have hq4 := hXk w4 _ _ hbe.obj
                 have hz4 := hbe.far.blk hz3 hgz
                 have b4 := b3.trans (hbe.far.below (B := w.heap.size) hszB hgB)
                 rw [hb1] at c1
                 rw [hb2] at c0
                 have hmay := may_calls X.1 A1 A2 n1 n2 w4 hv
                 rw [hM] at hmay
                 have hmay := Lib.hid hmay
                 have hO4 := hbe.obj
                 have hoe := hbe.ents
                 have hop := hbe.pars
                 have hc72 : (objC X.1 (.slice A1 X.1.ents.length n1) (.slice A2 X.1.pars.length n2)).toArray.size = 72 := by rw [List.size_toArray, objC_len hrok]
                 have hcone := objC_all X.1 A1 A2 X.1.ents.length n1 X.1.pars.length n2
                 clear hb1 hb2 hM
                 clear hrd hbe)
              | ((with_reducible refine hmay.out.mono ?_); rintro e w5 ⟨rfl, hb5⟩
                 have hz5 := hz4.below hb5 hz4.lt
                 have b5 := bthen b4 b4.size hb5
                 have hO5 := hO4.below hb5
                 have hoe5 := own_below hoe hb5
                 have hop5 := own_below hop hb5
                 have hv5 := hv.below hb5
                 have hq5 := hXk w5 _ _ hO5
                 generalize hcs : (objC X.1 (.slice A1 X.1.ents.length n1) (.slice A2 X.1.pars.length n2)).toArray = cs at *
                 have HCS := Lib.hid hcs
                 clear hcs hq4
                 clear hmay)
              | (refine wpList_store_row rfl 28 (.tmp 2) (.tmp 67) rfl w.heap.size cs rfl rfl _ _ hz5 (by rw [hc72]; exact szObj) (by rw [hc72]; rfl) hcone ?_))
            refine bodyPost_ret (results_row_tmp rfl _ _ w.heap.size _ _ _ _ rfl (setRow_heap _ _ _ _ _ _ hz5) Try.underlying28 rfl (by rw [hc72]; exact szObj)) rfl ⟨?_, below_setRow b5 (Nat.le_refl _) _⟩
            rw [hDn.out]
            exact ⟨A1, A2, n1, n2, by rw [HCS.out]; rfl, objV_row hrok hoe5 hop5 hzlt _⟩
        · have hDn : Hid (D = none) := by show _ = _; rw [hdec.out, if_pos (.inr (.inl hb2))]
          clear hdec hD
          have hb1 : X.2.2 = false := by simpa using hb1
          obtain ⟨x, xs, hx⟩ : ∃ x xs, X.2.1 = x :: xs := by
            cases hq : X.2.1 with
            | nil => exact absurd hq hb2
            | cons x xs => exact ⟨x, xs, rfl⟩
          clear hb2
          go_wp2_with (first
            | ((with_reducible refine hrd.out.mono ?_); rintro e w4 ⟨rfl, ve, vp, hbe⟩
               have c0 := hbe.rd.c0
               have c1 := hbe.rd.c1
               obtain ⟨A1, A2, n1, n2, rfl, rfl, hv⟩ := Did.val hbe hrok
               have hq4 := hXk w4 _ _ hbe.obj
               have hz4 := hbe.far.blk hz3 hgz
               have b4 := b3.trans (hbe.far.below (B := w.heap.size) hszB hgB)
               rw [hb1] at c1
               rw [hx] at c0
               clear hq4 hv hb1 hx
               clear hrd hbe)
            | (refine wpList_store_row rfl 28 (.tmp 2) (.tmp 66) rfl w.heap.size zObj rfl rfl _ _ hz4 hsz rfl hone ?_))
          refine bodyPost_ret (results_row_tmp rfl _ _ w.heap.size _ _ _ _ rfl (setRow_heap _ _ _ _ _ _ hz4) Try.underlying28 rfl hsz) rfl ⟨by rw [hDn.out]; rfl, below_setRow b4 (Nat.le_refl _) _⟩
    · have e3 : ((c.toNat : Int) == 3) = false := by simp; omega
      rw [if_neg k3] at hrd
      by_cases k4 : c.toNat = 4
      · have e4 : ((c.toNat : Int) == 4) = true := by simp; omega
        rw [if_pos k4] at hrd
        have hrd := Lib.hid hrd
        clear k2 k3 k4 hne
        by_cases hb1 : X.2.2 = true
        · have hDn : Hid (D = none) := by show _ = _; rw [hdec.out, if_pos (.inl hb1)]
          clear hdec hD
          go_wp2_with (first
            | ((with_reducible refine hrd.out.mono ?_); rintro e w4 ⟨rfl, ve, vp, hbe⟩
               have c0 := hbe.rd.c0
               have c1 := hbe.rd.c1
               obtain ⟨A1, A2, n1, n2, rfl, rfl, hv⟩ := Did.val hbe hrok
               have hq4 := hXk w4 _ _ hbe.obj
               have hz4 := hbe.far.blk hz3 hgz
               have b4 := b3.trans (hbe.far.below (B := w.heap.size) hszB hgB)
               rw [hb1] at c1
               clear hq4 hv c0 hb1
               clear hrd hbe)
            | (refine wpList_store_row rfl 28 (.tmp 2) (.tmp 66) rfl w.heap.size zObj rfl rfl _ _ hz4 hsz rfl hone ?_))
          refine bodyPost_ret (results_row_tmp rfl _ _ w.heap.size _ _ _ _ rfl (setRow_heap _ _ _ _ _ _ hz4) Try.underlying28 rfl hsz) rfl ⟨by rw [hDn.out]; rfl, below_setRow b4 (Nat.le_refl _) _⟩
        · by_cases hb2 : X.2.1 = []
          · cases hM : mayB X.1 with
            | false =>
              have hDn : Hid (D = none) := by show _ = _; rw [hdec.out, if_pos (.inr (.inr hM))]
              clear hdec hD
              have hb1 : X.2.2 = false := by simpa using hb1
              go_wp2_with (first
                | ((with_reducible refine hrd.out.mono ?_); rintro e w4 ⟨rfl, ve, vp, hbe⟩
                   have c0 := hbe.rd.c0
                   have c1 := hbe.rd.c1
                   obtain ⟨A1, A2, n1, n2, rfl, rfl, hv⟩ := Did.val hbe hrok
                   have hq4 := hXk w4 _ _ hbe.obj
                   have hz4 := hbe.far.blk hz3 hgz
                   have b4 := b3.trans (hbe.far.below (B := w.heap.size) hszB hgB)
                   rw [hb1] at c1
                   rw [hb2] at c0
                   have hmay := may_calls X.1 A1 A2 n1 n2 w4 hv
                   rw [hM] at hmay
                   have hmay := Lib.hid hmay
                   clear hv hb1 hb2 hM
                   clear hrd hbe)
                | ((with_reducible refine hmay.out.mono ?_); rintro e w5 ⟨rfl, hb5⟩
                   have hz5 := hz4.below hb5 hz4.lt
                   have b5 := bthen b4 b4.size hb5
                   skip
                   clear hmay)
                | (refine wpList_store_row rfl 28 (.tmp 2) (.tmp 66) rfl w.heap.size zObj rfl rfl _ _ hz5 hsz rfl hone ?_))
              refine bodyPost_ret (results_row_tmp rfl _ _ w.heap.size _ _ _ _ rfl (setRow_heap _ _ _ _ _ _ hz5) Try.underlying28 rfl hsz) rfl ⟨by rw [hDn.out]; rfl, below_setRow b5 (Nat.le_refl _) _⟩
            | true =>
              have hDn : Hid (D = some X.1) := by
                show _ = _
                rw [hdec.out, if_neg]
                rintro (h | h | h)
                · exact hb1 h
                · exact h hb2
                · rw [hM] at h; cases h
              clear hdec hD
              have hb1 : X.2.2 = false := by simpa using hb1
              go_wp2_with (first
                | ((with_reducible refine hrd.out.mono ?_); rintro e w4 ⟨rfl, ve, vp, hbe⟩
                   have c0 := hbe.rd.c0
                   have c1 := hbe.rd.c1
                   obtain ⟨A1, A2, n1, n2, rfl, rfl, hv⟩ := Did.val hbe hrok
                   have hq4 := hXk w4 _ _ hbe.obj
                   have hz4 := hbe.far.blk hz3 hgz
                   have b4 := b3.trans (hbe.far.below (B := w.heap.size) hszB hgB)
                   rw [hb1] at c1
                   rw [hb2] at c0
                   have hmay := may_calls X.1 A1 A2 n1 n2 w4 hv
                   rw [hM] at hmay
                   have hmay := Lib.hid hmay
                   have hO4 := hbe.obj
                   have hoe := hbe.ents
                   have hop := hbe.pars
                   have hc72 : (objC X.1 (.slice A1 X.1.ents.length n1) (.slice A2 X.1.pars.length n2)).toArray.size = 72 := by rw [List.size_toArray, objC_len hrok]
                   have hcone := objC_all X.1 A1 A2 X.1.ents.length n1 X.1.pars.length n2
                   clear hb1 hb2 hM
                   clear hrd hbe)
                | ((with_reducible refine hmay.out.mono ?_); rintro e w5 ⟨rfl, hb5⟩
                   have hz5 := hz4.below hb5 hz4.lt
                   have b5 := bthen b4 b4.size hb5
                   have hO5 := hO4.below hb5
                   have hoe5 := own_below hoe hb5
                   have hop5 := own_below hop hb5
                   have hv5 := hv.below hb5
                   have hq5 := hXk w5 _ _ hO5
                   generalize hcs : (objC X.1 (.slice A1 X.1.ents.length n1) (.slice A2 X.1.pars.length n2)).toArray = cs at *
                   have HCS := Lib.hid hcs
                   clear hcs hq4
                   clear hmay)
                | (refine wpList_store_row rfl 28 (.tmp 2) (.tmp 67) rfl w.heap.size cs rfl rfl _ _ hz5 (by rw [hc72]; exact szObj) (by rw [hc72]; rfl) hcone ?_))
              refine bodyPost_ret (results_row_tmp rfl _ _ w.heap.size _ _ _ _ rfl (setRow_heap _ _ _ _ _ _ hz5) Try.underlying28 rfl (by rw [hc72]; exact szObj)) rfl ⟨?_, below_setRow b5 (Nat.le_refl _) _⟩
              rw [hDn.out]
              exact ⟨A1, A2, n1, n2, by rw [HCS.out]; rfl, objV_row hrok hoe5 hop5 hzlt _⟩
          · have hDn : Hid (D = none) := by show _ = _; rw [hdec.out, if_pos (.inr (.inl hb2))]
            clear hdec hD
            have hb1 : X.2.2 = false := by simpa using hb1
            obtain ⟨x, xs, hx⟩ : ∃ x xs, X.2.1 = x :: xs := by
              cases hq : X.2.1 with
              | nil => exact absurd hq hb2
              | cons x xs => exact ⟨x, xs, rfl⟩
            clear hb2
            go_wp2_with (first
              | ((with_reducible refine hrd.out.mono ?_); rintro e w4 ⟨rfl, ve, vp, hbe⟩
                 have c0 := hbe.rd.c0
                 have c1 := hbe.rd.c1
                 obtain ⟨A1, A2, n1, n2, rfl, rfl, hv⟩ := Did.val hbe hrok
                 have hq4 := hXk w4 _ _ hbe.obj
                 have hz4 := hbe.far.blk hz3 hgz
                 have b4 := b3.trans (hbe.far.below (B := w.heap.size) hszB hgB)
                 rw [hb1] at c1
                 rw [hx] at c0
                 clear hq4 hv hb1 hx
                 clear hrd hbe)
              | (refine wpList_store_row rfl 28 (.tmp 2) (.tmp 66) rfl w.heap.size zObj rfl rfl _ _ hz4 hsz rfl hone ?_))
            refine bodyPost_ret (results_row_tmp rfl _ _ w.heap.size _ _ _ _ rfl (setRow_heap _ _ _ _ _ _ hz4) Try.underlying28 rfl hsz) rfl ⟨by rw [hDn.out]; rfl, below_setRow b4 (Nat.le_refl _) _⟩
      · have e4 : ((c.toNat : Int) == 4) = false := by simp; omega
        rw [if_neg k4] at hrd
        have hrd := Lib.hid hrd
        clear k2 k3 k4 hne
        by_cases hb1 : X.2.2 = true
        · have hDn : Hid (D = none) := by show _ = _; rw [hdec.out, if_pos (.inl hb1)]
          clear hdec hD
          go_wp2_with (first
            | ((with_reducible refine hrd.out.mono ?_); rintro e w4 ⟨rfl, ve, vp, hbe⟩
               have c0 := hbe.rd.c0
               have c1 := hbe.rd.c1
               obtain ⟨A1, A2, n1, n2, rfl, rfl, hv⟩ := Did.val hbe hrok
               have hq4 := hXk w4 _ _ hbe.obj
               have hz4 := hbe.far.blk hz3 hgz
               have b4 := b3.trans (hbe.far.below (B := w.heap.size) hszB hgB)
               rw [hb1] at c1
               clear hq4 hv c0 hb1
               clear hrd hbe)
            | (refine wpList_store_row rfl 28 (.tmp 2) (.tmp 66) rfl w.heap.size zObj rfl rfl _ _ hz4 hsz rfl hone ?_))
          refine bodyPost_ret (results_row_tmp rfl _ _ w.heap.size _ _ _ _ rfl (setRow_heap _ _ _ _ _ _ hz4) Try.underlying28 rfl hsz) rfl ⟨by rw [hDn.out]; rfl, below_setRow b4 (Nat.le_refl _) _⟩
        · by_cases hb2 : X.2.1 = []
          · cases hM : mayB X.1 with
            | false =>
              have hDn : Hid (D = none) := by show _ = _; rw [hdec.out, if_pos (.inr (.inr hM))]
              clear hdec hD
              have hb1 : X.2.2 = false := by simpa using hb1
              go_wp2_with (first
                | ((with_reducible refine hrd.out.mono ?_); rintro e w4 ⟨rfl, ve, vp, hbe⟩
                   have c0 := hbe.rd.c0
                   have c1 := hbe.rd.c1
                   obtain ⟨A1, A2, n1, n2, rfl, rfl, hv⟩ := Did.val hbe hrok
                   have hq4 := hXk w4 _ _ hbe.obj
                   have hz4 := hbe.far.blk hz3 hgz
                   have b4 := b3.trans (hbe.far.below (B := w.heap.size) hszB hgB)
                   rw [hb1] at c1
                   rw [hb2] at c0
                   have hmay := may_calls X.1 A1 A2 n1 n2 w4 hv
                   rw [hM] at hmay
                   have hmay := Lib.hid hmay
                   clear hv hb1 hb2 hM
                   clear hrd hbe)
                | ((with_reducible refine hmay.out.mono ?_); rintro e w5 ⟨rfl, hb5⟩
                   have hz5 := hz4.below hb5 hz4.lt
                   have b5 := bthen b4 b4.size hb5
                   skip
                   clear hmay)
                | (refine wpList_store_row rfl 28 (.tmp 2) (.tmp 66) rfl w.heap.size zObj rfl rfl _ _ hz5 hsz rfl hone ?_))
              refine bodyPost_ret (results_row_tmp rfl _ _ w.heap.size _ _ _ _ rfl (setRow_heap _ _ _ _ _ _ hz5) Try.underlying28 rfl hsz) rfl ⟨by rw [hDn.out]; rfl, below_setRow b5 (Nat.le_refl _) _⟩
            | true =>
              have hDn : Hid (D = some X.1) := by
                show _ = _
                rw [hdec.out, if_neg]
                rintro (h | h | h)
                · exact hb1 h
                · exact h hb2
                · rw [hM] at h; cases h
              clear hdec hD
              have hb1 : X.2.2 = false := by simpa using hb1
              go_wp2_with (first
                | ((with_reducible refine hrd.out.mono ?_); rintro e w4 ⟨rfl, ve, vp, hbe⟩
                   have c0 := hbe.rd.c0
                   have c1 := hbe.rd.c1
                   obtain ⟨A1, A2, n1, n2, rfl, rfl, hv⟩ := Did.val hbe hrok
                   have hq4 := hXk w4 _ _ hbe.obj
                   have hz4 := hbe.far.blk hz3 hgz
                   have b4 := b3.trans (hbe.far.below (B := w.heap.size) hszB hgB)
                   rw [hb1] at c1
                   rw [hb2] at c0
                   have hmay := may_calls X.1 A1 A2 n1 n2 w4 hv
                   rw [hM] at hmay
                   have hmay := Lib.hid hmay
                   have hO4 := hbe.obj
                   have hoe := hbe.ents
                   have hop := hbe.pars
                   have hc72 : (objC X.1 (.slice A1 X.1.ents.length n1) (.slice A2 X.1.pars.length n2)).toArray.size = 72 := by rw [List.size_toArray, objC_len hrok]
                   have hcone := objC_all X.1 A1 A2 X.1.ents.length n1 X.1.pars.length n2
                   clear hb1 hb2 hM
                   clear hrd hbe)
                | ((with_reducible refine hmay.out.mono ?_); rintro e w5 ⟨rfl, hb5⟩
                   have hz5 := hz4.below hb5 hz4.lt
                   have b5 := bthen b4 b4.size hb5
                   have hO5 := hO4.below hb5
                   have hoe5 := own_below hoe hb5
                   have hop5 := own_below hop hb5
                   have hv5 := hv.below hb5
                   have hq5 := hXk w5 _ _ hO5
                   generalize hcs : (objC X.1 (.slice A1 X.1.ents.length n1) (.slice A2 X.1.pars.length n2)).toArray = cs at *
                   have HCS := Lib.hid hcs
                   clear hcs hq4
                   clear hmay)
                | (refine wpList_store_row rfl 28 (.tmp 2) (.tmp 67) rfl w.heap.size cs rfl rfl _ _ hz5 (by rw [hc72]; exact szObj) (by rw [hc72]; rfl) hcone ?_))
              refine bodyPost_ret (results_row_tmp rfl _ _ w.heap.size _ _ _ _ rfl (setRow_heap _ _ _ _ _ _ hz5) Try.underlying28 rfl (by rw [hc72]; exact szObj)) rfl ⟨?_, below_setRow b5 (Nat.le_refl _) _⟩
              rw [hDn.out]
              exact ⟨A1, A2, n1, n2, by rw [HCS.out]; rfl, objV_row hrok hoe5 hop5 hzlt _⟩
          · have hDn : Hid (D = none) := by show _ = _; rw [hdec.out, if_pos (.inr (.inl hb2))]
            clear hdec hD
            have hb1 : X.2.2 = false := by simpa using hb1
            obtain ⟨x, xs, hx⟩ : ∃ x xs, X.2.1 = x :: xs := by
              cases hq : X.2.1 with
              | nil => exact absurd hq hb2
              | cons x xs => exact ⟨x, xs, rfl⟩
            clear hb2
            go_wp2_with (first
              | ((with_reducible refine hrd.out.mono ?_); rintro e w4 ⟨rfl, ve, vp, hbe⟩
                 have c0 := hbe.rd.c0
                 have c1 := hbe.rd.c1
                 obtain ⟨A1, A2, n1, n2, rfl, rfl, hv⟩ := Did.val hbe hrok
                 have hq4 := hXk w4 _ _ hbe.obj
                 have hz4 := hbe.far.blk hz3 hgz
                 have b4 := b3.trans (hbe.far.below (B := w.heap.size) hszB hgB)
                 rw [hb1] at c1
                 rw [hx] at c0
                 clear hq4 hv hb1 hx
                 clear hrd hbe)
              | (refine wpList_store_row rfl 28 (.tmp 2) (.tmp 66) rfl w.heap.size zObj rfl rfl _ _ hz4 hsz rfl hone ?_))
            refine bodyPost_ret (results_row_tmp rfl _ _ w.heap.size _ _ _ _ rfl (setRow_heap _ _ _ _ _ _ hz4) Try.underlying28 rfl hsz) rfl ⟨by rw [hDn.out]; rfl, below_setRow b4 (Nat.le_refl _) _⟩
end Go.Proofs.Ytlanconcbpdneaa
/- == on entries; the walk of layer 4: knapsackref04.Same at equal objects. No condition. -/
namespace Go.Proofs.Ytlanconcbpdneaa
open Go.RowKit
attribute [local go_sem ↓] ldvI_eq
theorem list3 {α β : Type} {f : α → β} {l : List α} {a b c : β} (h : l.map f = [a, b, c]) : ∃ x y z, l = [x, y, z] ∧ f x = a ∧ f y = b ∧ f z = c := by
  cases l with
  | nil => simp at h
  | cons x l =>
    cases l with
    | nil => simp at h
    | cons y l =>
      cases l with
      | nil => simp at h
      | cons z l =>
        cases l with
        | nil =>
          simp only [List.map_cons, List.map_nil, List.cons.injEq, and_true] at h
          exact ⟨x, y, z, rfl, h.1, h.2.1, h.2.2⟩
        | cons u l => simp at h
theorem entFields : ∃ f0 f1 f2, (Try.prog.fieldsOf 45).toList = [f0, f1, f2] ∧ f0.name = "Name" ∧ f0.type = 9 ∧ f0.offset = 0 ∧ f1.name = "Kind" ∧ f1.type = 3 ∧ f1.offset = 1 ∧ f2.name = "Id" ∧ f2.type = 24 ∧ f2.offset = 2 := by
  have h : (Try.prog.fieldsOf 45).toList.map (fun f => (f.name, f.type, f.offset)) = [("Name", 9, 0), ("Kind", 3, 1), ("Id", 24, 2)] := by kernel_rfl
  obtain ⟨f0, f1, f2, hf, h0, h1, h2⟩ := list3 h
  simp only [Prod.mk.injEq] at h0 h1 h2
  exact ⟨f0, f1, f2, hf, h0.1, h0.2.1, h0.2.2, h1.1, h1.2.1, h1.2.2, h2.1, h2.2.1, h2.2.2⟩
theorem run_part_ename (r : EntL) (w : World) : (part 9 (entC r).toArray 0).run Try.prog w = .ok (.string (B r.name)) w := run_part_plain w (by kernel_rfl) rfl
theorem run_part_ekind (r : EntL) (w : World) : (part 3 (entC r).toArray 1).run Try.prog w = .ok (.int .i64 r.kind) w := run_part_plain w (by kernel_rfl) rfl
theorem run_part_eid (r : EntL) (hr : r.id.length = 32) (w : World) : (part 24 (entC r).toArray 2).run Try.prog w = .ok (.agg (u8s r.id)) w := by
  have hs := sz32
  cases hi : Try.prog.info? 24 with
  | none => rw [hi] at hs; cases hs
  | some i =>
    rw [hi] at hs
    have hs : i.size = 32 := by simpa using hs
    have hu := run_underlying (w := w) Try.underlying24
    have he : (List.take 32 (List.drop 2 (entC r))).toArray = u8s r.id := by
      show (List.take 32 (u8s r.id).toList).toArray = _
      rw [List.take_of_length_le (by rw [u8s_len, hr]; omega)]
    simp [part, hu, sizeOf, typeInfo, hi, hs, he]
theorem run_equalIn_ent (a : EntL) (ha : a.id.length = 32) (w : World) : (Op.equalIn 10000 45 (.agg (entC a).toArray) (.agg (entC a).toArray)).run Try.prog w = .ok true w := by
  obtain ⟨f0, f1, f2, hf, n0, t0, o0, n1, t1, o1, n2, t2, o2⟩ := entFields
  rw [run_equalIn_agg w 9999 _ _ _ (by kernel_rfl) (by kernel_rfl), hf]
  have h0 := run_equalIn_string (P := Try.prog) w 9998 9 (B a.name) (B a.name) Try.underlying9
  have h0' := run_equalIn_string (P := Try.prog) w 9997 9 (B a.name) (B a.name) Try.underlying9
  have h0'' := run_equalIn_string (P := Try.prog) w 9996 9 (B a.name) (B a.name) Try.underlying9
  have h1 := run_equalIn_int (P := Try.prog) w 9997 3 .i64 .i64 a.kind a.kind Try.underlying3
  have h1' := run_equalIn_int (P := Try.prog) w 9998 3 .i64 .i64 a.kind a.kind Try.underlying3
  have h1'' := run_equalIn_int (P := Try.prog) w 9996 3 .i64 .i64 a.kind a.kind Try.underlying3
  have h2 := run_equalIn_bytes w 9997 Try.underlying24 (by kernel_rfl) Try.underlying5 (by kernel_rfl) (Option.isSome_iff_exists.1 (by kernel_rfl)) a.id a.id ha ha
  have h2' := run_equalIn_bytes w 9996 Try.underlying24 (by kernel_rfl) Try.underlying5 (by kernel_rfl) (Option.isSome_iff_exists.1 (by kernel_rfl)) a.id a.id ha ha
  have h2'' := run_equalIn_bytes w 9995 Try.underlying24 (by kernel_rfl) Try.underlying5 (by kernel_rfl) (Option.isSome_iff_exists.1 (by kernel_rfl)) a.id a.id ha ha
  simp only [Op.eqFields, n0, t0, o0, n1, t1, o1, n2, t2, o2, Sem.run_bind, run_part_ename, run_part_ekind, run_part_eid a ha, Result.andThen_ok]
  have e0 : ("Name" = "_") = False := eq_false (by decide)
  have e1 : ("Id" = "_") = False := eq_false (by decide)
  have e2 : ("Kind" = "_") = False := eq_false (by decide)
  simp only [e0, e1, e2, h0, h0', h0'', h1, h1', h1'', h2, h2', h2'', Result.andThen_ok, ne_eq, reduceCtorEq, not_false_eq_true, if_true, Sem.run_ite, Sem.run_bind, Sem.run_pure, run_part_ename, run_part_ekind, run_part_eid a ha, decide_true, beq_self_eq_true]
  rfl
theorem quiet_neq_ent {C : World → Prop} {W : World} {a : Act} {d : Option Tmp} {rt t' : TypeId} {pos : String} {af : Array Edge} {gd : Option (Nat × Bool)} {x y : Operand} (p : EntL) (hp : p.id.length = 32)
    (hx : a.eval x = .agg (entC p).toArray) (hy : a.eval y = .agg (entC p).toArray) : Oper.quietUpon Try.prog C W (.bool false) ((execOp a.eval { dst := d, op := .binOp .neq 45 x y t', type := rt, pos := pos, after := af, guard := gd }).run Try.prog W) := by
  unfold execOp
  simp only [hx, hy, Sem.run_bind, run_eqGuard_agg _ _ _ _ _ _ _ Try.eqGuardType45, run_neq_struct, run_equalIn_ent p hp, Result.andThen_ok]
  exact ⟨rfl, rfl⟩
theorem quiet_neq_same_c {C : World → Prop} {W : World} {a : Act} {d : Option Tmp} {rt t' : TypeId} {pos : String} {af : Array Edge} {gd : Option (Nat × Bool)} {x y : Operand} (p : Txt) (hp : p.length = 32)
    (hx : a.eval x = .agg (idC p).toArray) (hy : a.eval y = .agg (idC p).toArray) : Oper.quietUpon Try.prog C W (.bool false) ((execOp a.eval { dst := d, op := .binOp .neq 24 x y t', type := rt, pos := pos, after := af, guard := gd }).run Try.prog W) := by
  have e : (idC p).toArray = u8s p := by simp [idC]
  rw [e] at hx hy
  unfold execOp
  simp only [hx, hy, Sem.run_bind, run_eqGuard_agg _ _ _ _ _ _ _ Try.eqGuardType24, run_neq_id W p p hp hp, Result.andThen_ok, decide_true, Bool.not_true]
  exact ⟨rfl, rfl⟩
theorem quiet_neq_same {C : World → Prop} {W : World} {a : Act} {d : Option Tmp} {rt t' : TypeId} {pos : String} {af : Array Edge} {gd : Option (Nat × Bool)} {x y : Operand} (p : Txt) (hp : p.length = 32)
    (hx : a.eval x = .agg (u8s p)) (hy : a.eval y = .agg (u8s p)) : Oper.quietUpon Try.prog C W (.bool false) ((execOp a.eval { dst := d, op := .binOp .neq 24 x y t', type := rt, pos := pos, after := af, guard := gd }).run Try.prog W) := by
  unfold execOp
  simp only [hx, hy, Sem.run_bind, run_eqGuard_agg _ _ _ _ _ _ _ Try.eqGuardType24, run_neq_id W p p hp hp, Result.andThen_ok, decide_true, Bool.not_true]
  exact ⟨rfl, rfl⟩
/-- What lies there while two objects are looked at. -/
structure SmoC (w : World) (gx gy ga oa gb ob : Nat) (o : ObjL) (v1 v2 v3 v4 : Value) (k : Nat) (cs : List Value) (w' : World) : Prop where
  a_ : w'.rangeAt ga oa cs
  b_ : w'.rangeAt gb ob cs
  x_ : ObjB w' gx o v1 v2
  y_ : ObjB w' gy o v3 v4
  bel : Below w.heap.size w w'
theorem SmoC.drew {w : World} {gx gy ga oa gb ob : Nat} {o : ObjL} {v1 v2 v3 v4 : Value} {k : Nat} {cs : List Value} {w' : World} (h : SmoC w gx gy ga oa gb ob o v1 v2 v3 v4 k cs w') : SmoC w gx gy ga oa gb ob o v1 v2 v3 v4 k cs w'.drew := ⟨h.a_, h.b_, h.x_.drew, h.y_.drew, h.bel.drew⟩
set_option maxRecDepth 100000 in
set_option maxHeartbeats 4000000 in
theorem same_calls (o : ObjL) (A1 A2 A3 A4 : Option Addr) (k1 k2 k3 k4 : Nat) (w : World) (h1 : ObjV w (.slice A1 o.ents.length k1) (.slice A2 o.pars.length k2) o) (h2 : ObjV w (.slice A3 o.ents.length k3) (.slice A4 o.pars.length k4) o) :
    Calls Try.prog 9 #[.agg (objC o (.slice A1 o.ents.length k1) (.slice A2 o.pars.length k2)).toArray, .agg (objC o (.slice A3 o.ents.length k3) (.slice A4 o.pars.length k4)).toArray] w fun e w' => e = .returned (.bool true) ∧ Below w.heap.size w w' := by
  have ho := h1.ok
  have hx := boxed (w := w) (ve := .slice A1 o.ents.length k1) (vp := .slice A2 o.pars.length k2) ho
  obtain ⟨W1, hW1⟩ : ∃ W1, w.alloc (.cells (objC o (.slice A1 o.ents.length k1) (.slice A2 o.pars.length k2)).toArray 28) = W1 := ⟨_, rfl⟩
  rw [hW1] at hx
  have b1 : Below w.heap.size w W1 := by rw [← hW1]; exact (Below.refl _ _).alloc (Nat.le_refl _) _
  have hy := boxed (w := W1) (ve := .slice A3 o.ents.length k3) (vp := .slice A4 o.pars.length k4) ho
  obtain ⟨W2, hW2⟩ : ∃ W2, W1.alloc (.cells (objC o (.slice A3 o.ents.length k3) (.slice A4 o.pars.length k4)).toArray 28) = W2 := ⟨_, rfl⟩
  rw [hW2] at hy
  have b2 : Below W1.heap.size W1 W2 := by rw [← hW2]; exact (Below.refl _ _).alloc (Nat.le_refl _) _
  have hx := hx.below b2
  have v1 := (h1.below b1).below b2
  have v2 := (h2.below b1).below b2
  have b12 := bthen b1 b1.size b2
  have hat1 : Hid (0 < o.ents.length → ∃ g os, A1 = some ⟨g, os, none⟩ ∧ g < W2.heap.size ∧ ∀ i x, o.ents[i]? = some x → W2.rangeAt g (os + i * 34) (entC x)) := by
    obtain ⟨A, cap, he, _, _, h⟩ := v1.ents
    injection he with he _ _
    subst he
    exact h
  have hat2 : Hid (0 < o.ents.length → ∃ g os, A3 = some ⟨g, os, none⟩ ∧ g < W2.heap.size ∧ ∀ i x, o.ents[i]? = some x → W2.rangeAt g (os + i * 34) (entC x)) := by
    obtain ⟨A, cap, he, _, _, h⟩ := v2.ents
    injection he with he _ _
    subst he
    exact h
  have hat3 : Hid (0 < o.pars.length → ∃ g os, A2 = some ⟨g, os, none⟩ ∧ g < W2.heap.size ∧ ∀ i x, o.pars[i]? = some x → W2.rangeAt g (os + i * 32) (idC x)) := by
    obtain ⟨A, cap, he, _, _, h⟩ := v1.pars
    injection he with he _ _
    subst he
    exact h
  have hat4 : Hid (0 < o.pars.length → ∃ g os, A4 = some ⟨g, os, none⟩ ∧ g < W2.heap.size ∧ ∀ i x, o.pars[i]? = some x → W2.rangeAt g (os + i * 32) (idC x)) := by
    obtain ⟨A, cap, he, _, _, h⟩ := v2.pars
    injection he with he _ _
    subst he
    exact h
  have hle := v1.ents.len
  have hlp := v1.pars.len
  have hoe := Lib.hid ho.ents
  have hop := Lib.hid ho.pars
  have htr := ho.tree
  have hta := ho.target
  clear v1 v2 h1 h2 ho
  obtain ⟨ca, hca⟩ : ∃ ca, (objC o (.slice A1 o.ents.length k1) (.slice A2 o.pars.length k2)).toArray = ca := ⟨_, rfl⟩
  obtain ⟨cb, hcb⟩ : ∃ cb, (objC o (.slice A3 o.ents.length k3) (.slice A4 o.pars.length k4)).toArray = cb := ⟨_, rfl⟩
  rw [hca] at hW1 ⊢
  rw [hcb] at hW2 ⊢
  clear hca hcb
  have x0 := hx.kind
  have x1 := hx.data
  have x2 := hx.ents
  have x35 := hx.pars
  have x36 := hx.time
  have x37 := hx.text
  have x70 := hx.of_
  have x71 := hx.name
  have xt := run_ldvI_at hx.tree htr
  have xg := run_ldvI_at hx.target hta
  have y0 := hy.kind
  have y1 := hy.data
  have y2 := hy.ents
  have y35 := hy.pars
  have y36 := hy.time
  have y37 := hy.text
  have y70 := hy.of_
  have y71 := hy.name
  have yt := run_ldvI_at hy.tree htr
  have yg := run_ldvI_at hy.target hta
  have n1 := fun W => run_neq_id W o.tree o.tree htr htr
  have n2 := fun W => run_neq_id W o.target o.target hta hta
  simp only [decide_true, Bool.not_true] at n1 n2
  have hB : Below w.heap.size w W2 := b12
  obtain ⟨gB, hgB⟩ : ∃ gB, Hid (w.heap.size = gB) := ⟨_, Lib.hid rfl⟩
  go_enter Try.func9, Try.ntmps9
  go_upto_region 1 with (fail)
  generalize w.heap.size = gx at x0 x1 x2 x35 x36 x37 x70 x71 xt xg hx ⊢
  generalize W1.heap.size = gy at *
  clear hW1 hW2 b1 b2 b12
  go_wp2_with (fail)
  go_loopw [5] (fun i wr => ∃ k : Nat, i = .int .i64 k ∧ k ≤ o.ents.length ∧ Below W2.heap.size W2 wr) (fun i _ => o.ents.length - (intOf i).toNat)
  case atStart => exact ⟨0, rfl, by omega, Below.refl _ _⟩
  case round =>
    obtain ⟨k, rfl, hk, hbel⟩ := hrel
    clear x0 x1 x2 x35 x36 x37 x70 x71 xt xg y0 y1 y2 y35 y36 y37 y70 y71 yt yg n1 n2
    have hxr := hx.below hbel
    have hyr := hy.below hbel
    have x2 := hxr.ents
    have y2 := hyr.ents
    by_cases hlt : k < o.ents.length
    · have hki : (k : Int) < (o.ents.length : Int) := by omega
      obtain ⟨ga, oa, rfl, hga, hca⟩ := hat1.out (by omega)
      obtain ⟨gb, ob, rfl, hgb, hcb⟩ := hat2.out (by omega)
      obtain ⟨x, hxe⟩ : ∃ x, o.ents[k]? = some x := ⟨_, List.getElem?_eq_getElem hlt⟩
      have hxo := hoe.out x (List.mem_of_getElem? hxe)
      have hsz : (Try.prog.info? 45).map (·.size) = some (entC x).length := by rw [entC_len hxo]; exact szEnt
      have hS : SmoC W2 gx gy ga (oa + k * 34) gb (ob + k * 34) o (.slice (some ⟨ga, oa, none⟩) o.ents.length k1) (.slice A2 o.pars.length k2) (.slice (some ⟨gb, ob, none⟩) o.ents.length k3) (.slice A4 o.pars.length k4) k (entC x) wr := ⟨rangeAt_below (hca k x hxe) hga hbel, rangeAt_below (hcb k x hxe) hgb hbel, hxr, hyr, hbel⟩
      clear hxe hat1 hat2 hat3 hat4 hca hcb hbel hxr hyr
      go_wp2_with (fail)
      refine wp_region_class (C := SmoC W2 gx gy ga (oa + k * 34) gb (ob + k * 34) o (.slice (some ⟨ga, oa, none⟩) o.ents.length k1) (.slice A2 o.pars.length k2) (.slice (some ⟨gb, ob, none⟩) o.ents.length k3) (.slice A4 o.pars.length k4) k (entC x)) (by kernel_rfl) (by kernel_rfl) hS.drew ?_
      repeat
        first
          | ((with_reducible refine wpQuiet_ex ?_ ?_)
             · (go_simp; done)
             apply Exists.intro
             refine ⟨fun W hW => ?_, ?_⟩
             · first
                 | exact quiet_load_mid _ _ rfl ga (oa + k * 34) rfl (entC x) _ hW.a_ Try.underlying45 rfl hsz rfl
                 | exact quiet_load_mid _ _ rfl gb (ob + k * 34) rfl (entC x) _ hW.b_ Try.underlying45 rfl hsz rfl
                 | ((with_reducible refine quiet_neq_ent x hxo.id ?_ ?_) <;> rfl)
                 | (have f1 := hW.x_.ents
                    have f2 := hW.y_.ents
                    go_simp
                    first
                      | rfl)
             simp only [Act.put, List.setIfInBounds_toArray, List.set_cons_zero, List.set_cons_succ])
          | ((with_reducible refine wpQuiet_pass ?_ ?_)
             · (first | rfl | (go_simp; done))
             simp only [Act.put, List.setIfInBounds_toArray, List.set_cons_zero, List.set_cons_succ])
      with_reducible refine wpQuiet_nil ?_
      intro w5 hW5
      go_wp2_with (fail)
      go_roundw
      case rel => exact ⟨k + 1, by go_num, by omega, hW5.bel⟩
      case measure => simp [intOf]; omega
    · have hki : ¬ (k : Int) < (o.ents.length : Int) := by omega
      have hb3 := bthen hB hB.size hbel
      have hx3 := hx.below hbel
      have hy3 := hy.below hbel
      have x2 := hx3.ents
      have y2 := hy3.ents
      have hsz3 := hbel.size
      have hat3 : Hid (0 < o.pars.length → ∃ g os, A2 = some ⟨g, os, none⟩ ∧ g < wr.heap.size ∧ ∀ i x, o.pars[i]? = some x → wr.rangeAt g (os + i * 32) (idC x)) := fun h => by
        obtain ⟨g, os, h1, h2, h3⟩ := hat3.out h
        exact ⟨g, os, h1, Nat.lt_of_lt_of_le h2 hsz3, fun i x hx => rangeAt_below (h3 i x hx) h2 hbel⟩
      have hat4 : Hid (0 < o.pars.length → ∃ g os, A4 = some ⟨g, os, none⟩ ∧ g < wr.heap.size ∧ ∀ i x, o.pars[i]? = some x → wr.rangeAt g (os + i * 32) (idC x)) := fun h => by
        obtain ⟨g, os, h1, h2, h3⟩ := hat4.out h
        exact ⟨g, os, h1, Nat.lt_of_lt_of_le h2 hsz3, fun i x hx => rangeAt_below (h3 i x hx) h2 hbel⟩
      clear hat1 hat2 hB hbel hx hy hsz3 hxr hyr hlt
      go_wp2_with (fail)
      clear x2 y2 hki
      obtain ⟨W3, rfl⟩ : ∃ W3, W3 = wr := ⟨_, rfl⟩
      go_loopw [6] (fun i wq => ∃ m : Nat, i = .int .i64 m ∧ m ≤ o.pars.length ∧ Below W3.heap.size W3 wq) (fun i _ => o.pars.length - (intOf i).toNat)
      case atStart => exact ⟨0, rfl, by omega, Below.refl _ _⟩
      case round =>
        obtain ⟨m, rfl, hk, hbel⟩ := hrel
        have hxr := hx3.below hbel
        have hyr := hy3.below hbel
        have x2 := hxr.pars
        have y2 := hyr.pars
        by_cases hlt : m < o.pars.length
        · have hki : (m : Int) < (o.pars.length : Int) := by omega
          obtain ⟨ga, oa, rfl, hga, hca⟩ := hat3.out (by omega)
          obtain ⟨gb, ob, rfl, hgb, hcb⟩ := hat4.out (by omega)
          obtain ⟨x, hxe⟩ : ∃ x, o.pars[m]? = some x := ⟨_, List.getElem?_eq_getElem hlt⟩
          have hxo := hop.out x (List.mem_of_getElem? hxe)
          have hsz : (Try.prog.info? 24).map (·.size) = some (idC x).length := by rw [idC_len hxo]; exact sz32
          have hS : SmoC W3 gx gy ga (oa + m * 32) gb (ob + m * 32) o (.slice A1 o.ents.length k1) (.slice (some ⟨ga, oa, none⟩) o.pars.length k2) (.slice A3 o.ents.length k3) (.slice (some ⟨gb, ob, none⟩) o.pars.length k4) m (idC x) wr := ⟨rangeAt_below (hca m x hxe) hga hbel, rangeAt_below (hcb m x hxe) hgb hbel, hxr, hyr, hbel⟩
          clear hxe hat3 hat4 hca hcb hbel hxr hyr
          go_wp2_with (fail)
          refine wp_region_class (C := SmoC W3 gx gy ga (oa + m * 32) gb (ob + m * 32) o (.slice A1 o.ents.length k1) (.slice (some ⟨ga, oa, none⟩) o.pars.length k2) (.slice A3 o.ents.length k3) (.slice (some ⟨gb, ob, none⟩) o.pars.length k4) m (idC x)) (by kernel_rfl) (by kernel_rfl) hS.drew ?_
          repeat
            first
              | ((with_reducible refine wpQuiet_ex ?_ ?_)
                 · (go_simp; done)
                 apply Exists.intro
                 refine ⟨fun W hW => ?_, ?_⟩
                 · first
                     | exact quiet_load_mid _ _ rfl ga (oa + m * 32) rfl (idC x) _ hW.a_ Try.underlying24 rfl hsz rfl
                     | exact quiet_load_mid _ _ rfl gb (ob + m * 32) rfl (idC x) _ hW.b_ Try.underlying24 rfl hsz rfl
                     | ((with_reducible refine quiet_neq_same_c x hxo ?_ ?_) <;> rfl)
                     | (have f1 := hW.x_.pars
                        have f2 := hW.y_.pars
                        go_simp
                        first
                          | rfl)
                 simp only [Act.put, List.setIfInBounds_toArray, List.set_cons_zero, List.set_cons_succ])
              | ((with_reducible refine wpQuiet_pass ?_ ?_)
                 · (first | rfl | (go_simp; done))
                 simp only [Act.put, List.setIfInBounds_toArray, List.set_cons_zero, List.set_cons_succ])
          with_reducible refine wpQuiet_nil ?_
          intro w5 hW5
          go_wp2_with (fail)
          go_roundw
          case rel => exact ⟨m + 1, by go_num, by omega, hW5.bel⟩
          case measure => simp [intOf]; omega
        · have hki : ¬ (m : Int) < (o.pars.length : Int) := by omega
          have x2 := hxr.pars
          clear hat3 hat4
          go_wp2_with (fail)
          go_ret
          exact ⟨rfl, bthen hb3 hb3.size hbel⟩
end Go.Proofs.Ytlanconcbpdneaa
/- The walk of layer 4's law: ObjectBack. No condition. -/
namespace Go.Proofs.Ytlanconcbpdneaa
open Go.RowKit
attribute [local go_sem ↓] ldvO_eq
theorem takeP_lt {s t q : Txt} (h : takeP s = some (t, q)) : t.length ≤ s.length ∧ q.length ≤ s.length := by
  have := takeP_back h
  rw [this]
  unfold textE
  simp only [List.length_append]
  omega
theorem decode_calls (s : Txt) (hs : s.length ≤ 4611686018427387904) (w : World) : Calls Try.prog 8 #[.string (B s)] w fun e w' => DecR (decO s) w' e ∧ Below w.heap.size w w' := by
  have hno : decO s = none → (s = [] ∨ 4096 < s.length ∨ takeP (s.drop 1) = none ∨ ∃ t c q, takeP (s.drop 1) = some (t, c :: q)) → Calls Try.prog 8 #[.string (B s)] w fun e w' => DecR (decO s) w' e ∧ Below w.heap.size w w' := fun h1 h2 => by
    rw [h1]
    exact decode_no s hs h2 w
  match s, hs, hno with
  | [], hs, hno => exact hno rfl (.inl rfl)
  | c :: q, hs, hno =>
    by_cases h1 : 4096 < (c :: q).length
    · exact hno (by unfold decO; simp only; rw [if_pos h1]) (.inr (.inl h1))
    · cases ht : takeP q with
      | none => exact hno (by unfold decO; simp only [ht]; rw [if_neg h1]) (.inr (.inr (.inl ht)))
      | some p =>
        obtain ⟨t, b⟩ := p
        cases b with
        | nil => exact decode_yes c q t (by simp only [List.length_cons] at h1; omega) ht w
        | cons x b => exact hno (by unfold decO; simp only [ht]; rw [if_neg h1, if_pos (by simp)]) (.inr (.inr (.inr ⟨t, x, b, ht⟩)))
theorem small_enc {o : ObjL} {t : Txt} (h : encO o = some t) : Small o := by
  have h1 : o.data.length ≤ 4096 := Nat.le_of_not_lt fun hc => by rw [enc_data hc] at h; cases h
  have h2 : o.text.length ≤ 4096 := Nat.le_of_not_lt fun hc => by rw [enc_text hc] at h; cases h
  have hm : mayB o = true := by
    unfold encO at h
    split at h
    · rename_i hc; exact hc.1
    · cases h
  have ha := may_alone hm
  unfold aloneB at ha
  have z : ([] : Txt).length ≤ 100 := by simp
  rcases may_kind hm with hk | hk | hk | hk
  · rw [hk] at ha
    simp at ha
    obtain ⟨c1, c2, c3, c4⟩ := commit_all ha.1.2
    obtain ⟨t1, t2, t3⟩ := tag_all ha.2
    have e1 := tree_nil ha.1.1
    exact ⟨by rw [e1]; simp, by rw [e1]; simp, by rw [c2]; simp, by omega, by omega, by rw [t3]; simp⟩
  · rw [hk] at ha
    simp at ha
    obtain ⟨c1, c2, c3, c4⟩ := commit_all ha.1.2
    obtain ⟨t1, t2, t3⟩ := tag_all ha.2
    have hf : entsB o.ents = true := by
      unfold mayB at hm
      rw [if_pos hk] at hm
      simp at hm
      exact hm.2
    have hfine := ents_fine hf
    exact ⟨by omega, fun e he => by have := name_len (hfine.2 e he).1; omega, by rw [c2]; simp, by omega, by omega, by rw [t3]; simp⟩
  · have hp8 : o.pars.length ≤ 8 := by
      unfold mayB at hm
      rw [if_neg (by omega), if_pos hk] at hm
      simp at hm
      exact hm.2
    rw [hk] at ha
    simp at ha
    obtain ⟨t1, t2, t3⟩ := tag_all ha.2
    have e2 := tree_nil ha.1.2
    exact ⟨by rw [e2]; simp, by rw [e2]; simp, by omega, by omega, by omega, by rw [t3]; simp⟩
  · have hfn : nameB o.name = true := by
      unfold mayB at hm
      rw [if_neg (by omega), if_neg (by omega), if_pos hk] at hm
      simp at hm
      exact hm.2
    rw [hk] at ha
    simp at ha
    obtain ⟨c1, c2, c3, c4⟩ := commit_all ha.2
    have e2 := tree_nil ha.1.2
    have := name_len hfn
    exact ⟨by rw [e2]; simp, by rw [e2]; simp, by rw [c2]; simp, by omega, by omega, by omega⟩
theorem zero_small : Small zeroO := ⟨by decide, by simp [zeroO], by decide, by decide, by decide, by decide⟩
theorem zero_ok (w : World) : ObjV w (.slice none 0 0) (.slice none 0 0) zeroO := ⟨⟨noId_len, noId_len, by simp [zeroO], by simp [zeroO], by decide, by decide, by decide, by decide, by decide, by decide, by decide, by decide⟩, SliceAt.nil, SliceAt.nil⟩
theorem zero_enc : encO zeroO = none := by decide
/-- The object that is told, whatever is decoded. -/
structure AnyO (s : Txt) (w' : World) (e : Ending) (q : ObjL) (A1 A2 : Option Addr) (k1 k2 : Nat) (g : Int) : Prop where
  e_ : e = .returned (.tuple #[.agg (objC q (.slice A1 q.ents.length k1) (.slice A2 q.pars.length k2)).toArray, .int .i64 g])
  val : ObjV w' (.slice A1 q.ents.length k1) (.slice A2 q.pars.length k2) q
  small : Small q
  told : (g = 0 ∧ decO s = some q ∧ encC q = .tuple #[.string (B s), .int .i64 0]) ∨ (g = 2 ∧ decO s = none ∧ q = zeroO ∧ encC q = .tuple #[.string (B []), .int .i64 1])
theorem dec_any {s : Txt} {w' : World} {e : Ending} (h : DecR (decO s) w' e) : ∃ q A1 A2 k1 k2 g, AnyO s w' e q A1 A2 k1 k2 g := by
  cases hd : decO s with
  | none =>
    rw [hd] at h
    exact ⟨zeroO, none, none, 0, 0, 2, h, zero_ok w', zero_small, .inr ⟨rfl, hd, rfl, encC_none zero_enc⟩⟩
  | some o =>
    rw [hd] at h
    obtain ⟨A1, A2, k1, k2, h1, h2⟩ := h
    have he := (dec_back hd).1
    exact ⟨o, A1, A2, k1, k2, 0, h1, h2, small_enc he, .inl ⟨rfl, hd, encC_some he⟩⟩
set_option maxRecDepth 100000 in
set_option maxHeartbeats 4000000 in
theorem back_calls (o : ObjL) (A1 A2 : Option Addr) (k1 k2 : Nat) (s : Txt) (w : World) (hv : ObjV w (.slice A1 o.ents.length k1) (.slice A2 o.pars.length k2) o) : Calls Try.prog 3 #[.agg (objC o (.slice A1 o.ents.length k1) (.slice A2 o.pars.length k2)).toArray, .string (B s)] w fun e w' => e = .returned (.bool true) ∧ Below w.heap.size w w' := by
  have ho := hv.ok
  have hO := boxed (w := w) (ve := .slice A1 o.ents.length k1) (vp := .slice A2 o.pars.length k2) ho
  have b0 : Below w.heap.size w (w.alloc (.cells (objC o (.slice A1 o.ents.length k1) (.slice A2 o.pars.length k2)).toArray 28)) := (Below.refl _ _).alloc (Nat.le_refl _) _
  have hv0 := hv.below b0
  obtain ⟨W0, hW0⟩ : ∃ W0, w.alloc (.cells (objC o (.slice A1 o.ents.length k1) (.slice A2 o.pars.length k2)).toArray 28) = W0 := ⟨_, rfl⟩
  rw [hW0] at hO b0 hv0
  have hE0 : EncC w w.heap.size o (.slice A1 o.ents.length k1) (.slice A2 o.pars.length k2) W0 := ⟨hO, hv0, b0⟩
  have hf := Lib.hid (few_calls o A1 A2 k1 k2 W0 hv0)
  have hld := fun W (h : EncC w w.heap.size o (.slice A1 o.ents.length k1) (.slice A2 o.pars.length k2) W) => h.whole
  have hen := fun (hs : Small o) W (h : EncC w w.heap.size o (.slice A1 o.ents.length k1) (.slice A2 o.pars.length k2) W) => Lib.hid (encode_calls o hs A1 A2 k1 k2 W h.val)
  have hsm := fun A3 A4 k3 k4 W (h : EncC w w.heap.size o (.slice A1 o.ents.length k1) (.slice A2 o.pars.length k2) W) h2 => Lib.hid (same_calls o A1 A2 A3 A4 k1 k2 k3 k4 W h.val h2)
  have hde := fun (hs : s.length ≤ 5000) W => Lib.hid (decode_calls s (by omega) W)
  have kn := fun W => Lib.hid (knows_calls W)
  have hzv := zeroObj
  have hz72 := zObj_size
  have q0 := hld W0 hE0
  have hnb := Lib.hid (fun t (h : encO o = some t) => dec_enc h ho.tree ho.target (fun e he => (ho.ents e he).id) ho.pars ho.time)
  clear hv ho hv0 hO b0
  generalize (objC o (.slice A1 o.ents.length k1) (.slice A2 o.pars.length k2)).toArray = cs at *
  go_enter Try.func3, Try.ntmps3
  go_wp2_with (fail)
  refine (Calls.mono hf.out ?_)
  rintro e w1 ⟨⟨b1, rfl, hsm0⟩, hb1⟩
  have hE1 := hE0.below hb1
  have q1 := hld w1 hE1
  clear hf q0 hE0 hW0
  cases b1 with
  | false =>
    have kn := kn w1
    clear hen hsm hsm0 hde hnb hld
    go_wp2_with (first
      | ((with_reducible refine kn.out.mono ?_); rintro e w3 ⟨rfl, hb3⟩))
    have hE3 := hE1.below hb3
    go_ret
    exact ⟨rfl, hE3.bel⟩
  | true =>
    by_cases i1 : 5000 < s.length
    · have i1' : (5000 : Int) < (s.length : Int) := by omega
      have kn := kn w1
      clear hen hsm hsm0 hde hnb hld
      go_wp2_with (first
        | ((with_reducible refine kn.out.mono ?_); rintro e w3 ⟨rfl, hb3⟩))
      all_goals try (exfalso; omega)
      have hE3 := hE1.below hb3
      go_ret
      exact ⟨rfl, hE3.bel⟩
    · have i1' : ¬ (5000 : Int) < (s.length : Int) := by omega
      have hs := hsm0 rfl
      have hen := hen hs w1 hE1
      have hde := hde (by omega)
      clear hsm0 hs
      obtain ⟨tt, ee, hval, htold⟩ : ∃ tt ee, encC o = .tuple #[.string (B tt), .int .i64 ee] ∧ Hid ((ee = 0 ∧ encO o = some tt) ∨ ee = 1) := by
        cases hq : encO o with
        | none => exact ⟨[], 1, encC_none hq, .inr rfl⟩
        | some t => exact ⟨t, 0, encC_some hq, .inl ⟨rfl, rfl⟩⟩
      rw [hval] at hen
      clear hval
      go_upto_if 31 with (first
        | ((with_reducible refine hen.out.mono ?_); rintro e w2 ⟨rfl, hb2⟩))
      have hE2 := hE1.below hb2
      clear hen hE1 q1 hb2
      go_cut [] from 31 to 50 (fun wx => EncC w w.heap.size o (.slice A1 o.ents.length k1) (.slice A2 o.pars.length k2) wx)
      case first =>
        rcases htold.out with ⟨rfl, htt⟩ | rfl
        · obtain ⟨hdt, htl⟩ := hnb.out tt htt
          have hdc := decode_calls tt (by omega) w2
          rw [hdt] at hdc
          have hdc := Lib.hid hdc
          have htl' : ¬ (4096 : Int) < (tt.length : Int) := by omega
          clear htold htt hdt hnb hde
          go_upto_region 7 with (first
            | ((with_reducible refine hdc.out.mono ?_); rintro e w3 ⟨⟨A3, A4, k3, k4, rfl, hv3⟩, hb3⟩
               have hE3 := hE2.below hb3
               have hc72 : (objC o (.slice A3 o.ents.length k3) (.slice A4 o.pars.length k4)).toArray.size = 72 := by rw [List.size_toArray, objC_len hv3.ok]
               have hcone := objC_all o A3 A4 o.ents.length k3 o.pars.length k4
               clear hdc hE2)
            | ((with_reducible refine lit_new 28 (.tmp 8) (.tmp 35) (objC o (.slice A3 o.ents.length k3) (.slice A4 o.pars.length k4)).toArray 72 szObj hc72 hcone _ ?_ ?_ ?_ ?_)
               · exact hz72
               · rfl
               · rfl
               intro W4 hb4 hbl4
               have hE4 := hE3.below hbl4
               have hv4 := hv3.below hbl4
               have hq4 := hld W4 hE4
               have hO4 : ObjB W4 w3.heap.size o (.slice A3 o.ents.length k3) (.slice A4 o.pars.length k4) := ⟨hb4, hv3.ok.tree, hv3.ok.target⟩
               have hr4 := run_ldvO hO4 hv3.ok
               have hsm4 := hsm A3 A4 k3 k4 W4 hE4 hv4))
          clear hE3 hv3 hsm hb4 hO4 hc72 hcone
          generalize (objC o (.slice A3 o.ents.length k3) (.slice A4 o.pars.length k4)).toArray = cs2 at *
          go_wp2_with (first
            | ((with_reducible refine hsm4.out.mono ?_); rintro e w5 ⟨rfl, hb5⟩
               have hE5 := hE4.below hb5
               clear hsm4 hE4 hq4 hr4 hv4))
          all_goals try (exfalso; omega)
          go_meet
          case rel => exact hE5
        · clear htold hnb hsm hde hld
          go_wp2_with (fail)
          go_meet
          case rel => exact hE2
      clear hE2 hsm hnb htold
      have hEX := hcut
      clear hcut
      have hdc := hde wc
      go_upto_region 11 with (first
        | ((with_reducible refine hdc.out.mono ?_); rintro e w3 ⟨hdr, hb3⟩
           obtain ⟨q, A3, A4, k3, k4, g, rfl, hv3, hqs, htold⟩ := dec_any hdr
           have htold := Lib.hid htold
           have hE3 := hEX.below hb3
           have hc72 : (objC q (.slice A3 q.ents.length k3) (.slice A4 q.pars.length k4)).toArray.size = 72 := by rw [List.size_toArray, objC_len hv3.ok]
           have hcone := objC_all q A3 A4 q.ents.length k3 q.pars.length k4
           clear hdc hEX hdr)
        | ((with_reducible refine lit_new 28 (.tmp 11) (.tmp 54) (objC q (.slice A3 q.ents.length k3) (.slice A4 q.pars.length k4)).toArray 72 szObj hc72 hcone _ ?_ ?_ ?_ ?_)
           · exact hz72
           · rfl
           · rfl
           intro W4 hb4 hbl4
           have hE4 := hE3.below hbl4
           have hv4 := hv3.below hbl4
           have hO4 : ObjB W4 w3.heap.size q (.slice A3 q.ents.length k3) (.slice A4 q.pars.length k4) := ⟨hb4, hv3.ok.tree, hv3.ok.target⟩
           have hr4 := run_ldvO hO4 hv3.ok
           have hen4 := encode_calls q hqs A3 A4 k3 k4 W4 hv4))
      clear hE3 hv3 hb4 hO4 hc72 hcone hv4 hde hld
      generalize (objC q (.slice A3 q.ents.length k3) (.slice A4 q.pars.length k4)).toArray = cs2 at *
      rcases htold.out with ⟨rfl, _, hq⟩ | ⟨rfl, _, _, hq⟩
      all_goals
        rw [hq] at hen4
        have hen4 := Lib.hid hen4
        clear htold hq
        go_wp2_with (first
          | ((with_reducible refine hen4.out.mono ?_); rintro e w5 ⟨rfl, hb5⟩
             have hE5 := hE4.below hb5
             have kn := kn w5
             clear hen4 hE4 hr4)
          | ((with_reducible refine kn.out.mono ?_); rintro e w6 ⟨rfl, hb6⟩
             have hE6 := hE5.below hb6))
        go_ret
        exact ⟨rfl, hE6.bel⟩
end Go.Proofs.Ytlanconcbpdneaa
/- Arguments that are slices of structs, in the walk's words. No condition; no program. -/
namespace Go.Proofs.Ytlanconcbpdneaa
open Go.ChangeShapes Go.WideShapes Go.ChangeAt Go.RowKit
section
variable {H : Type} {enc : TypeId × Value → H} {P : Program} {w : World} {base : Nat} {sp : Nat → Bool} {held : Bool}
open Go.Deep in
theorem open_elems {α : Type} (en : α → List Value) (k : Nat) (hk0 : 0 < k) (Ok : α → Prop) {t e : TypeId} {fuel : Nat} {v : Value} {x : DataW H × List MemPlace} (ht : P.underlying t = some (.slice e)) (hk : P.cellsOf e = k)
    (hen : ∀ y, Ok y → (en y).length = k) (key : ∀ fuel cs x, DataW.trod enc P w base sp held fuel e cs = some x → cs.length = k → ∃ y : α, cs = en y ∧ Ok y) (h : DataW.trod enc P w base sp held fuel t [v] = some x) :
    ∃ l : List α, SliceAt w k en v l ∧ ∀ y ∈ l, Ok y := by
  rcases open_slice ht h with ⟨h0, _⟩ | ⟨a, len, cap, m, n, D, Pl, hcs, hb, hl, hm, hmm, hx, hi⟩
  · injection h0 with h0
    subst h0
    exact ⟨[], SliceAt.nil, fun y hy => by simp at hy⟩
  · injection hcs with hcs
    subst hcs
    have hlm : len ≤ m := by rw [hmm]; split <;> omega
    have per : ∀ i, i < len → ∃ y : α, (∀ j u, (en y)[j]? = some u → w.cell? ((a.add (i * k)).add j) = some u) ∧ Ok y := by
      intro i hil
      obtain ⟨cs', hc, ht'⟩ := hi i (by omega)
      rw [hk] at hc
      obtain ⟨_, hcl, hat⟩ := World.cells?_some hc
      obtain ⟨y, rfl, hok⟩ := key _ _ _ ht' hcl
      refine ⟨y, fun j u hu => ?_, hok⟩
      have hj := (List.getElem?_eq_some_iff.1 hu).1
      rw [hat j (by omega)]
      exact hu
    obtain ⟨l, hll, hp⟩ := list_of len _ per
    subst hll
    have hcm : cap ≤ 9223372036854775807 := by unfold maxLen at hm; omega
    refine ⟨l, ⟨some a, cap, rfl, hl, hcm, fun h0 => ?_⟩, fun y hy => ?_⟩
    · have hy0 := (hp 0 h0).1
      have hlen0 := hen _ (hp 0 h0).2
      have hc0 := hy0 0 _ (List.getElem?_eq_getElem (by omega))
      simp only [Nat.zero_mul] at hc0
      have e00 : (a.add 0).add 0 = a := by simp [Addr.add]
      rw [e00] at hc0
      obtain ⟨ha, hlt⟩ := addr_form hc0
      refine ⟨a.block, a.off, by rw [← ha], hlt, fun i y hy j u hu => ?_⟩
      obtain ⟨hi', he⟩ := List.getElem?_eq_some_iff.1 hy
      have hc := (hp i hi').1 j u (by rw [he]; exact hu)
      rw [ha] at hc
      simp only [addr_add] at hc
      exact hc
    · obtain ⟨i, hi', rfl⟩ := List.getElem_of_mem hy
      exact (hp i hi').2
end
end Go.Proofs.Ytlanconcbpdneaa
/- An argument that is an array of bytes, in the walk's words. No condition. -/
namespace Go.Proofs.Ytlanconcbpdneaa
open Go.ChangeShapes Go.WideShapes Go.ChangeAt Go.RowKit
theorem trod_bytes {H : Type} {enc : TypeId × Value → H} {P : Program} {w : World} {base : Nat} {sp : Nat → Bool} {held : Bool} {fuel : Nat} {t e : TypeId} {n : Nat} {cs : List Value} {x : DataW H × List MemPlace}
    (ht : P.underlying t = some (.array n e)) (he : P.underlying e = some (.int .u8)) (hce : P.cellsOf e = 1) (hct : P.cellsOf t = n)
    (h : DataW.trod enc P w base sp held fuel t cs = some x) : ∃ l : List UInt8, l.length = n ∧ cs = l.map u8v := by
  cases fuel with
  | zero => simp [DataW.trod] at h
  | succ fuel =>
    simp only [DataW.trod, ht, hce, hct, Nat.mul_one] at h
    split at h
    · rename_i hl
      obtain ⟨xs, hm, _⟩ := Option.map_eq_some_iff.1 h
      have key : ∀ i, i < n → ∃ c : UInt8, cs[i]? = some (u8v c) := by
        intro i hi
        obtain ⟨b, _, hf⟩ := Lib.mapM_at hm i i (by simp [hi])
        obtain ⟨z, hc, _, hw⟩ := DataW.trod_int he hf
        have h1 : cs[i]? = some (.int .u8 z) := by
          have := congrArg (·[0]?) hc
          simpa [List.getElem?_take, List.getElem?_drop] using this
        have hb := bounds_u8 hw
        refine ⟨UInt8.ofNat z.toNat, ?_⟩
        rw [h1, u8v, ofNat_toNat_u8 _ (by omega), Int.toNat_of_nonneg hb.1]
      obtain ⟨l, hll, hp⟩ := list_of n (fun i c => cs[i]? = some (u8v c)) key
      refine ⟨l, hll, List.ext_getElem? fun i => ?_⟩
      rcases Nat.lt_or_ge i n with hi | hi
      · rw [hp i (by omega), List.getElem?_map, List.getElem?_eq_getElem (show i < l.length by omega)]
        rfl
      · rw [List.getElem?_eq_none (by omega), List.getElem?_eq_none (by simp; omega)]
    · cases h
/-- What an argument of type Id is. -/
theorem open_id {H : Type} {enc : TypeId × Value → H} {w : World} {base : Nat} {v : Value} {d : DataW H} {p : List MemPlace}
    (hv : Value.okWide Try.prog w .any base 24 v) (h : DataW.Trod enc Try.prog w 0 (fun _ => true) true 24 v d p) :
    ∃ l : List UInt8, l.length = 32 ∧ v = .agg (u8s l) := by
  simp only [Value.okWide, Try.underlying24] at hv
  obtain ⟨cs, rfl, _, _⟩ := hv
  obtain ⟨fuel, hf⟩ := h
  obtain ⟨l, hl, hc⟩ := trod_bytes Try.underlying24 Try.underlying5 (by kernel_rfl) (by kernel_rfl) hf
  refine ⟨l, hl, ?_⟩
  congr 1
  apply Array.ext'
  simpa [u8s, Value.cells] using hc
end Go.Proofs.Ytlanconcbpdneaa
/- Arguments that are objects, in the walk's words. No condition. -/
namespace Go.Proofs.Ytlanconcbpdneaa
open Go.ChangeShapes Go.WideShapes Go.ChangeAt Go.RowKit
section
variable {H : Type} {enc : TypeId × Value → H} {w : World} {base : Nat} {sp : Nat → Bool} {held : Bool}
theorem idC_map (l : Txt) : idC l = l.map u8v := by simp [idC, u8s]
theorem elem_id (fuel : Nat) (cs : List Value) (x : DataW H × List MemPlace) (h : DataW.trod enc Try.prog w base sp held fuel 24 cs = some x) (_ : cs.length = 32) : ∃ r : Txt, cs = idC r ∧ r.length = 32 := by
  obtain ⟨l, hl32, e1⟩ := trod_bytes Try.underlying24 Try.underlying5 (by kernel_rfl) (by kernel_rfl) h
  exact ⟨l, by rw [e1, idC_map], hl32⟩
theorem chain {cs a : List Value} {n k m : Nat} (h : (cs.drop n).take k = a) (hm : n + k = m) : cs.drop n = a ++ cs.drop m := by
  rw [← h, ← hm, ← List.drop_drop]
  exact (List.take_append_drop k _).symm
theorem elem_ent (fuel : Nat) (cs : List Value) (x : DataW H × List MemPlace) (h : DataW.trod enc Try.prog w base sp held fuel 45 cs = some x) (hl : cs.length = 34) : ∃ r : EntL, cs = entC r ∧ EntOk r := by
  obtain ⟨ys, n', hn', hy, hlen, hyl, hf⟩ := DataW.trod_struct Try.underlying45 h
  have hyl : ys.length = 3 := hyl
  have h0 := hf 0 _ rfl
  have h1 := hf 1 _ rfl
  have h2 := hf 2 _ rfl
  rw [List.getElem?_eq_getElem (show 0 < ys.length by omega)] at h0
  rw [List.getElem?_eq_getElem (show 1 < ys.length by omega)] at h1
  rw [List.getElem?_eq_getElem (show 2 < ys.length by omega)] at h2
  obtain ⟨s, e0, _, w0⟩ := DataW.trod_string Try.underlying9 h0
  obtain ⟨k, e1, _, w1⟩ := DataW.trod_int Try.underlying3 h1
  obtain ⟨l, hl32, e2⟩ := trod_bytes Try.underlying24 Try.underlying5 (by kernel_rfl) (by kernel_rfl) h2
  have c0 : Try.prog.cellsOf 9 = 1 := by kernel_rfl
  have c1 : Try.prog.cellsOf 3 = 1 := by kernel_rfl
  have c2 : Try.prog.cellsOf 24 = 32 := by kernel_rfl
  obtain ⟨a, rfl⟩ := B_mk s
  have b1 := bounds_i64 w1
  have e0' : (cs.drop 0).take 1 = [.string (B a)] := by rw [← c0]; exact e0
  have e1' : (cs.drop 1).take 1 = [.int .i64 k] := by rw [← c1]; exact e1
  have e2' : (cs.drop 2).take 32 = l.map u8v := by rw [← c2]; exact e2
  refine ⟨⟨a, k, l⟩, ?_, ⟨hl32, by unfold maxLen at w0; rw [size_B] at w0; show a.length ≤ _; omega, b1.1, b1.2⟩⟩
  have := chain e0' (m := 1) rfl
  rw [List.drop_zero, chain e1' (m := 2) rfl, chain e2' (m := 34) rfl, List.drop_of_length_le (by omega)] at this
  rw [this]
  simp [entC, u8s]
theorem trod_slice_one {fuel : Nat} {t : TypeId} {cs : List Value} {x : DataW H × List MemPlace} (hc : cs.length = 1) (h : DataW.trod enc Try.prog w base sp held fuel t cs = some x) : ∃ v, cs = [v] ∧ DataW.trod enc Try.prog w base sp held fuel t [v] = some x := by
  match cs, hc with
  | [v], _ => exact ⟨v, rfl, h⟩
set_option maxRecDepth 20000 in
theorem elem_obj (fuel : Nat) (cs : List Value) (x : DataW H × List MemPlace) (h : DataW.trod enc Try.prog w base sp held fuel 28 cs = some x) (hl : cs.length = 72) : ∃ (o : ObjL) (ve vp : Value), cs = objC o ve vp ∧ ObjV w ve vp o := by
  obtain ⟨ys, n', hn', hy, hlen, hyl, hf⟩ := DataW.trod_struct Try.underlying28 h
  have hyl : ys.length = 10 := hyl
  have h0 := hf 0 _ rfl
  have h1 := hf 1 _ rfl
  have h2 := hf 2 _ rfl
  have h3 := hf 3 _ rfl
  have h4 := hf 4 _ rfl
  have h5 := hf 5 _ rfl
  have h6 := hf 6 _ rfl
  have h7 := hf 7 _ rfl
  have h8 := hf 8 _ rfl
  have h9 := hf 9 _ rfl
  rw [List.getElem?_eq_getElem (show 0 < ys.length by omega)] at h0
  rw [List.getElem?_eq_getElem (show 1 < ys.length by omega)] at h1
  rw [List.getElem?_eq_getElem (show 2 < ys.length by omega)] at h2
  rw [List.getElem?_eq_getElem (show 3 < ys.length by omega)] at h3
  rw [List.getElem?_eq_getElem (show 4 < ys.length by omega)] at h4
  rw [List.getElem?_eq_getElem (show 5 < ys.length by omega)] at h5
  rw [List.getElem?_eq_getElem (show 6 < ys.length by omega)] at h6
  rw [List.getElem?_eq_getElem (show 7 < ys.length by omega)] at h7
  rw [List.getElem?_eq_getElem (show 8 < ys.length by omega)] at h8
  rw [List.getElem?_eq_getElem (show 9 < ys.length by omega)] at h9
  have ci : Try.prog.cellsOf 3 = 1 := by kernel_rfl
  have cs1 : Try.prog.cellsOf 9 = 1 := by kernel_rfl
  have cE : Try.prog.cellsOf 22 = 1 := by kernel_rfl
  have cP : Try.prog.cellsOf 25 = 1 := by kernel_rfl
  have cI : Try.prog.cellsOf 24 = 32 := by kernel_rfl
  have cU : Try.prog.cellsOf 26 = 1 := by kernel_rfl
  obtain ⟨n0, e0, _, w0⟩ := DataW.trod_int Try.underlying3 h0
  obtain ⟨s1, e1, _, w1⟩ := DataW.trod_string Try.underlying9 h1
  obtain ⟨l3, hl3, e3⟩ := trod_bytes Try.underlying24 Try.underlying5 (by kernel_rfl) (by kernel_rfl) h3
  obtain ⟨n5, e5, _, w5⟩ := DataW.trod_int Try.underlying26 h5
  obtain ⟨s6, e6, _, w6⟩ := DataW.trod_string Try.underlying9 h6
  obtain ⟨l7, hl7, e7⟩ := trod_bytes Try.underlying24 Try.underlying5 (by kernel_rfl) (by kernel_rfl) h7
  obtain ⟨n8, e8, _, w8⟩ := DataW.trod_int Try.underlying3 h8
  obtain ⟨s9, e9, _, w9⟩ := DataW.trod_string Try.underlying9 h9
  obtain ⟨v2, e2, t2⟩ := trod_slice_one (by
    show ((cs.drop 2).take (Try.prog.cellsOf 22)).length = 1
    rw [cE, List.length_take, List.length_drop]; omega) h2
  obtain ⟨v4, e4, t4⟩ := trod_slice_one (by
    show ((cs.drop 35).take (Try.prog.cellsOf 25)).length = 1
    rw [cP, List.length_take, List.length_drop]; omega) h4
  obtain ⟨le, hle, heok⟩ := open_elems entC 34 (by omega) EntOk Try.underlying22 (by kernel_rfl) (fun y hy => entC_len hy) elem_ent t2
  obtain ⟨lp, hlp, hpok⟩ := open_elems idC 32 (by omega) (fun (l : Txt) => l.length = 32) Try.underlying25 (by kernel_rfl) (fun y hy => idC_len hy) elem_id t4
  obtain ⟨a1, rfl⟩ := B_mk s1
  obtain ⟨a6, rfl⟩ := B_mk s6
  obtain ⟨a9, rfl⟩ := B_mk s9
  have b0 := bounds_i64 w0
  have b8 := bounds_i64 w8
  have b5 := bounds_u32 w5
  obtain ⟨k5, rfl⟩ := Int.eq_ofNat_of_zero_le b5.1
  have e0' : (cs.drop 0).take 1 = [.int .i64 n0] := by rw [← ci]; exact e0
  have e1' : (cs.drop 1).take 1 = [.string (B a1)] := by rw [← cs1]; exact e1
  have e2' : (cs.drop 2).take 1 = [v2] := by rw [← cE]; exact e2
  have e3' : (cs.drop 3).take 32 = l3.map u8v := by rw [← cI]; exact e3
  have e4' : (cs.drop 35).take 1 = [v4] := by rw [← cP]; exact e4
  have e5' : (cs.drop 36).take 1 = [.int .u32 k5] := by rw [← cU]; exact e5
  have e6' : (cs.drop 37).take 1 = [.string (B a6)] := by rw [← cs1]; exact e6
  have e7' : (cs.drop 38).take 32 = l7.map u8v := by rw [← cI]; exact e7
  have e8' : (cs.drop 70).take 1 = [.int .i64 n8] := by rw [← ci]; exact e8
  have e9' : (cs.drop 71).take 1 = [.string (B a9)] := by rw [← cs1]; exact e9
  refine ⟨⟨n0, a1, le, l3, lp, k5, a6, l7, n8, a9⟩, v2, v4, ?_, ⟨⟨hl3, hl7, heok, hpok, ?_, ?_, ?_, by show k5 < _; omega, b0.1, b0.2, b8.1, b8.2⟩, hle, hlp⟩⟩
  · have := chain e0' (m := 1) rfl
    rw [List.drop_zero, chain e1' (m := 2) rfl, chain e2' (m := 3) rfl, chain e3' (m := 35) rfl, chain e4' (m := 36) rfl, chain e5' (m := 37) rfl, chain e6' (m := 38) rfl, chain e7' (m := 70) rfl, chain e8' (m := 71) rfl, chain e9' (m := 72) rfl, List.drop_of_length_le (by omega)] at this
    rw [this]
    simp [objC, u8s]
  · unfold maxLen at w1; rw [size_B] at w1; show a1.length ≤ _; omega
  · unfold maxLen at w6; rw [size_B] at w6; show a6.length ≤ _; omega
  · unfold maxLen at w9; rw [size_B] at w9; show a9.length ≤ _; omega
theorem open_obj {base0 : Nat} {v : Value} {d : DataW H} {p : List MemPlace} (hv : Value.okWide Try.prog w .any base0 28 v) (h : DataW.Trod enc Try.prog w base sp held 28 v d p) : ∃ (o : ObjL) (A1 A2 : Option Addr) (k1 k2 : Nat), v = .agg (objC o (.slice A1 o.ents.length k1) (.slice A2 o.pars.length k2)).toArray ∧ ObjV w (.slice A1 o.ents.length k1) (.slice A2 o.pars.length k2) o := by
  simp only [Value.okWide, Try.underlying28] at hv
  obtain ⟨cs, rfl, hsz, _⟩ := hv
  obtain ⟨fuel, hf⟩ := h
  have h72 : Try.prog.cellsOf 28 = 72 := by kernel_rfl
  obtain ⟨o, ve, vp, hr, hov⟩ := elem_obj _ _ _ hf (by simp only [Value.cells]; rw [Array.length_toList, hsz, h72])
  obtain ⟨A1, k1, rfl, _⟩ := hov.ents
  obtain ⟨A2, k2, rfl, _⟩ := hov.pars
  refine ⟨o, A1, A2, k1, k2, ?_, hov⟩
  congr 1
  apply Array.ext'
  simpa [Value.cells] using hr
end
end Go.Proofs.Ytlanconcbpdneaa
