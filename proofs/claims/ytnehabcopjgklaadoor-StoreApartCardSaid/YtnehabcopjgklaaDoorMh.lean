/- Lemmas and walks of this seat, laid together: GsT, GsD, ObjD, ObjS, ObjF. -/
import Derived.Test.YtnehabcopjgklaaDoorMg
/- The walk of layer 4's document: guess at a tree. Condition: a text that is not great. -/
namespace Go.Proofs.YtnehabcopjgklaaDoor
open Go.RowKit
attribute [local go_sem ↓] ldvO_eq
theorem gEnt_ok (d : UInt8) (t : Txt) (h : t.length ≤ 1000000) : EntOk (gEnt d t) := by
  have h1 := (takeN_le t).2
  have h2 := d.toNat_lt
  exact ⟨idG_len _, by show (takeN t).1.length ≤ _; omega, by show _ ≤ (d.toNat : Int); omega, by show (d.toNat : Int) ≤ _; omega⟩
theorem gTree_ok : ∀ (f : Nat) (t : Txt) (acc : List EntL), t.length ≤ 1000000 → (∀ e ∈ acc, EntOk e) → ∀ e ∈ gTree f t acc, EntOk e
  | 0, t, acc, _, h => by rw [gTree]; exact h; intro a b c hc; cases hc
  | f + 1, [], acc, _, h => by rw [gTree]; exact h; intro a b c hc hd; cases hd
  | f + 1, d :: t, acc, hl, h => by
    rw [gTree]
    simp only [List.length_cons] at hl
    refine gTree_ok f _ _ (by simp only [List.length_drop]; omega) ?_
    intro e he
    rcases List.mem_append.1 he with he | he
    · exact h e he
    · obtain rfl := List.mem_singleton.1 he
      exact gEnt_ok d t (by omega)
theorem gTree_end {f : Nat} {t : Txt} {acc : List EntL} (h : f = 0 ∨ t = []) : gTree f t acc = acc := by
  rcases h with rfl | rfl
  · rw [gTree]; intro a b c hc; cases hc
  · cases f with
    | zero => rw [gTree]; intro a b c hc; cases hc
    | succ f => rw [gTree]; intro a b c hc hd; cases hd
theorem gTree_step {f : Nat} {d : UInt8} {t : Txt} {acc : List EntL} : gTree (f + 1) (d :: t) acc = gTree f ((t.drop (takeN t).2).drop 32) (acc ++ [⟨(takeN t).1, d.toNat, idG (t.drop (takeN t).2)⟩]) := by rw [gTree]; rfl
theorem treeO_ok (n : Int) (hn : 0 ≤ n) (hn2 : n < 256) (l : List EntL) (h : ∀ e ∈ l, EntOk e) : ObjOk ⟨n, [], l, noId, [], 0, [], noId, 0, []⟩ :=
  ⟨noId_len, noId_len, h, (fun _ h => by cases h), by simp, by simp, by simp, by simp, by show _ ≤ n; omega, by show n ≤ _; omega, by simp, by simp⟩
set_option maxRecDepth 100000 in
set_option maxHeartbeats 4000000 in
theorem guess_tree (c : UInt8) (q : Txt) (hl : q.length ≤ 5000) (hk : c.toNat = 2) (hn0 : ¬ (takeN q).2 = 0) (w : World) : Calls Tryd.prog 50 #[.string (B (c :: q))] w fun e w' => GsR ⟨2, [], gTree 65 (takeN q).1 [], noId, [], 0, [], noId, 0, []⟩ w e w' := by
  have hgok := Lib.hid (gTree_ok 65 (takeN q).1 [] (by have := (takeN_le q).2; omega) (by simp))
  have HK := Lib.hid hk
  clear hk
  have hzv := zeroObj
  have hzl : zObj.size = 72 := zObj_size
  have htl : (takeN q).1.length ≤ q.length := (takeN_le q).2
  have htk : ∀ W, Calls Tryd.prog 73 #[.string (B q)] W fun e w' => e = .returned (.tuple #[.string (B (takeN q).1), .int .i64 (takeN q).2]) ∧ W = w' := fun W => (refTake_calls q (by omega) W).mono fun _ _ h => ⟨h.1, h.2.symm⟩
  generalize (takeN q).1 = t at *
  generalize (takeN q).2 = kn at *
  have hki : ((kn : Int) == 0) = false := by simp; omega
  have hex : (B (c :: q)).extract 1 (q.length + 1) = B q := by
    rw [extract_B]
    simp
  obtain ⟨W1, hW1⟩ : ∃ W1, w.alloc (.cells zObj 41) = W1 := ⟨_, rfl⟩
  have hx1 : Blk W1 w.heap.size 41 zObj := by rw [← hW1]; exact Blk.new _ _ _
  have b1 : Below w.heap.size w W1 := by rw [← hW1]; exact (Below.refl _ _).alloc (Nat.le_refl _) _
  have hs1 : w.heap.size < W1.heap.size := by rw [← hW1]; simp
  have htk := Lib.hid htk
  have hc0 : 0 ≤ (c.toNat : Int) := by omega
  have hc1 : (c.toNat : Int) < 256 := by have := c.toNat_lt; omega
  have hbd := built_kobj (c.toNat : Int)
  have e72 : (objC ⟨c.toNat, [], [], noId, [], 0, [], noId, 0, []⟩ (.slice none 0 0) (.slice none 0 0)).toArray.size = 72 := by rw [List.size_toArray]; unfold objC; simp only [List.length_cons, List.length_append, u8s_len, noId_len, List.length_nil]
  have eone : (objC ⟨c.toNat, [], [], noId, [], 0, [], noId, 0, []⟩ (.slice none 0 0) (.slice none 0 0)).toArray.all (·.oneCell') = true := by kernel_rfl
  obtain ⟨X, hX⟩ : ∃ X, Hid ((⟨2, [], gTree 65 t [], noId, [], 0, [], noId, 0, []⟩ : ObjL) = X) := ⟨_, Lib.hid rfl⟩
  rw [hX.out]
  go_enter Tryd.func50, Tryd.ntmps50
  go_upto_if 26 with (first
    | ((with_reducible refine lit_build1 hbd ?_ ?_); rfl)
    | ((with_reducible refine lit_new 41 (.tmp 3) (.tmp 18) (objC ⟨c.toNat, [], [], noId, [], 0, [], noId, 0, []⟩ (.slice none 0 0) (.slice none 0 0)).toArray 72 szObj e72 eone _ ?_ ?_ ?_ ?_)
       · first | exact hzl | rfl
       · rfl
       · rfl
       intro W2 hb2 hbl2
       have hO2 : ObjB W2 W1.heap.size ⟨c.toNat, [], [], noId, [], 0, [], noId, 0, []⟩ (.slice none 0 0) (.slice none 0 0) := ⟨hb2, noId_len, noId_len⟩
       have hI2 : GsI w W2 := ⟨hx1.below hbl2 hx1.lt, bthen b1 b1.size hbl2⟩
       have hgOB : W1.heap.size < W2.heap.size := hb2.lt
       have tk2 := htk.out W2
       have tk2 := Lib.hid tk2
       clear hx1 b1 hb2 hbl2)
    | ((with_reducible refine tk2.out.mono ?_); rintro e w3 ⟨rfl, rfl⟩
       clear tk2))
  have ck := hO2.kind
  simp only at ck
  have hsO := hs1
  clear hW1 hbd e72 eone hs1
  generalize W1.heap.size = gO at *
  obtain ⟨BB, hBB⟩ : ∃ BB, BB = W2.heap.size := ⟨_, rfl⟩
  rw [← hBB] at hgOB
  have hnE : OwnEnts W2 BB (.slice none 0 0) [] := World.ownsRow_nil _ _ _ _
  have hnP : OwnIds W2 BB (.slice none 0 0) [] := World.ownsRow_nil _ _ _ _
  have hBs : BB ≤ W2.heap.size := by omega
  have hwB : w.heap.size < BB := by omega
  clear hBB
  rw [HK.out] at hO2 ck
  clear hnP
  have hki2 : (c.toNat : Int) = 2 := by rw [HK.out]; rfl
  obtain ⟨Y, hY⟩ : ∃ Y, Hid (gTree 65 t [] = Y) := ⟨_, Lib.hid rfl⟩
  rw [hY.out] at hX hgok
  clear hc0 hc1
  go_wp2_with (fail)
  clear hki hki2 ck HK
  go_loopg [4, 6] 65 (fun f s4 s6 wr => ∃ (n : Nat) (t' : Txt) (acc : List EntL) (ve : Value), s6 = .int .i64 n ∧ s4 = .string (B t') ∧ n + f ≤ 65 ∧ 65 ≤ n + f ∧ acc.length ≤ n ∧ t'.length ≤ 5000 ∧ Hid (gTree f t' acc = Y) ∧ OwnEnts wr BB ve acc ∧ ObjB wr gO ⟨2, [], acc, noId, [], 0, [], noId, 0, []⟩ ve (.slice none 0 0) ∧ GsI w wr ∧ BB ≤ wr.heap.size)
  case atStart => exact ⟨0, t, [], .slice none 0 0, rfl, rfl, by omega, by omega, by simp, by omega, hY, hnE, hO2, hI2, hBs⟩
  case round =>
    obtain ⟨n, t', acc, ve, rfl, rfl, hn1, hn2, hacc, ht', hrel, hown, hOb, hI, hsz⟩ := hrel
    clear hnE hO2 hI2 hBs
    by_cases hend : gk = 0 ∨ t' = []
    · have hx : Hid (acc = Y) := by show _ = _; rw [← hrel.out]; exact (gTree_end hend).symm
      rw [hx.out] at hown hOb
      clear hrel hacc hx
      have hnP : OwnIds wr BB (.slice none 0 0) [] := World.ownsRow_nil _ _ _ _
      have hok : ObjOk (⟨2, [], Y, noId, [], 0, [], noId, 0, []⟩ : ObjL) := treeO_ok 2 (by omega) (by omega) Y hgok.out
      have hzF := hI.z
      have hfin := Lib.hid (GsR.of hok hI hown hnP hwB)
      have hq := run_ldvO hOb hok
      have hc72 : (objC (⟨2, [], Y, noId, [], 0, [], noId, 0, []⟩ : ObjL) ve (.slice none 0 0)).toArray.size = 72 := by rw [List.size_toArray, objC_len hok]
      have hcone := objC_all' (⟨2, [], Y, noId, [], 0, [], noId, 0, []⟩ : ObjL) hown hnP
      clear hI hown hOb hnP
      generalize hcs : (objC (⟨2, [], Y, noId, [], 0, [], noId, 0, []⟩ : ObjL) ve (.slice none 0 0)).toArray = cs at *
      have HC := Lib.hid hcs
      clear hcs
      have hcsz : (Tryd.prog.info? 41).map (·.size) = some cs.size := by rw [hc72]; exact szObj
      by_cases hlt : n < 65
      · obtain rfl : t' = [] := by
          rcases hend with h | h
          · omega
          · exact h
        have hlti : (n : Int) < 65 := by omega
        clear hend
        go_wp2_with (first
          | (refine wpList_store_row rfl 41 (.tmp 2) (.tmp 138) rfl w.heap.size cs rfl rfl _ _ hzF hcsz (by rw [hzl, hc72]) hcone ?_))
        exact bodyPost_ret (results_cell_row rfl _ _ w.heap.size _ _ _ _ rfl (setRow_heap _ _ _ _ _ _ hzF) Tryd.underlying41 rfl hcsz) rfl (by rw [← hX.out]; exact hfin.out)
      · have hlti : ¬ (n : Int) < 65 := by omega
        clear hend
        go_wp2_with (first
          | (refine wpList_store_row rfl 41 (.tmp 2) (.tmp 138) rfl w.heap.size cs rfl rfl _ _ hzF hcsz (by rw [hzl, hc72]) hcone ?_))
        exact bodyPost_ret (results_cell_row rfl _ _ w.heap.size _ _ _ _ rfl (setRow_heap _ _ _ _ _ _ hzF) Tryd.underlying41 rfl hcsz) rfl (by rw [← hX.out]; exact hfin.out)
    · cases gk with
      | zero => exact absurd (.inl rfl) hend
      | succ f =>
      match t', hend with
      | [], hend => exact absurd (.inr rfl) hend
      | d :: t1, _ =>
        clear hend
        have hlti : (n : Int) < 65 := by omega
        simp only [List.length_cons] at ht'
        rw [gTree_step] at hrel
        have hm := (takeN_le t1).1
        have hnm := (takeN_le t1).2
        have htk1 : ∀ W, Calls Tryd.prog 73 #[.string (B t1)] W fun e w' => e = .returned (.tuple #[.string (B (takeN t1).1), .int .i64 (takeN t1).2]) ∧ W = w' := fun W => (refTake_calls t1 (by omega) W).mono fun _ _ h => ⟨h.1, h.2.symm⟩
        have hbe1 : ∀ W, Calls Tryd.prog 74 #[.string (B (d :: t1)), .int .i64 (1 + ((takeN t1).2 : Int))] W fun e w' => e = .returned (.string (B (t1.drop (takeN t1).2))) ∧ ∃ nq, w' = W.drewN nq := fun W => by
          have := behind_calls (d :: t1) (1 + (takeN t1).2) (by simp only [List.length_cons]; omega) (by omega) W
          rw [Int.natCast_add, Nat.add_comm 1, List.drop_succ_cons] at this
          exact this
        have hbe2 : ∀ W, Calls Tryd.prog 74 #[.string (B (t1.drop (takeN t1).2)), .int .i64 32] W fun e w' => e = .returned (.string (B ((t1.drop (takeN t1).2).drop 32))) ∧ ∃ nq, w' = W.drewN nq := fun W => behind_calls (t1.drop (takeN t1).2) 32 (by rw [List.length_drop]; omega) (by omega) W
        have hrl : (t1.drop (takeN t1).2).length ≤ t1.length := by rw [List.length_drop]; omega
        have hidc := fun W => Lib.hid (gid_calls (t1.drop (takeN t1).2) (by omega) W)
        have hex1 : (B (d :: t1)).extract 1 (t1.length + 1) = B t1 := by
          rw [extract_B]
          simp
        have hdl : ((t1.drop (takeN t1).2).drop 32).length ≤ 5000 := by rw [List.length_drop]; omega
        generalize (t1.drop (takeN t1).2).drop 32 = RR at *
        generalize t1.drop (takeN t1).2 = RS at *
        generalize (takeN t1).1 = NM at *
        generalize (takeN t1).2 = m at *
        have htk1 := Lib.hid htk1
        have hbe1 := Lib.hid hbe1
        have hbe2 := Lib.hid hbe2
        have hd0 : 0 ≤ (d.toNat : Int) := by omega
        have hd1 : (d.toNat : Int) < 256 := by have := d.toNat_lt; omega
        have hm0 : (m : Int) ≤ 5000 := by omega
        clear hex tk2
        go_upto_region 14 with (first
          | ((with_reducible refine (htk1.out _).mono ?_); rintro e w3 ⟨rfl, rfl⟩)
          | ((with_reducible refine (hbe1.out _).mono ?_); rintro e w4 ⟨rfl, nq, rfl⟩))
        all_goals try (exfalso; omega)
        have hbd := built_entry NM (d.toNat : Int) (idG RS) (idG_len RS)
        have hxok : EntOk ⟨NM, d.toNat, idG RS⟩ := ⟨idG_len RS, by show NM.length ≤ _; omega, by show _ ≤ (d.toNat : Int); omega, by show (d.toNat : Int) ≤ _; omega⟩
        have hotr := hOb.tr
        have hota := hOb.ta
        have hF1 : F1 BB gO 41 (objC ⟨2, [], acc, noId, [], 0, [], noId, 0, []⟩ ve (.slice none 0 0)).toArray 76 34 ve acc.length (rowsOf entC acc) (GsI w) (fun _ => True) (wr.drewN nq).drew := ⟨(hOb.blk.drewN nq).drew, hown, ⟨(hI.z.drewN nq).drew, (bdrewN hI.bel nq).drew⟩, trivial, hsz⟩
        have hcO : (objC ⟨2, [], acc, noId, [], 0, [], noId, 0, []⟩ ve (.slice none 0 0)).toArray.size = 72 := by rw [List.size_toArray]; unfold objC; simp only [List.length_cons, List.length_append, u8s_len, noId_len, List.length_nil]
        have hve : (objC ⟨2, [], acc, noId, [], 0, [], noId, 0, []⟩ ve (.slice none 0 0)).toArray[2]? = some ve := rfl
        have hset : Hid (∀ v' : Value, (objC ⟨2, [], acc, noId, [], 0, [], noId, 0, []⟩ ve (.slice none 0 0)).toArray.setIfInBounds 2 v' = (objC ⟨2, [], acc ++ [⟨NM, d.toNat, idG RS⟩], noId, [], 0, [], noId, 0, []⟩ v' (.slice none 0 0)).toArray) := fun v' => by rw [List.setIfInBounds_toArray]; rfl
        have hrow : Hid (rowsOf entC acc ++ entC ⟨NM, d.toNat, idG RS⟩ = rowsOf entC (acc ++ [⟨NM, d.toNat, idG RS⟩])) := by show _ = _; rw [rowsOf_append, rowsOf_one]
        have hm1 : acc.length + 1 ≤ 9223372036854775807 := by omega
        have hm2 : (acc.length + 1) * 56 ≤ 140737488355328 := by omega
        have hIb := fun w1 w2 (h : GsI w w1) (hb : Below w1.heap.size w1 w2) => h.below hb
        have hIB := fun w1 w2 (h : GsI w w1) (hb : Below BB w1 w2) => h.low hwB hb
        have hIs := fun v w1 (h : GsI w w1) => h.set_ (o := 2) hsO v
        have hJb := fun (w1 w2 : World) (_ : True) (_ : Below w1.heap.size w1 w2) => trivial
        clear hOb hown hI htk1 hbe1
        generalize (objC ⟨2, [], acc, noId, [], 0, [], noId, 0, []⟩ ve (.slice none 0 0)).toArray = cO at *
        generalize hxx : (⟨NM, d.toNat, idG RS⟩ : EntL) = x at *
        clear hxx
        obtain ⟨n', hn'⟩ : ∃ n', Hid (acc.length = n') := ⟨_, Lib.hid rfl⟩
        rw [hn'.out] at hF1 hm1 hm2
        obtain ⟨xs, hxs⟩ : ∃ xs, Hid (rowsOf entC acc = xs) := ⟨_, Lib.hid rfl⟩
        rw [hxs.out] at hF1
        obtain ⟨II, hII⟩ : ∃ II, Hid (GsI w = II) := ⟨_, Lib.hid rfl⟩
        rw [hII.out] at hF1
        have hIb : ∀ w1 w2, II w1 → Below w1.heap.size w1 w2 → II w2 := hII.out ▸ hIb
        have hIB : ∀ w1 w2, II w1 → Below BB w1 w2 → II w2 := hII.out ▸ hIB
        have hIs : ∀ v w1, II w1 → II (w1.setCell ⟨gO, 2, none⟩ v) := hII.out ▸ hIs
        obtain ⟨V, hV⟩ : ∃ V : Nat → Value, V = fun i => [(.pointer (some ⟨gO, 2, none⟩)), ve, (.string (B (d :: t1))), (.int .u8 d.toNat), (.int .i64 d.toNat), (.string (B NM)), (.string (B RS)), (.agg (u8s (idG RS))), (.agg (entC x).toArray), undef, undef, (.pointer (some ⟨gO, 2, none⟩)), undef].getD i undef := ⟨_, rfl⟩
        have v0 : V 0 = (.pointer (some ⟨gO, 2, none⟩)) := by rw [hV]; rfl
        have v1 : V 1 = ve := by rw [hV]; rfl
        have v2 : V 2 = (.string (B (d :: t1))) := by rw [hV]; rfl
        have v3 : V 3 = (.int .u8 d.toNat) := by rw [hV]; rfl
        have v4 : V 4 = (.int .i64 d.toNat) := by rw [hV]; rfl
        have v5 : V 5 = (.string (B NM)) := by rw [hV]; rfl
        have v6 : V 6 = (.string (B RS)) := by rw [hV]; rfl
        have v7 : V 7 = (.agg (u8s (idG RS))) := by rw [hV]; rfl
        have v8 : V 8 = (.agg (entC x).toArray) := by rw [hV]; rfl
        have v11 : V 11 = (.pointer (some ⟨gO, 2, none⟩)) := by rw [hV]; rfl
        have v12 : V 12 = undef := by rw [hV]; rfl
        clear hV
        refine wp_region_listed (C := Stage 10 12 (F1 BB gO 41 cO 76 34 ve n' xs II (fun _ => True)) (F2 BB gO 41 cO II) (F3 BB gO 2 41 cO 76 34 n' xs (entC x) II)) (R := StR V 9 10 (LitR BB 76 ve (entC x)) (AppR BB 76 34 n' xs (entC x))) (by kernel_rfl) (by kernel_rfl) (by kernel_rfl) ?_ ?_ ?_ ?_
        · exact sizes_spec (n := 139) (by kernel_rfl)
        · exact Stage.start hF1
        · intro i o listed a w1 ho hi hL
          have hin := (ready_spec hi).1
          have hsz : listed.size = 13 := hL.size
          match i, ho with
          | 0, ho =>
            obtain rfl := (Option.some.inj ho).symm
            have e0 : a.tmps[3]?.getD undef = (.pointer (some ⟨gO, 0, none⟩)) := (slot_eval a 3).trans (hL.get_old hi (by kernel_rfl))
            have hc := Stage.same (i := 0) hL.cls (by decide) (by decide)
            refine step_wp rfl rfl ?_
            clear hi ho hL hin
            refine wp_val (v := (.pointer (some ⟨gO, 2, none⟩))) ?_ ⟨_, rfl, StR.mk (by decide) (by decide) v0.symm, hc, fun _ _ _ h => h⟩
            clear v0 v1 v2 v3 v4 v5 v6 v7 v8 v11 v12 hc
            unfold execOp
            go_simp
          | 1, ho =>
            obtain rfl := (Option.some.inj ho).symm
            have hla : listed.getD 10 false = false := hL.later (j := 10) hi (by kernel_rfl)
            have hls : listed.getD 12 false = false := hL.later2 hla (by kernel_rfl)
            have hc1 := Stage.one hL.cls hla hls
            have e0 : a.tmps[54]?.getD undef = (.pointer (some ⟨gO, 2, none⟩)) := (slot_eval a 54).trans (((hL.get_new (j := 0) hi (by kernel_rfl)).at_ (by decide) (by decide)).trans v0)
            have hc := Stage.same (i := 1) hL.cls (by decide) (by decide)
            refine step_wp rfl rfl ?_
            clear hi ho hL hin
            refine wp_val (v := ve) ?_ ⟨_, rfl, StR.mk (by decide) (by decide) v1.symm, hc, fun _ _ _ h => h⟩
            have f0 : w1.cell? ⟨gO, 2, none⟩ = some ve := by rw [hc1.blk.cell]; exact hve
            clear hc1
            clear v0 v1 v2 v3 v4 v5 v6 v7 v8 v11 v12 hc
            unfold execOp
            go_simp
          | 2, ho =>
            obtain rfl := (Option.some.inj ho).symm
            have e0 : a.tmps[4]?.getD undef = (.string (B (d :: t1))) := (slot_eval a 4).trans (hL.get_old hi (by kernel_rfl))
            have hc := Stage.same (i := 2) hL.cls (by decide) (by decide)
            refine step_wp rfl rfl ?_
            clear hi ho hL hin
            refine wp_val (v := (.string (B (d :: t1)))) ?_ ⟨_, rfl, StR.mk (by decide) (by decide) v2.symm, hc, fun _ _ _ h => h⟩
            clear v0 v1 v2 v3 v4 v5 v6 v7 v8 v11 v12 hc
            unfold execOp
            go_simp
          | 3, ho =>
            obtain rfl := (Option.some.inj ho).symm
            have e0 : a.tmps[56]?.getD undef = (.string (B (d :: t1))) := (slot_eval a 56).trans (((hL.get_new (j := 2) hi (by kernel_rfl)).at_ (by decide) (by decide)).trans v2)
            have hc := Stage.same (i := 3) hL.cls (by decide) (by decide)
            refine step_wp rfl rfl ?_
            clear hi ho hL hin
            refine wp_val (v := (.int .u8 d.toNat)) ?_ ⟨_, rfl, StR.mk (by decide) (by decide) v3.symm, hc, fun _ _ _ h => h⟩
            clear v0 v1 v2 v3 v4 v5 v6 v7 v8 v11 v12 hc
            unfold execOp
            go_simp
          | 4, ho =>
            obtain rfl := (Option.some.inj ho).symm
            have e0 : a.tmps[57]?.getD undef = (.int .u8 d.toNat) := (slot_eval a 57).trans (((hL.get_new (j := 3) hi (by kernel_rfl)).at_ (by decide) (by decide)).trans v3)
            have hc := Stage.same (i := 4) hL.cls (by decide) (by decide)
            refine step_wp rfl rfl ?_
            clear hi ho hL hin
            refine wp_val (v := (.int .i64 d.toNat)) ?_ ⟨_, rfl, StR.mk (by decide) (by decide) v4.symm, hc, fun _ _ _ h => h⟩
            clear v0 v1 v2 v3 v4 v5 v6 v7 v8 v11 v12 hc
            unfold execOp
            go_simp
            exact IntWalk.i64_in _ (by omega)
          | 5, ho =>
            obtain rfl := (Option.some.inj ho).symm
            have e0 : a.tmps[7]?.getD undef = (.string (B NM)) := (slot_eval a 7).trans (hL.get_old hi (by kernel_rfl))
            have hc := Stage.same (i := 5) hL.cls (by decide) (by decide)
            refine step_wp rfl rfl ?_
            clear hi ho hL hin
            refine wp_val (v := (.string (B NM))) ?_ ⟨_, rfl, StR.mk (by decide) (by decide) v5.symm, hc, fun _ _ _ h => h⟩
            clear v0 v1 v2 v3 v4 v5 v6 v7 v8 v11 v12 hc
            unfold execOp
            go_simp
          | 6, ho =>
            obtain rfl := (Option.some.inj ho).symm
            have e0 : a.tmps[9]?.getD undef = (.string (B RS)) := (slot_eval a 9).trans (hL.get_old hi (by kernel_rfl))
            have hc := Stage.same (i := 6) hL.cls (by decide) (by decide)
            refine step_wp rfl rfl ?_
            clear hi ho hL hin
            refine wp_val (v := (.string (B RS))) ?_ ⟨_, rfl, StR.mk (by decide) (by decide) v6.symm, hc, fun _ _ _ h => h⟩
            clear v0 v1 v2 v3 v4 v5 v6 v7 v8 v11 v12 hc
            unfold execOp
            go_simp
          | 7, ho =>
            obtain rfl := (Option.some.inj ho).symm
            have hla : listed.getD 10 false = false := hL.later2 (hL.later2 (hL.later (j := 8) hi (by kernel_rfl)) (by kernel_rfl : waitsB _ 9 8 = true)) (by kernel_rfl)
            have hls : listed.getD 12 false = false := hL.later2 hla (by kernel_rfl)
            have hc1 := Stage.one hL.cls hla hls
            have e0 : a.tmps[60]?.getD undef = (.string (B RS)) := (slot_eval a 60).trans (((hL.get_new (j := 6) hi (by kernel_rfl)).at_ (by decide) (by decide)).trans v6)
            refine step_wp rfl rfl ?_
            refine call_step rfl (vals := #[.string (B RS)]) (map1 (slot_is e0)) (by go_simp) (hidc w1).out ?_
            rintro e w2 ⟨rfl, hb2⟩
            exact ⟨_, rfl, _, rfl, StR.mk (by decide) (by decide) v7.symm, Stage.to1 (hc1.below hb2 (hIb _ _ hc1.inv hb2) trivial) hla hls (by decide) (by decide), fun j u _ h => StR.keep (fun _ h => h.below hb2) (fun _ h => h.below hb2) j u h⟩
          | 8, ho =>
            obtain rfl := (Option.some.inj ho).symm
            have hla : listed.getD 10 false = false := hL.later2 (hL.later (j := 9) hi (by kernel_rfl)) (by kernel_rfl)
            have hls : listed.getD 12 false = false := hL.later2 hla (by kernel_rfl)
            have hc1 := Stage.one hL.cls hla hls
            have e0 : a.tmps[58]?.getD undef = (.int .i64 d.toNat) := (slot_eval a 58).trans (((hL.get_new (j := 4) hi (by kernel_rfl)).at_ (by decide) (by decide)).trans v4)
            have e1 : a.tmps[59]?.getD undef = (.string (B NM)) := (slot_eval a 59).trans (((hL.get_new (j := 5) hi (by kernel_rfl)).at_ (by decide) (by decide)).trans v5)
            have e2 : a.tmps[61]?.getD undef = (.agg (u8s (idG RS))) := (slot_eval a 61).trans (((hL.get_new (j := 7) hi (by kernel_rfl)).at_ (by decide) (by decide)).trans v7)
            refine step_wp rfl rfl ?_
            refine build_step rfl hbd (parts3 (slot_is e0) (slot_is e1) (slot_is e2)) ⟨_, rfl, StR.mk (by decide) (by decide) v8.symm, Stage.to1 hc1 hla hls (by decide) (by decide), fun _ _ _ h => h⟩
          | 9, ho =>
            obtain rfl := (Option.some.inj ho).symm
            have hla : listed.getD 10 false = false := hL.later (j := 10) hi (by kernel_rfl)
            have hls : listed.getD 12 false = false := hL.later2 hla (by kernel_rfl)
            have hc1 := Stage.one hL.cls hla hls
            have e0 : a.tmps[62]?.getD undef = (.agg (entC x).toArray) := (slot_eval a 62).trans (((hL.get_new (j := 8) hi (by kernel_rfl)).at_ (by decide) (by decide)).trans v8)
            refine step_wp rfl rfl ?_
            have hbA : Below w1.heap.size w1 (w1.alloc (.cells (entC x).toArray 76)) := (Below.refl _ _).alloc (Nat.le_refl _) _
            refine slice_step rfl Tryd.entTy (by decide) (entC_len hxok) (.inl ( ((slot_eval a 62).symm.trans e0))) ⟨_, rfl, StR.mkLit ⟨w1.heap.size, rfl, Blk.new _ _ _, hc1.size, fun h => by have := (World.ownsRow.lt hc1.own _ h).2; omega⟩, Stage.to1 (hc1.below hbA (hIb _ _ hc1.inv hbA) (hJb _ _ hc1.pre hbA)) hla hls (by decide) (by decide), fun j u _ h => StR.keep (fun _ h => h.below hbA) (fun _ h => h.below hbA) j u h⟩
          | 10, ho =>
            obtain rfl := (Option.some.inj ho).symm
            have hla : listed.getD 10 false = false := (getD_of_size (by rw [hsz]; exact hin)).trans (ready_spec hi).2.1
            have hls : listed.getD 12 false = false := hL.later2 hla (by kernel_rfl)
            have hc1 := Stage.one hL.cls hla hls
            have hx := (hL.get_new (j := 9) (t := 63) hi (by kernel_rfl)).lit
            have hs : a.eval (.tmp 55) = ve := ((hL.get_new (j := 1) hi (by kernel_rfl)).at_ (by decide) (by decide)).trans v1
            refine step_wp rfl rfl ?_
            refine app_step rfl Tryd.entTy hc1 hgOB hx (entC_len hxok) (entC_one x) hm1 hm2 (fun w2 hb => hIB _ _ hc1.inv hb) hs rfl ?_
            intro v2 w2 hf2 ha2 hk2 hb2
            exact ⟨_, rfl, StR.mkApp ha2 (by decide), Stage.to2 hf2 hls (by rw [hsz]; decide) (by decide), fun j u hj h => StR.keepL hk2 (fun e => by rw [e, hla] at hj; cases hj) h⟩
          | 11, ho =>
            obtain rfl := (Option.some.inj ho).symm
            have e0 : a.tmps[3]?.getD undef = (.pointer (some ⟨gO, 0, none⟩)) := (slot_eval a 3).trans (hL.get_old hi (by kernel_rfl))
            have hc := Stage.same (i := 11) hL.cls (by decide) (by decide)
            refine step_wp rfl rfl ?_
            clear hi ho hL hin
            refine wp_val (v := (.pointer (some ⟨gO, 2, none⟩))) ?_ ⟨_, rfl, StR.mk (by decide) (by decide) v11.symm, hc, fun _ _ _ h => h⟩
            clear v0 v1 v2 v3 v4 v5 v6 v7 v8 v11 v12 hc
            unfold execOp
            go_simp
          | 12, ho =>
            obtain rfl := (Option.some.inj ho).symm
            have hla : listed.getD 10 false = true := hL.before hi (by kernel_rfl)
            have hls : listed.getD 12 false = false := (getD_of_size (by rw [hsz]; exact hin)).trans (ready_spec hi).2.1
            have hc2 := Stage.two hL.cls hla hls
            have e0 : a.tmps[65]?.getD undef = (.pointer (some ⟨gO, 2, none⟩)) := (slot_eval a 65).trans (((hL.get_new (j := 11) hi (by kernel_rfl)).at_ (by decide) (by decide)).trans v11)
            have hv := (hL.get_new (j := 10) (t := 64) hi (by kernel_rfl)).app (by decide)
            obtain ⟨vA, vK, hvv⟩ := own_form' hv
            rw [hvv] at hv
            have e1 : a.tmps[64]?.getD undef = _ := (slot_eval a 64).trans hvv
            have c0 : (w1.cell? ⟨gO, 2, none⟩).isSome = true := (hc2.blk.there (o := 2) (n := 1) (by rw [hcO]; decide) 0 (by decide)).1
            obtain ⟨c0v, c0⟩ := Option.isSome_iff_exists.1 c0
            have f0 := hc2.blk.frozen 2
            have hR := fun u => AppR.set_ (p := ⟨gO, 2, none⟩) (hv) hgOB u
            have h3 := Stage.to3 (ap := 10) (P1 := (F1 BB gO 41 cO 76 34 ve n' xs II (fun _ => True))) (P2 := (F2 BB gO 41 cO II)) (hc2.stored (off := 2) hv hgOB (hIs _ _ hc2.inv)) (listed := listed) (st := 12) (by rw [hsz]; decide)
            refine step_wp rfl rfl ?_
            clear hi ho hL hin hc2
            refine wp_skip (w' := w1.setCell ⟨gO, 2, none⟩ _) ?_ ⟨_, rfl, StR.mk (by decide) (by decide) v12.symm, h3, fun j u _ h => StR.keep (fun _ h => h.set_ hgOB _) (fun _ h => AppR.set_ h hgOB _) j u h⟩
            clear v0 v1 v2 v3 v4 v5 v6 v7 v8 v11 v12 h3
            unfold execOp
            go_simp
          | (n + 13), ho => exact absurd hin (by simp)
        · intro a w1 listed hL hall
          obtain ⟨v3, hb3, ho3, hi3, hsz3⟩ := Stage.three hL.cls (hall 12 (by decide))
          rw [← hII.out] at hi3
          rw [hset.out] at hb3
          have hob3 : ObjB w1 gO ⟨2, [], acc ++ [x], noId, [], 0, [], noId, 0, []⟩ v3 (.slice none 0 0) := ⟨hb3, hotr, hota⟩
          rw [← hxs.out, ← hn'.out, hrow.out] at ho3
          have hown3 : OwnEnts w1 BB v3 (acc ++ [x]) := by unfold OwnEnts; rw [List.length_append]; exact ho3
          have hl3 : (acc ++ [x]).length ≤ n + 1 := by rw [List.length_append]; simp only [List.length_cons, List.length_nil]; omega
          have hd4 := hL.frame (by kernel_rfl) (sizes_spec (n := 139) (by kernel_rfl)) hall
          obtain ⟨vs, rfl, hR⟩ := hd4
          clear hL hall hR hF1 hIb hIB hIs hJb hII hset hrow hxs hn' hm1 hm2 hb3 ho3 hve hcO hidc hbd
          simp only [putAll, Act.put, List.setIfInBounds_toArray, List.set_cons_zero, List.set_cons_succ]
          go_wp2_with (first
            | ((with_reducible refine (hbe2.out _).mono ?_); rintro e w5 ⟨rfl, nq2, rfl⟩))
          go_roundg f
          case rel => exact ⟨n + 1, RR, acc ++ [x], v3, by go_num, rfl, by omega, by omega, hl3, hdl, hrel, hown3, ⟨hob3.blk.drewN nq2, hob3.tr, hob3.ta⟩, ⟨hi3.z.drewN nq2, bdrewN hi3.bel nq2⟩, hsz3⟩
          case measure => exact Nat.lt_succ_self f
end Go.Proofs.YtnehabcopjgklaaDoor
/- The walk of layer 4's document: guess at a commit. Condition: a text that is not great. -/
namespace Go.Proofs.YtnehabcopjgklaaDoor
open Go.RowKit
attribute [local go_sem ↓] ldvO_eq
theorem commitO_ok (i : Txt) (hi : i.length = 32) (l : List Txt) (hl : ∀ p ∈ l, p.length = 32) (n : Nat) (hn : n < 4294967296) (t : Txt) (ht : t.length ≤ 5000) : ObjOk ⟨3, [], [], i, l, n, t, noId, 0, []⟩ :=
  ⟨hi, noId_len, (fun _ h => by cases h), hl, by simp, by show t.length ≤ _; omega, by simp, hn, by simp, by simp, by simp, by simp⟩
theorem gPars_le : ∀ (n : Nat) (t : Txt) (acc : List Txt), (gPars n t acc).2.length ≤ t.length
  | 0, t, acc => Nat.le_refl _
  | n + 1, t, acc => by
    rw [gPars]
    exact Nat.le_trans (gPars_le n _ _) (by rw [List.length_drop]; omega)
theorem own_drewN {w : World} {B m k : Nat} {e : TypeId} {v : Value} {zs : List Value} (h : w.ownsRow B e k v m zs) (n : Nat) : (w.drewN n).ownsRow B e k v m zs := h
theorem getPair_is (s : Txt) : getPair (get s) = .tuple #[.int .u64 (getN s).1, .int .i64 (getN s).2] := by
  unfold getN
  cases get s <;> rfl
set_option maxRecDepth 100000 in
set_option maxHeartbeats 4000000 in
theorem guess_commit (c : UInt8) (q : Txt) (hl : q.length ≤ 5000) (hk : c.toNat = 3) (hn0 : ¬ (takeN q).2 = 0) (w : World) : Calls Tryd.prog 50 #[.string (B (c :: q))] w fun e w' => GsR (gCommit (takeN q).1) w e w' := by
  have HK := Lib.hid hk
  clear hk
  have hzv := zeroObj
  have hzl : zObj.size = 72 := zObj_size
  have htl : (takeN q).1.length ≤ q.length := (takeN_le q).2
  have htk : ∀ W, Calls Tryd.prog 73 #[.string (B q)] W fun e w' => e = .returned (.tuple #[.string (B (takeN q).1), .int .i64 (takeN q).2]) ∧ W = w' := fun W => (refTake_calls q (by omega) W).mono fun _ _ h => ⟨h.1, h.2.symm⟩
  generalize (takeN q).1 = t at *
  generalize (takeN q).2 = kn at *
  have hki : ((kn : Int) == 0) = false := by simp; omega
  have hex : (B (c :: q)).extract 1 (q.length + 1) = B q := by
    rw [extract_B]
    simp
  obtain ⟨W1, hW1⟩ : ∃ W1, w.alloc (.cells zObj 41) = W1 := ⟨_, rfl⟩
  have hx1 : Blk W1 w.heap.size 41 zObj := by rw [← hW1]; exact Blk.new _ _ _
  have b1 : Below w.heap.size w W1 := by rw [← hW1]; exact (Below.refl _ _).alloc (Nat.le_refl _) _
  have hs1 : w.heap.size < W1.heap.size := by rw [← hW1]; simp
  have htk := Lib.hid htk
  have hc0 : 0 ≤ (c.toNat : Int) := by omega
  have hc1 : (c.toNat : Int) < 256 := by have := c.toNat_lt; omega
  have hbd := built_kobj (c.toNat : Int)
  have e72 : (objC ⟨c.toNat, [], [], noId, [], 0, [], noId, 0, []⟩ (.slice none 0 0) (.slice none 0 0)).toArray.size = 72 := by rw [List.size_toArray]; unfold objC; simp only [List.length_cons, List.length_append, u8s_len, noId_len, List.length_nil]
  have eone : (objC ⟨c.toNat, [], [], noId, [], 0, [], noId, 0, []⟩ (.slice none 0 0) (.slice none 0 0)).toArray.all (·.oneCell') = true := by kernel_rfl
  obtain ⟨X, hX⟩ : ∃ X, Hid (gCommit t = X) := ⟨_, Lib.hid rfl⟩
  rw [hX.out]
  go_enter Tryd.func50, Tryd.ntmps50
  go_upto_if 26 with (first
    | ((with_reducible refine lit_build1 hbd ?_ ?_); rfl)
    | ((with_reducible refine lit_new 41 (.tmp 3) (.tmp 18) (objC ⟨c.toNat, [], [], noId, [], 0, [], noId, 0, []⟩ (.slice none 0 0) (.slice none 0 0)).toArray 72 szObj e72 eone _ ?_ ?_ ?_ ?_)
       · first | exact hzl | rfl
       · rfl
       · rfl
       intro W2 hb2 hbl2
       have hO2 : ObjB W2 W1.heap.size ⟨c.toNat, [], [], noId, [], 0, [], noId, 0, []⟩ (.slice none 0 0) (.slice none 0 0) := ⟨hb2, noId_len, noId_len⟩
       have hI2 : GsI w W2 := ⟨hx1.below hbl2 hx1.lt, bthen b1 b1.size hbl2⟩
       have hgOB : W1.heap.size < W2.heap.size := hb2.lt
       have tk2 := htk.out W2
       have tk2 := Lib.hid tk2
       clear hx1 b1 hb2 hbl2)
    | ((with_reducible refine tk2.out.mono ?_); rintro e w3 ⟨rfl, rfl⟩
       clear tk2))
  have ck := hO2.kind
  simp only at ck
  have hsO := hs1
  clear hW1 hbd e72 eone hs1
  generalize W1.heap.size = gO at *
  obtain ⟨BB, hBB⟩ : ∃ BB, BB = W2.heap.size := ⟨_, rfl⟩
  rw [← hBB] at hgOB
  have hnE : OwnEnts W2 BB (.slice none 0 0) [] := World.ownsRow_nil _ _ _ _
  have hnP : OwnIds W2 BB (.slice none 0 0) [] := World.ownsRow_nil _ _ _ _
  have hBs : BB ≤ W2.heap.size := by omega
  have hwB : w.heap.size < BB := by omega
  clear hBB
  rw [HK.out] at hO2 ck
  have hki2 : (c.toNat : Int) = 3 := by rw [HK.out]; rfl
  clear hc0 hc1
  have hA : Hid ((⟨3, [], [], idG t, (gPars (min (getN (t.drop 32)).1 9) ((t.drop 32).drop (getN (t.drop 32)).2) []).1, (getN (gPars (min (getN (t.drop 32)).1 9) ((t.drop 32).drop (getN (t.drop 32)).2) []).2).1 % 4294967296, (takeN ((gPars (min (getN (t.drop 32)).1 9) ((t.drop 32).drop (getN (t.drop 32)).2) []).2.drop (getN (gPars (min (getN (t.drop 32)).1 9) ((t.drop 32).drop (getN (t.drop 32)).2) []).2).2)).1, noId, 0, []⟩ : ObjL) = X) := hX.out
  clear hX hnP hnE
  have hi32 := idG_len t
  have hgi := fun W => Lib.hid (gid_calls t (by omega) W)
  have hb1 : ∀ W, Calls Tryd.prog 74 #[.string (B t), .int .i64 32] W fun e w' => e = .returned (.string (B (t.drop 32))) ∧ ∃ nq, w' = W.drewN nq := fun W => behind_calls t 32 (by omega) (by omega) W
  have hal : (t.drop 32).length ≤ t.length := by rw [List.length_drop]; omega
  have hbl : ((t.drop 32).drop (getN (t.drop 32)).2).length ≤ t.length := by rw [List.length_drop]; omega
  have hgl := getN_le (t.drop 32)
  have hgn := getN_num (t.drop 32)
  have hg1 : ∀ W, Calls Tryd.prog 76 #[.string (B (t.drop 32))] W fun e w' => e = .returned (.tuple #[.int .u64 (getN (t.drop 32)).1, .int .i64 (getN (t.drop 32)).2]) ∧ W = w' := fun W => (refGet_calls (t.drop 32) (by omega) W).mono fun _ _ h => ⟨by rw [← getPair_is]; exact h.1, h.2.symm⟩
  have hb2 : ∀ W, Calls Tryd.prog 74 #[.string (B (t.drop 32)), .int .i64 (getN (t.drop 32)).2] W fun e w' => e = .returned (.string (B ((t.drop 32).drop (getN (t.drop 32)).2))) ∧ ∃ nq, w' = W.drewN nq := fun W => behind_calls (t.drop 32) _ (by omega) (by omega) W
  have hPl := gPars_le (min (getN (t.drop 32)).1 9) ((t.drop 32).drop (getN (t.drop 32)).2) []
  have hPs := Lib.hid (gPars_sound (min (getN (t.drop 32)).1 9) ((t.drop 32).drop (getN (t.drop 32)).2) [] (by simp))
  obtain ⟨P, hP⟩ : ∃ P, Hid (gPars (min (getN (t.drop 32)).1 9) ((t.drop 32).drop (getN (t.drop 32)).2) [] = P) := ⟨_, Lib.hid rfl⟩
  rw [hP.out] at hA hPl hPs
  have hg2l := getN_le P.2
  have hg2n := getN_num P.2
  have hg2 : ∀ W, Calls Tryd.prog 76 #[.string (B P.2)] W fun e w' => e = .returned (.tuple #[.int .u64 (getN P.2).1, .int .i64 (getN P.2).2]) ∧ W = w' := fun W => (refGet_calls P.2 (by omega) W).mono fun _ _ h => ⟨by rw [← getPair_is]; exact h.1, h.2.symm⟩
  have hb3 : ∀ W, Calls Tryd.prog 74 #[.string (B P.2), .int .i64 (getN P.2).2] W fun e w' => e = .returned (.string (B (P.2.drop (getN P.2).2))) ∧ ∃ nq, w' = W.drewN nq := fun W => behind_calls P.2 _ (by omega) (by omega) W
  have hdl : (P.2.drop (getN P.2).2).length ≤ P.2.length := by rw [List.length_drop]; omega
  have htk3 : ∀ W, Calls Tryd.prog 73 #[.string (B (P.2.drop (getN P.2).2))] W fun e w' => e = .returned (.tuple #[.string (B (takeN (P.2.drop (getN P.2).2)).1), .int .i64 (takeN (P.2.drop (getN P.2).2)).2]) ∧ W = w' := fun W => (refTake_calls (P.2.drop (getN P.2).2) (by omega) W).mono fun _ _ h => ⟨h.1, h.2.symm⟩
  have hnl := (takeN_le (P.2.drop (getN P.2).2)).2
  have hb1 := Lib.hid hb1
  have hb2 := Lib.hid hb2
  have hb3 := Lib.hid hb3
  have hg1 := Lib.hid hg1
  have hg2 := Lib.hid hg2
  have htk3 := Lib.hid htk3
  generalize takeN (P.2.drop (getN P.2).2) = TX at *
  generalize P.2.drop (getN P.2).2 = R5 at *
  generalize getN P.2 = G2 at *
  generalize idG t = ID at *
  generalize (t.drop 32).drop (getN (t.drop 32)).2 = R2 at *
  generalize getN (t.drop 32) = G1 at *
  generalize t.drop 32 = R1 at *
  go_upto_region 21 with (first
    | ((with_reducible refine (hgi _).out.mono ?_); rintro e w3 ⟨rfl, hbl3⟩
       have hO3 := hO2.below hbl3
       have hI3 := hI2.below hbl3
       have hs3 := Nat.le_trans hBs hbl3.size
       have ht3 := hO3.there 3 32 (by omega)
       clear hO2 hI2 hBs)
    | ((with_reducible refine lit_store_id (.tmp 72) (.tmp 71) gO 3 ID hi32 ht3 ?_ ?_ ?_); rfl; rfl
       have hO4 := hO3.setTree ID hi32
       have hI4 := hI3.cells_ (o := 3) hsO (u8s ID).toList
       have hs4 : BB ≤ (w3.setCells gO 3 (u8s ID).toList).heap.size := by rw [size_setCells]; exact hs3
       clear hO3 hI3 ht3 hs3)
    | ((with_reducible refine (hb1.out _).mono ?_); rintro e w5 ⟨rfl, nq, rfl⟩
       have hO5 := hO4.drewN nq
       have hI5 := hI4.drewN nq
       have hs5 : BB ≤ ((w3.setCells gO 3 (u8s ID).toList).drewN nq).heap.size := hs4
       clear hO4 hI4 hs4)
    | ((with_reducible refine (hg1.out _).mono ?_); rintro e w6 ⟨rfl, rfl⟩)
    | ((with_reducible refine (hb2.out _).mono ?_); rintro e w7 ⟨rfl, nq2, rfl⟩
       have hO7 := hO5.drewN nq2
       have hI7 := hI5.drewN nq2
       have hs7 : BB ≤ (((w3.setCells gO 3 (u8s ID).toList).drewN nq).drewN nq2).heap.size := hs5
       clear hO5 hI5 hs5))
  clear hgi hb1 hg1 hb2 hex tk2
  rw [World.drewN_drewN] at hO7 hI7 hs7
  generalize (w3.setCells gO 3 (u8s ID).toList).drewN (nq + nq2) = W7 at *
  have hnP : OwnIds W7 BB (.slice none 0 0) [] := World.ownsRow_nil _ _ _ _
  have hOX : ObjB W7 gO ⟨3, [], [], ID, [], 0, [], noId, 0, []⟩ (.slice none 0 0) (.slice none 0 0) := hO7
  have h9 : min G1.1 9 ≤ 0 + min G1.1 9 := by omega
  have h9' : 0 + min G1.1 9 ≤ min G1.1 9 := by omega
  have hRl : R2.length ≤ 5000 := by omega
  clear hO7
  go_wp2_with (fail)
  go_loopg [4, 12] (min G1.1 9) (fun f s4 s12 wr => ∃ (j : Nat) (t1 : Txt) (acc : List Txt) (vp : Value), s12 = .int .u64 j ∧ s4 = .string (B t1) ∧ min G1.1 9 ≤ j + f ∧ j + f ≤ min G1.1 9 ∧ acc.length ≤ j ∧ t1.length ≤ 5000 ∧ Hid (gPars f t1 acc = P) ∧ OwnIds wr BB vp acc ∧ ObjB wr gO ⟨3, [], [], ID, acc, 0, [], noId, 0, []⟩ (.slice none 0 0) vp ∧ GsI w wr ∧ BB ≤ wr.heap.size)
  case atStart => exact ⟨0, R2, [], .slice none 0 0, rfl, rfl, h9, h9', by simp, hRl, hP, hnP, hOX, hI7, hs7⟩
  case round =>
    obtain ⟨j, t1, acc, vp, rfl, rfl, hj1, hj2, hacc, ht1, hrel, hown, hOb, hI, hsz⟩ := hrel
    clear hP hnP hOX hI7 hs7 hRl h9 h9'
    cases gk with
    | zero =>
      have hx : Hid ((acc, t1) = P) := hrel.out
      have e1 : Hid (acc = P.1) := by show _ = _; rw [← hx.out]
      have e2 : Hid (t1 = P.2) := by show _ = _; rw [← hx.out]
      rw [e1.out] at hown hOb
      rw [e2.out]
      clear hrel hx e1 hacc e2 ht1
      have f36 := hOb.fr 36
      have c36 := hOb.time
      have hOt := hOb.setTime (G2.1 % 4294967296)
      have hIt := hI.set_ (o := 36) hsO (.int .u32 (G2.1 % 4294967296 : Nat))
      have hwt := own_set (p := ⟨gO, 36, none⟩) hown hgOB (.int .u32 (G2.1 % 4294967296 : Nat))
      have hcast : ((G2.1 % 4294967296 : Nat) : Int) = (G2.1 : Int) % 4294967296 := by omega
      have e36 : Value.int .u32 ((G2.1 % 4294967296 : Nat) : Int) = .int .u32 ((G2.1 : Int) % 4294967296) := by rw [hcast]
      rw [e36] at hOt hIt hwt
      have hem0 : 0 ≤ (G2.1 : Int) % 4294967296 := by omega
      have hem1 : (G2.1 : Int) % 4294967296 < 4294967296 := by omega
      have hok : ObjOk ⟨3, [], [], ID, P.1, G2.1 % 4294967296, TX.1, noId, 0, []⟩ := commitO_ok ID hi32 P.1 hPs.out _ (by omega) TX.1 (by omega)
      clear hcast e36 hOb hI
      by_cases hjn : j < G1.1
      · have i1 : (j : Int) < (G1.1 : Int) := by omega
        have i2 : ¬ (j : Int) < 9 := by omega
        go_upto_region 35 with (first
          | ((with_reducible refine (hg2.out _).mono ?_); rintro e w8 ⟨rfl, rfl⟩)
          | ((with_reducible refine (hb3.out _).mono ?_); rintro e w9 ⟨rfl, nq3, rfl⟩
             have hO9 := hOt.drewN nq3
             have hI9 := hIt.drewN nq3
             have f37 := hO9.fr 37
             have c37 := hO9.text
             clear hOt hIt f36 c36)
          | ((with_reducible refine (htk3.out _).mono ?_); rintro e w10 ⟨rfl, rfl⟩
             have hO10 := hO9.setText TX.1
             have hI10 := hI9.set_ (o := 37) hsO (.string (B TX.1))
             have hw10 := own_set (p := ⟨gO, 37, none⟩) (own_drewN hwt nq3) hgOB (.string (B TX.1))
             clear hO9 hI9 hwt))
        all_goals try (exfalso; omega)
        have hzF := hI10.z
        have hE10 : ∀ W, OwnEnts W BB (.slice none 0 0) [] := fun W => World.ownsRow_nil _ _ _ _
        have hfin := Lib.hid (GsR.of hok hI10 (hE10 _) hw10 hwB)
        have hq := run_ldvO hO10 hok
        have hc72 : (objC (⟨3, [], [], ID, P.1, G2.1 % 4294967296, TX.1, noId, 0, []⟩ : ObjL) (.slice none 0 0) vp).toArray.size = 72 := by rw [List.size_toArray, objC_len hok]
        have hcone := objC_all' (⟨3, [], [], ID, P.1, G2.1 % 4294967296, TX.1, noId, 0, []⟩ : ObjL) (hE10 _) hw10
        clear hI10 hO10 hE10 hw10 f37 c37
        have hX : Hid ((⟨3, [], [], ID, P.1, G2.1 % 4294967296, TX.1, noId, 0, []⟩ : ObjL) = X) := hA
        generalize hcs : (objC (⟨3, [], [], ID, P.1, G2.1 % 4294967296, TX.1, noId, 0, []⟩ : ObjL) (.slice none 0 0) vp).toArray = cs at *
        have HC := Lib.hid hcs
        clear hcs
        have hcsz : (Tryd.prog.info? 41).map (·.size) = some cs.size := by rw [hc72]; exact szObj
        go_wp2_with (first
          | (refine wpList_store_row rfl 41 (.tmp 2) (.tmp 138) rfl w.heap.size cs rfl rfl _ _ hzF hcsz (by rw [hzl, hc72]) hcone ?_))
        exact bodyPost_ret (results_cell_row rfl _ _ w.heap.size _ _ _ _ rfl (setRow_heap _ _ _ _ _ _ hzF) Tryd.underlying41 rfl hcsz) rfl (by rw [← hX.out]; exact hfin.out)
      · have i1 : ¬ (j : Int) < (G1.1 : Int) := by omega
        go_upto_region 35 with (first
          | ((with_reducible refine (hg2.out _).mono ?_); rintro e w8 ⟨rfl, rfl⟩)
          | ((with_reducible refine (hb3.out _).mono ?_); rintro e w9 ⟨rfl, nq3, rfl⟩
             have hO9 := hOt.drewN nq3
             have hI9 := hIt.drewN nq3
             have f37 := hO9.fr 37
             have c37 := hO9.text
             clear hOt hIt f36 c36)
          | ((with_reducible refine (htk3.out _).mono ?_); rintro e w10 ⟨rfl, rfl⟩
             have hO10 := hO9.setText TX.1
             have hI10 := hI9.set_ (o := 37) hsO (.string (B TX.1))
             have hw10 := own_set (p := ⟨gO, 37, none⟩) (own_drewN hwt nq3) hgOB (.string (B TX.1))
             clear hO9 hI9 hwt))
        all_goals try (exfalso; omega)
        have hzF := hI10.z
        have hE10 : ∀ W, OwnEnts W BB (.slice none 0 0) [] := fun W => World.ownsRow_nil _ _ _ _
        have hfin := Lib.hid (GsR.of hok hI10 (hE10 _) hw10 hwB)
        have hq := run_ldvO hO10 hok
        have hc72 : (objC (⟨3, [], [], ID, P.1, G2.1 % 4294967296, TX.1, noId, 0, []⟩ : ObjL) (.slice none 0 0) vp).toArray.size = 72 := by rw [List.size_toArray, objC_len hok]
        have hcone := objC_all' (⟨3, [], [], ID, P.1, G2.1 % 4294967296, TX.1, noId, 0, []⟩ : ObjL) (hE10 _) hw10
        clear hI10 hO10 hE10 hw10 f37 c37
        have hX : Hid ((⟨3, [], [], ID, P.1, G2.1 % 4294967296, TX.1, noId, 0, []⟩ : ObjL) = X) := hA
        generalize hcs : (objC (⟨3, [], [], ID, P.1, G2.1 % 4294967296, TX.1, noId, 0, []⟩ : ObjL) (.slice none 0 0) vp).toArray = cs at *
        have HC := Lib.hid hcs
        clear hcs
        have hcsz : (Tryd.prog.info? 41).map (·.size) = some cs.size := by rw [hc72]; exact szObj
        go_wp2_with (first
          | (refine wpList_store_row rfl 41 (.tmp 2) (.tmp 138) rfl w.heap.size cs rfl rfl _ _ hzF hcsz (by rw [hzl, hc72]) hcone ?_))
        exact bodyPost_ret (results_cell_row rfl _ _ w.heap.size _ _ _ _ rfl (setRow_heap _ _ _ _ _ _ hzF) Tryd.underlying41 rfl hcsz) rfl (by rw [← hX.out]; exact hfin.out)
    | succ f =>
      have i1 : (j : Int) < (G1.1 : Int) := by omega
      have i2 : (j : Int) < 9 := by omega
      have hrel : Hid (gPars f (t1.drop 32) (acc ++ [idG t1]) = P) := hrel.out
      have hbe2 : ∀ W, Calls Tryd.prog 74 #[.string (B t1), .int .i64 32] W fun e w' => e = .returned (.string (B (t1.drop 32))) ∧ ∃ nq, w' = W.drewN nq := fun W => behind_calls t1 32 (by omega) (by omega) W
      have hidc := fun W => Lib.hid (gid_calls t1 (by omega) W)
      have hdl1 : (t1.drop 32).length ≤ 5000 := by rw [List.length_drop]; omega
      generalize t1.drop 32 = RR at *
      have hbe2 := Lib.hid hbe2
      clear hg2 hb3 htk3
      go_upto_region 24 with (fail)
      all_goals try (exfalso; omega)
      have hota := hOb.ta
      have hF1 : F1 BB gO 41 (objC ⟨3, [], [], ID, acc, 0, [], noId, 0, []⟩ (.slice none 0 0) vp).toArray 24 32 vp acc.length (rowsOf idC acc) (GsI w) (fun _ => True) wr.drew := ⟨hOb.blk.drew, hown, ⟨hI.z.drew, hI.bel.drew⟩, trivial, hsz⟩
      have hcO : (objC ⟨3, [], [], ID, acc, 0, [], noId, 0, []⟩ (.slice none 0 0) vp).toArray.size = 72 := by rw [List.size_toArray]; unfold objC; simp only [List.length_cons, List.length_append, u8s_len, noId_len, hi32, List.length_nil]
      have hve : (objC ⟨3, [], [], ID, acc, 0, [], noId, 0, []⟩ (.slice none 0 0) vp).toArray[35]? = some vp := by rw [List.getElem?_toArray]; exact obj_pars (o := ⟨3, [], [], ID, acc, 0, [], noId, 0, []⟩) hi32
      have hset : Hid (∀ v' : Value, (objC ⟨3, [], [], ID, acc, 0, [], noId, 0, []⟩ (.slice none 0 0) vp).toArray.setIfInBounds 35 v' = (objC ⟨3, [], [], ID, acc ++ [idG t1], 0, [], noId, 0, []⟩ (.slice none 0 0) v').toArray) := fun v' => by
        rw [List.setIfInBounds_toArray]
        congr 1
        show _ :: _ :: _ :: ((u8s ID).toList ++ _).set 32 _ = _
        rw [set_app (by rw [u8s_len]; exact hi32) (Nat.le_refl _)]; rfl
      have hrow : Hid (rowsOf idC acc ++ idC (idG t1) = rowsOf idC (acc ++ [idG t1])) := by show _ = _; rw [rowsOf_append, rowsOf_one]
      have hm1 : acc.length + 1 ≤ 9223372036854775807 := by omega
      have hm2 : (acc.length + 1) * 32 ≤ 140737488355328 := by omega
      have hIb := fun w1 w2 (h : GsI w w1) (hb : Below w1.heap.size w1 w2) => h.below hb
      have hIB := fun w1 w2 (h : GsI w w1) (hb : Below BB w1 w2) => h.low hwB hb
      have hIs := fun v w1 (h : GsI w w1) => h.set_ (o := 35) hsO v
      have hJb := fun (w1 w2 : World) (_ : True) (_ : Below w1.heap.size w1 w2) => trivial
      clear hOb hown hI
      generalize (objC ⟨3, [], [], ID, acc, 0, [], noId, 0, []⟩ (.slice none 0 0) vp).toArray = cO at *
      obtain ⟨n', hn'⟩ : ∃ n', Hid (acc.length = n') := ⟨_, Lib.hid rfl⟩
      rw [hn'.out] at hF1 hm1 hm2
      obtain ⟨xs, hxs⟩ : ∃ xs, Hid (rowsOf idC acc = xs) := ⟨_, Lib.hid rfl⟩
      rw [hxs.out] at hF1
      obtain ⟨II, hII⟩ : ∃ II, Hid (GsI w = II) := ⟨_, Lib.hid rfl⟩
      rw [hII.out] at hF1
      have hIb : ∀ w1 w2, II w1 → Below w1.heap.size w1 w2 → II w2 := hII.out ▸ hIb
      have hIB : ∀ w1 w2, II w1 → Below BB w1 w2 → II w2 := hII.out ▸ hIB
      have hIs : ∀ v w1, II w1 → II (w1.setCell ⟨gO, 35, none⟩ v) := hII.out ▸ hIs
      obtain ⟨V, hV⟩ : ∃ V : Nat → Value, V = fun i => [(.pointer (some ⟨gO, 35, none⟩)), vp, (.string (B t1)), (.agg (u8s (idG t1))), undef, undef, (.pointer (some ⟨gO, 35, none⟩)), undef].getD i undef := ⟨_, rfl⟩
      have v0 : V 0 = (.pointer (some ⟨gO, 35, none⟩)) := by rw [hV]; rfl
      have v1 : V 1 = vp := by rw [hV]; rfl
      have v2 : V 2 = (.string (B t1)) := by rw [hV]; rfl
      have v3 : V 3 = (.agg (u8s (idG t1))) := by rw [hV]; rfl
      have v6 : V 6 = (.pointer (some ⟨gO, 35, none⟩)) := by rw [hV]; rfl
      have v7 : V 7 = undef := by rw [hV]; rfl
      clear hV
      refine wp_region_listed (C := Stage 5 7 (F1 BB gO 41 cO 24 32 vp n' xs II (fun _ => True)) (F2 BB gO 41 cO II) (F3 BB gO 35 41 cO 24 32 n' xs (idC (idG t1)) II)) (R := StR V 4 5 (LitR BB 24 vp (idC (idG t1))) (AppR BB 24 32 n' xs (idC (idG t1)))) (by kernel_rfl) (by kernel_rfl) (by kernel_rfl) ?_ ?_ ?_ ?_
      · exact sizes_spec (n := 139) (by kernel_rfl)
      · exact Stage.start hF1
      · intro i o listed a w1 ho hi hL
        have hin := (ready_spec hi).1
        have hsz : listed.size = 8 := hL.size
        match i, ho with
        | 0, ho =>
          obtain rfl := (Option.some.inj ho).symm
          have e0 : a.tmps[3]?.getD undef = (.pointer (some ⟨gO, 0, none⟩)) := (slot_eval a 3).trans (hL.get_old hi (by kernel_rfl))
          have hc := Stage.same (i := 0) hL.cls (by decide) (by decide)
          refine step_wp rfl rfl ?_
          clear hi ho hL hin
          refine wp_val (v := (.pointer (some ⟨gO, 35, none⟩))) ?_ ⟨_, rfl, StR.mk (by decide) (by decide) v0.symm, hc, fun _ _ _ h => h⟩
          clear v0 v1 v2 v3 v6 v7 hc
          unfold execOp
          go_simp
        | 1, ho =>
          obtain rfl := (Option.some.inj ho).symm
          have hla : listed.getD 5 false = false := hL.later (j := 5) hi (by kernel_rfl)
          have hls : listed.getD 7 false = false := hL.later2 hla (by kernel_rfl)
          have hc1 := Stage.one hL.cls hla hls
          have e0 : a.tmps[92]?.getD undef = (.pointer (some ⟨gO, 35, none⟩)) := (slot_eval a 92).trans (((hL.get_new (j := 0) hi (by kernel_rfl)).at_ (by decide) (by decide)).trans v0)
          have hc := Stage.same (i := 1) hL.cls (by decide) (by decide)
          refine step_wp rfl rfl ?_
          clear hi ho hL hin
          refine wp_val (v := vp) ?_ ⟨_, rfl, StR.mk (by decide) (by decide) v1.symm, hc, fun _ _ _ h => h⟩
          have f0 : w1.cell? ⟨gO, 35, none⟩ = some vp := by rw [hc1.blk.cell]; exact hve
          clear hc1
          clear v0 v1 v2 v3 v6 v7 hc
          unfold execOp
          go_simp
        | 2, ho =>
          obtain rfl := (Option.some.inj ho).symm
          have e0 : a.tmps[4]?.getD undef = (.string (B t1)) := (slot_eval a 4).trans (hL.get_old hi (by kernel_rfl))
          have hc := Stage.same (i := 2) hL.cls (by decide) (by decide)
          refine step_wp rfl rfl ?_
          clear hi ho hL hin
          refine wp_val (v := (.string (B t1))) ?_ ⟨_, rfl, StR.mk (by decide) (by decide) v2.symm, hc, fun _ _ _ h => h⟩
          clear v0 v1 v2 v3 v6 v7 hc
          unfold execOp
          go_simp
        | 3, ho =>
          obtain rfl := (Option.some.inj ho).symm
          have hla : listed.getD 5 false = false := hL.later2 (hL.later (j := 4) hi (by kernel_rfl)) (by kernel_rfl)
          have hls : listed.getD 7 false = false := hL.later2 hla (by kernel_rfl)
          have hc1 := Stage.one hL.cls hla hls
          have e0 : a.tmps[94]?.getD undef = (.string (B t1)) := (slot_eval a 94).trans (((hL.get_new (j := 2) hi (by kernel_rfl)).at_ (by decide) (by decide)).trans v2)
          refine step_wp rfl rfl ?_
          refine call_step rfl (vals := #[.string (B t1)]) (map1 (slot_is e0)) (by go_simp) (hidc w1).out ?_
          rintro e w2 ⟨rfl, hb2⟩
          exact ⟨_, rfl, _, rfl, StR.mk (by decide) (by decide) v3.symm, Stage.to1 (hc1.below hb2 (hIb _ _ hc1.inv hb2) trivial) hla hls (by decide) (by decide), fun j u _ h => StR.keep (fun _ h => h.below hb2) (fun _ h => h.below hb2) j u h⟩
        | 4, ho =>
          obtain rfl := (Option.some.inj ho).symm
          have hla : listed.getD 5 false = false := hL.later (j := 5) hi (by kernel_rfl)
          have hls : listed.getD 7 false = false := hL.later2 hla (by kernel_rfl)
          have hc1 := Stage.one hL.cls hla hls
          have e0 : a.tmps[95]?.getD undef = (.agg (u8s (idG t1))) := (slot_eval a 95).trans (((hL.get_new (j := 3) hi (by kernel_rfl)).at_ (by decide) (by decide)).trans v3)
          refine step_wp rfl rfl ?_
          have hbA : Below w1.heap.size w1 (w1.alloc (.cells (idC (idG t1)).toArray 24)) := (Below.refl _ _).alloc (Nat.le_refl _) _
          refine slice_step rfl Tryd.idsTy (by decide) (idC_len (idG_len t1)) (.inl (idC_agg ((slot_eval a 95).symm.trans e0))) ⟨_, rfl, StR.mkLit ⟨w1.heap.size, rfl, Blk.new _ _ _, hc1.size, fun h => by have := (World.ownsRow.lt hc1.own _ h).2; omega⟩, Stage.to1 (hc1.below hbA (hIb _ _ hc1.inv hbA) (hJb _ _ hc1.pre hbA)) hla hls (by decide) (by decide), fun j u _ h => StR.keep (fun _ h => h.below hbA) (fun _ h => h.below hbA) j u h⟩
        | 5, ho =>
          obtain rfl := (Option.some.inj ho).symm
          have hla : listed.getD 5 false = false := (getD_of_size (by rw [hsz]; exact hin)).trans (ready_spec hi).2.1
          have hls : listed.getD 7 false = false := hL.later2 hla (by kernel_rfl)
          have hc1 := Stage.one hL.cls hla hls
          have hx := (hL.get_new (j := 4) (t := 96) hi (by kernel_rfl)).lit
          have hs : a.eval (.tmp 93) = vp := ((hL.get_new (j := 1) hi (by kernel_rfl)).at_ (by decide) (by decide)).trans v1
          refine step_wp rfl rfl ?_
          refine app_step rfl Tryd.idsTy hc1 hgOB hx (idC_len (idG_len t1)) (idC_one (idG t1)) hm1 hm2 (fun w2 hb => hIB _ _ hc1.inv hb) hs rfl ?_
          intro v2 w2 hf2 ha2 hk2 hb2
          exact ⟨_, rfl, StR.mkApp ha2 (by decide), Stage.to2 hf2 hls (by rw [hsz]; decide) (by decide), fun j u hj h => StR.keepL hk2 (fun e => by rw [e, hla] at hj; cases hj) h⟩
        | 6, ho =>
          obtain rfl := (Option.some.inj ho).symm
          have e0 : a.tmps[3]?.getD undef = (.pointer (some ⟨gO, 0, none⟩)) := (slot_eval a 3).trans (hL.get_old hi (by kernel_rfl))
          have hc := Stage.same (i := 6) hL.cls (by decide) (by decide)
          refine step_wp rfl rfl ?_
          clear hi ho hL hin
          refine wp_val (v := (.pointer (some ⟨gO, 35, none⟩))) ?_ ⟨_, rfl, StR.mk (by decide) (by decide) v6.symm, hc, fun _ _ _ h => h⟩
          clear v0 v1 v2 v3 v6 v7 hc
          unfold execOp
          go_simp
        | 7, ho =>
          obtain rfl := (Option.some.inj ho).symm
          have hla : listed.getD 5 false = true := hL.before hi (by kernel_rfl)
          have hls : listed.getD 7 false = false := (getD_of_size (by rw [hsz]; exact hin)).trans (ready_spec hi).2.1
          have hc2 := Stage.two hL.cls hla hls
          have e0 : a.tmps[98]?.getD undef = (.pointer (some ⟨gO, 35, none⟩)) := (slot_eval a 98).trans (((hL.get_new (j := 6) hi (by kernel_rfl)).at_ (by decide) (by decide)).trans v6)
          have hv := (hL.get_new (j := 5) (t := 97) hi (by kernel_rfl)).app (by decide)
          obtain ⟨vA, vK, hvv⟩ := own_form' hv
          rw [hvv] at hv
          have e1 : a.tmps[97]?.getD undef = _ := (slot_eval a 97).trans hvv
          have c0 : (w1.cell? ⟨gO, 35, none⟩).isSome = true := (hc2.blk.there (o := 35) (n := 1) (by rw [hcO]; decide) 0 (by decide)).1
          obtain ⟨c0v, c0⟩ := Option.isSome_iff_exists.1 c0
          have f0 := hc2.blk.frozen 35
          have hR := fun u => AppR.set_ (p := ⟨gO, 35, none⟩) (hv) hgOB u
          have h3 := Stage.to3 (ap := 5) (P1 := (F1 BB gO 41 cO 24 32 vp n' xs II (fun _ => True))) (P2 := (F2 BB gO 41 cO II)) (hc2.stored (off := 35) hv hgOB (hIs _ _ hc2.inv)) (listed := listed) (st := 7) (by rw [hsz]; decide)
          refine step_wp rfl rfl ?_
          clear hi ho hL hin hc2
          refine wp_skip (w' := w1.setCell ⟨gO, 35, none⟩ _) ?_ ⟨_, rfl, StR.mk (by decide) (by decide) v7.symm, h3, fun j u _ h => StR.keep (fun _ h => h.set_ hgOB _) (fun _ h => AppR.set_ h hgOB _) j u h⟩
          clear v0 v1 v2 v3 v6 v7 h3
          unfold execOp
          go_simp
        | (n + 8), ho => exact absurd hin (by simp)
      · intro a w1 listed hL hall
        obtain ⟨v3, hb3, ho3, hi3, hsz3⟩ := Stage.three hL.cls (hall 7 (by decide))
        rw [← hII.out] at hi3
        rw [hset.out] at hb3
        have hob3 : ObjB w1 gO ⟨3, [], [], ID, acc ++ [idG t1], 0, [], noId, 0, []⟩ (.slice none 0 0) v3 := ⟨hb3, hi32, hota⟩
        rw [← hxs.out, ← hn'.out, hrow.out] at ho3
        have hown3 : OwnIds w1 BB v3 (acc ++ [idG t1]) := by unfold OwnIds; rw [List.length_append]; exact ho3
        have hl3 : (acc ++ [idG t1]).length ≤ j + 1 := by rw [List.length_append]; simp only [List.length_cons, List.length_nil]; omega
        obtain ⟨vs, rfl, hR⟩ := hL.frame (by kernel_rfl) (sizes_spec (n := 139) (by kernel_rfl)) hall
        clear hL hall hR hF1 hIb hIB hIs hJb hII hset hrow hxs hn' hm1 hm2 hb3 ho3 hve hcO hidc
        simp only [putAll, Act.put, List.setIfInBounds_toArray, List.set_cons_zero, List.set_cons_succ]
        go_wp2_with (first
          | ((with_reducible refine (hbe2.out _).mono ?_); rintro e w5 ⟨rfl, nq2, rfl⟩))
        go_roundg f
        case rel => exact ⟨j + 1, RR, acc ++ [idG t1], v3, by go_num, rfl, by omega, by omega, hl3, hdl1, hrel, hown3, hob3.drewN nq2, hi3.drewN nq2, hsz3⟩
        case measure => exact Nat.lt_succ_self f
end Go.Proofs.YtnehabcopjgklaaDoor
/- The walk of layer 4: knapsackref04.body. Condition: an object that is not great. -/
namespace Go.Proofs.YtnehabcopjgklaaDoor
open Go.RowKit
structure BodC (w : World) (g gs os : Nat) (o : ObjL) (ve vp : Value) (w' : World) : Prop where
  enc : EncC w g o ve vp w'
  at_ : ∀ i x, o.ents[i]? = some x → w'.rangeAt gs (os + i * 34) (entC x)
  gs_ : gs < w'.heap.size
section
variable {w w' w'' w0 : World} {g gs os : Nat} {o : ObjL} {ve vp : Value} {f : FuncId} {args : Array Value} {v : Value}
theorem BodC.drew (h : BodC w g gs os o ve vp w') : BodC w g gs os o ve vp w'.drew := ⟨h.enc.drew, h.at_, h.gs_⟩
theorem BodC.below (h : BodC w g gs os o ve vp w') (hb : Below w'.heap.size w' w'') : BodC w g gs os o ve vp w'' := ⟨h.enc.below hb, fun i x hx => rangeAt_below (h.at_ i x hx) h.gs_ hb, Nat.lt_of_lt_of_le h.gs_ hb.size⟩
theorem keepBod (h : Calls Tryd.prog f args w0 fun e w' => e = .returned v ∧ Below w0.heap.size w0 w') (hS : BodC w g gs os o ve vp w0) : Calls Tryd.prog f args w0 fun e w' => e = .returned v ∧ BodC w g gs os o ve vp w' :=
  h.mono fun _ _ ⟨he, hb⟩ => ⟨he, hS.below hb⟩
theorem keepEnc (h : Calls Tryd.prog f args w0 fun e w' => e = .returned v ∧ Below w0.heap.size w0 w') (hS : EncC w g o ve vp w0) : Calls Tryd.prog f args w0 fun e w' => e = .returned v ∧ EncC w g o ve vp w' :=
  h.mono fun _ _ ⟨he, hb⟩ => ⟨he, hS.below hb⟩
theorem szl {l : Txt} (h : l.length = 32) : (Tryd.prog.info? 24).map (·.size) = some (u8s l).toList.length := by rw [u8s_len, h]; exact sz32
end
set_option maxRecDepth 100000 in
set_option maxHeartbeats 8000000 in
theorem refBody_calls (o : ObjL) (hs : Small o) (A1 A2 : Option Addr) (k1 k2 : Nat) (w : World) (hv : ObjV w (.slice A1 o.ents.length k1) (.slice A2 o.pars.length k2) o) : Calls Tryd.prog 54 #[.agg (objC o (.slice A1 o.ents.length k1) (.slice A2 o.pars.length k2)).toArray] w fun e w' => e = .returned (.string (B (bodyR o))) ∧ Below w.heap.size w w' := by
  have ho := hv.ok
  have hO := boxed (w := w) (ve := .slice A1 o.ents.length k1) (vp := .slice A2 o.pars.length k2) ho
  have b0 : Below w.heap.size w (w.alloc (.cells (objC o (.slice A1 o.ents.length k1) (.slice A2 o.pars.length k2)).toArray 41)) := (Below.refl _ _).alloc (Nat.le_refl _) _
  have hv0 := hv.below b0
  obtain ⟨W0, hW0⟩ : ∃ W0, w.alloc (.cells (objC o (.slice A1 o.ents.length k1) (.slice A2 o.pars.length k2)).toArray 41) = W0 := ⟨_, rfl⟩
  rw [hW0] at hO b0 hv0
  have hE0 : EncC w w.heap.size o (.slice A1 o.ents.length k1) (.slice A2 o.pars.length k2) W0 := ⟨hO, hv0, b0⟩
  have c1 := hO.data
  obtain ⟨r, hr⟩ : ∃ r, Hid (r = bodyR o) := ⟨_, Lib.hid rfl⟩
  rw [← hr.out]
  have hoE := Lib.hid ho.ents
  have hoP := Lib.hid ho.pars
  have hnE := Lib.hid hs.names
  have htr := Lib.hid ho.tree
  have hta := Lib.hid ho.target
  have hen70 := hs.ents
  have hp20 := hs.pars
  have hd5 := hs.data
  have ht5 := hs.text
  have hn1 := hs.name
  have htime := ho.time
  have hbound : ∀ k, (entsE (o.ents.take k)).length ≤ 353500 := fun k => by
    have := entsE_len' (l := o.ents.take k) (fun e he => ⟨hs.names e (List.mem_of_mem_take he), (ho.ents e (List.mem_of_mem_take he)).id⟩)
    rw [List.length_take] at this
    omega
  have hbound := Lib.hid hbound
  have hboundP : Hid (∀ k, ((o.pars.take k).flatten).length ≤ 640) := fun k => by
    have := flat_len (l := o.pars.take k) (fun e he => hoP.out e (List.mem_of_mem_take he))
    rw [List.length_take] at this
    omega
  clear hv ho hs hv0 hO b0
  generalize (objC o (.slice A1 o.ents.length k1) (.slice A2 o.pars.length k2)).toArray = cs at *
  go_enter Tryd.func54, Tryd.ntmps54
  go_wp2
  clear hW0 c1
  obtain ⟨g, hg⟩ : ∃ g, w.heap.size = g := ⟨_, rfl⟩
  simp only [hg] at hE0 ⊢
  go_loopw [3, 4] (fun vs vi wr => ∃ (k : Nat) (s : Txt), vs = .string (B s) ∧ vi = .int .i64 k ∧ k ≤ o.ents.length ∧ Hid (s = o.data ++ entsE (o.ents.take k)) ∧ EncC w g o (.slice A1 o.ents.length k1) (.slice A2 o.pars.length k2) wr) (fun _ vi _ => o.ents.length - (intOf vi).toNat)
  case atStart => exact ⟨0, o.data, rfl, rfl, by omega, Lib.hid (by simp [entsE]), hE0⟩
  case round =>
    obtain ⟨k, s, rfl, rfl, hk, hs, hE⟩ := hrel
    have f0 := hE.obj.ents
    have hsl : s.length ≤ 358500 := by
      rw [hs.out, List.length_append]
      have := hbound.out k
      omega
    by_cases hlt : k < o.ents.length
    · have hki : (k : Int) < (o.ents.length : Int) := by omega
      obtain ⟨A, cap, he, _, _, hat⟩ := hE.val.ents
      injection he with he _ hcp
      subst he
      subst hcp
      obtain ⟨gs, os, rfl, hgs, hcell⟩ := hat (by omega)
      have hBC : BodC w g gs os o (.slice (some ⟨gs, os, none⟩) o.ents.length k1) (.slice A2 o.pars.length k2) wr := ⟨hE, hcell, hgs⟩
      obtain ⟨x, hx⟩ : ∃ x, o.ents[k]? = some x := ⟨_, List.getElem?_eq_getElem hlt⟩
      have hxok : EntOk x := hoE.out x (List.mem_of_getElem? hx)
      have hxn := hnE.out x (List.mem_of_getElem? hx)
      have hst := Lib.hid (entsE_take hx)
      have hxh := Lib.hid hx
      have hone := fun W => Lib.hid (one_calls x.kind W)
      have hbytes := fun W => Lib.hid (bytes_calls x.id hxok.id W)
      have htext := fun W => Lib.hid (refText_calls x.name (by omega) W)
      have htl : (textE x.name).length ≤ 5010 := by have := put_length x.name.length; unfold textE; rw [List.length_append]; omega
      have hee : Hid (entE x = byteK x.kind :: (textE x.name ++ x.id)) := Lib.hid rfl
      have hidx := szl hxok.id
      have hx32 := hxok.id
      generalize textE x.name = TX at *
      have n1 : ¬ 9223372036854775807 < s.length + 1 := by omega
      have n2 : ¬ 9223372036854775807 < s.length + 1 + TX.length := by omega
      have n3 : ¬ 9223372036854775807 < s.length + 1 + TX.length + 32 := by omega
      have n2' : ¬ 9223372036854775807 < s.length + (TX.length + 1) := by omega
      have n3' : ¬ 9223372036854775807 < s.length + (TX.length + 1) + 32 := by omega
      have n4 : ¬ 9223372036854775807 < s.length + 1 + TX.length + x.id.length := by omega
      have n4' : ¬ 9223372036854775807 < s.length + (TX.length + 1) + x.id.length := by omega
      clear hx hat hE0 hoE hnE hoP hbound hboundP htr hta hr hcell
      go_wp2
      clear hE f0
      refine wp_region_class (C := BodC w g gs os o (.slice (some ⟨gs, os, none⟩) o.ents.length k1) (.slice A2 o.pars.length k2)) (by kernel_rfl) (by kernel_rfl) hBC.drew ?_
      repeat
        first
          | ((with_reducible refine wpQuiet_ex ?_ ?_)
             · (go_simp; done)
             apply Exists.intro
             refine ⟨fun W hW => ?_, ?_⟩
             · first
                 | exact quiet_load_mid _ _ rfl gs (os + k * 34 + 2) rfl (u8s x.id).toList _ (range_entId (hW.at_ k x hxh.out)) Tryd.underlying24 rfl hidx rfl
                 | (have f2 := hW.enc.obj.ents
                    have f3 := (range_ent (hW.at_ k x hxh.out)).2
                    have f4 := (range_ent (hW.at_ k x hxh.out)).1
                    go_simp
                    first
                      | rfl
                      | (go_at_call 52; with_reducible exact keepBod (hone _).out hW)
                      | (go_at_call 53; with_reducible exact keepBod (htext _).out hW)
                      | (go_at_call 79; with_reducible exact keepBod (hbytes _).out hW))
             simp only [Act.put, List.setIfInBounds_toArray, List.set_cons_zero, List.set_cons_succ])
          | ((with_reducible refine wpQuiet_pass ?_ ?_)
             · (first | rfl | (go_simp; done))
             simp only [Act.put, List.setIfInBounds_toArray, List.set_cons_zero, List.set_cons_succ])
      with_reducible refine wpQuiet_nil ?_
      intro w5 hW5
      have hst2 : Hid (s ++ [byteK x.kind] ++ TX ++ x.id = o.data ++ entsE (o.ents.take (k + 1))) := by
        show _ = _
        rw [hst.out, hee.out, hs.out]
        simp
      clear n1 n2 n3 n2' n3' n4 n4' hst hee hs
      go_wp2
      go_roundw
      case rel => exact ⟨k + 1, _, by first | rfl | (congr 2; simp), by go_num, by omega, hst2, hW5.enc⟩
      case measure => simp [intOf]; omega
    · have hki : ¬ (k : Int) < (o.ents.length : Int) := by omega
      have hse : Hid (s = o.data ++ entsE o.ents) := by show s = _; rw [hs.out, List.take_of_length_le (by omega)]
      clear hs hoE hnE hbound hE0 hlt hk
      have c0 := hE.obj.kind
      by_cases h3 : o.kind = 3
      · have hrr : Hid (r = s ++ o.tree ++ put o.pars.length ++ o.pars.flatten ++ put o.time ++ textE o.text) := by
          show r = _
          rw [hr.out, bodyR, if_pos h3, hse.out]
          simp [commitE]
        rw [h3] at c0
        have hbt := fun W => Lib.hid (bytes_calls o.tree htr.out W)
        have hpn := fun W => Lib.hid (refPut_calls o.pars.length (by omega) W)
        have hpt := fun W => Lib.hid (refPut_calls o.time (by omega) W)
        have htx := fun W => Lib.hid (refText_calls o.text (by omega) W)
        have hl1 := put_length o.pars.length
        have hl2 := put_length o.time
        have htl : (textE o.text).length ≤ 5010 := by have := put_length o.text.length; unfold textE; rw [List.length_append]; omega
        have ht32 := htr.out
        have hwu : IntKind.u64.wrap ((o.pars.length : Nat) : Int) = ((o.pars.length : Nat) : Int) := by rw [IntKind.wrap_u64]; omega
        have hwt : IntKind.u64.wrap ((o.time : Nat) : Int) = ((o.time : Nat) : Int) := by rw [IntKind.wrap_u64]; omega
        have hidt := szl ht32
        have h3' := h3
        clear hr hse h3
        generalize textE o.text = TX at *
        generalize put o.pars.length = PN at *
        generalize put o.time = PT at *
        have n1 : ¬ 9223372036854775807 < s.length + 32 := by omega
        have n2 : ¬ 9223372036854775807 < s.length + 32 + PN.length := by omega
        have n1' : ¬ 9223372036854775807 < s.length + o.tree.length := by omega
        have n2' : ¬ 9223372036854775807 < s.length + o.tree.length + PN.length := by omega
        go_wp2
        clear c0 f0
        refine wp_region_class (C := EncC w g o (.slice A1 o.ents.length k1) (.slice A2 o.pars.length k2)) (by kernel_rfl) (by kernel_rfl) hE.drew ?_
        repeat
          first
            | ((with_reducible refine wpQuiet_ex ?_ ?_)
               · (go_simp; done)
               apply Exists.intro
               refine ⟨fun W hW => ?_, ?_⟩
               · first
                   | exact quiet_load_mid _ _ rfl g 3 rfl (u8s o.tree).toList _ hW.obj.tree Tryd.underlying24 rfl hidt rfl
                   | (have f2 := hW.obj.pars
                      go_simp
                      first
                        | rfl
                        | (go_at_call 79; with_reducible exact keepEnc (hbt _).out hW)
                        | (go_at_call 78; with_reducible exact keepEnc (hpn _).out hW))
               simp only [Act.put, List.setIfInBounds_toArray, List.set_cons_zero, List.set_cons_succ])
            | ((with_reducible refine wpQuiet_pass ?_ ?_)
               · (first | rfl | (go_simp; done))
               simp only [Act.put, List.setIfInBounds_toArray, List.set_cons_zero, List.set_cons_succ])
        with_reducible refine wpQuiet_nil ?_
        intro w5 hW5
        generalize hS2 : s ++ o.tree ++ PN = S2 at *
        have hS2l : S2.length ≤ 359000 := by rw [← hS2]; simp only [List.length_append]; omega
        replace hS2 := Lib.hid hS2
        clear hE n1 n2 n1' n2' hpn hbt hidt ht32
        have hE := hW5
        go_wp2
        go_loopw [3, 5] (fun vs vi wr => ∃ (k : Nat) (q : Txt), vs = .string (B q) ∧ vi = .int .i64 k ∧ k ≤ o.pars.length ∧ Hid (q = S2 ++ (o.pars.take k).flatten) ∧ EncC w g o (.slice A1 o.ents.length k1) (.slice A2 o.pars.length k2) wr) (fun _ vi _ => o.pars.length - (intOf vi).toNat)
        case atStart => exact ⟨0, S2, by first | rfl | (rw [← hS2.out, List.append_assoc]), rfl, by omega, Lib.hid (by simp), hE⟩
        case round =>
          obtain ⟨k, q, rfl, rfl, hk, hq, hE2⟩ := hrel
          have f0 := hE2.obj.pars
          have hql : q.length ≤ 359640 := by
            rw [hq.out, List.length_append]
            have := hboundP.out k
            omega
          by_cases hlt : k < o.pars.length
          · have hki : (k : Int) < (o.pars.length : Int) := by omega
            obtain ⟨A, cap, he, _, _, hat⟩ := hE2.val.pars
            injection he with he _ hcp
            subst he
            subst hcp
            obtain ⟨gs, os, rfl, hgs, hcell⟩ := hat (by omega)
            obtain ⟨x, hx⟩ : ∃ x, o.pars[k]? = some x := ⟨_, List.getElem?_eq_getElem hlt⟩
            have hx32 : x.length = 32 := hoP.out x (List.mem_of_getElem? hx)
            have hx0 : wr.rangeAt gs (os + k * 32) (u8s x).toList := hcell k x hx
            have hst := Lib.hid (flat_take hx)
            have hbytes := fun W => Lib.hid (bytes_calls x hx32 W)
            have n1 : ¬ 9223372036854775807 < q.length + 32 := by omega
            have n1' : ¬ 9223372036854775807 < q.length + x.length := by omega
            clear hx hat hcell hW5 hE
            go_wp2_with (first
              | ((with_reducible refine lit_load_id (.tmp 65) gs (os + k * 32) x hx32 hx0 ?_ ?_); rfl)
              | ((with_reducible refine (hbytes _).out.mono ?_); rintro e w6 ⟨rfl, hb6⟩))
            have hE3 := hE2.below hb6
            have hst2 : Hid (q ++ x = S2 ++ (o.pars.take (k + 1)).flatten) := by
              show _ = _
              rw [hst.out, hq.out]
              simp
            clear n1 n1' hst hq
            go_roundw
            case rel =>
              (repeat apply Exists.intro)
              exact ⟨⟨k + 1, _, rfl, by go_num, by omega, hst2, hE3⟩, rfl⟩
            case measure => simp [intOf]; omega
          · have hki : ¬ (k : Int) < (o.pars.length : Int) := by omega
            have hqe : Hid (q = S2 ++ o.pars.flatten) := by show q = _; rw [hq.out, List.take_of_length_le (by omega)]
            have n1 : ¬ 9223372036854775807 < q.length + PT.length := by omega
            have n2 : ¬ 9223372036854775807 < q.length + PT.length + TX.length := by omega
            have hfin : Hid (r = q ++ PT ++ TX) := by
              show r = _
              rw [hrr.out, hqe.out, ← hS2.out]
            have c0 := hE2.obj.kind
            rw [h3'] at c0
            clear hq hqe hrr hlt hk hboundP hW5 hE
            go_wp2
            clear f0
            refine wp_region_class (C := EncC w g o (.slice A1 o.ents.length k1) (.slice A2 o.pars.length k2)) (by kernel_rfl) (by kernel_rfl) hE2.drew ?_
            repeat
              first
                | ((with_reducible refine wpQuiet_ex ?_ ?_)
                   · (go_simp; done)
                   apply Exists.intro
                   refine ⟨fun W hW => ?_, ?_⟩
                   · first
                       | (have f2 := hW.obj.time
                          have f3 := hW.obj.text
                          go_simp
                          first
                            | rfl
                            | (go_at_call 53; with_reducible exact keepEnc (htx _).out hW)
                            | (go_at_call 78; with_reducible exact keepEnc (hpt _).out hW))
                   simp only [Act.put, List.setIfInBounds_toArray, List.set_cons_zero, List.set_cons_succ])
                | ((with_reducible refine wpQuiet_pass ?_ ?_)
                   · (first | rfl | (go_simp; done))
                   simp only [Act.put, List.setIfInBounds_toArray, List.set_cons_zero, List.set_cons_succ])
            with_reducible refine wpQuiet_nil ?_
            intro w5 hW5
            have c0 := hW5.obj.kind
            rw [h3'] at c0
            clear n1 n2
            go_wp2
            go_ret
            exact ⟨by rw [hfin.out]; simp, by first | exact hW5.bel | (rw [← hg]; exact hW5.bel)⟩
      by_cases h4 : o.kind = 4
      · have hrr : Hid (r = s ++ [byteK o.of_] ++ o.target ++ textE o.name) := by
          show r = _
          rw [hr.out, bodyR, if_neg h3, if_pos h4, hse.out]
          simp [tagE]
        rw [h4] at c0
        have hbt := fun W => Lib.hid (bytes_calls o.target hta.out W)
        have hone := fun W => Lib.hid (one_calls o.of_ W)
        have htx := fun W => Lib.hid (refText_calls o.name (by omega) W)
        have htl : (textE o.name).length ≤ 5010 := by have := put_length o.name.length; unfold textE; rw [List.length_append]; omega
        have ht32 := hta.out
        have hidt := szl ht32
        clear hr hse h3 h4
        generalize textE o.name = TX at *
        have n1 : ¬ 9223372036854775807 < s.length + 1 := by omega
        have n2 : ¬ 9223372036854775807 < s.length + 1 + 32 := by omega
        have n3 : ¬ 9223372036854775807 < s.length + 1 + 32 + TX.length := by omega
        have n2' : ¬ 9223372036854775807 < s.length + 1 + o.target.length := by omega
        have n3' : ¬ 9223372036854775807 < s.length + 1 + o.target.length + TX.length := by omega
        have n2a : ¬ 9223372036854775807 < s.length + (o.target.length + 1) := by omega
        have n3a : ¬ 9223372036854775807 < s.length + (32 + 1) + TX.length := by omega
        have n3b : ¬ 9223372036854775807 < s.length + (o.target.length + 1) + TX.length := by omega
        go_wp2
        clear c0 f0
        refine wp_region_class (C := EncC w g o (.slice A1 o.ents.length k1) (.slice A2 o.pars.length k2)) (by kernel_rfl) (by kernel_rfl) hE.drew ?_
        repeat
          first
            | ((with_reducible refine wpQuiet_ex ?_ ?_)
               · (go_simp; done)
               apply Exists.intro
               refine ⟨fun W hW => ?_, ?_⟩
               · first
                   | exact quiet_load_mid _ _ rfl g 38 rfl (u8s o.target).toList _ hW.obj.target Tryd.underlying24 rfl hidt rfl
                   | (have f2 := hW.obj.of_
                      have f3 := hW.obj.name
                      go_simp
                      first
                        | rfl
                        | (go_at_call 79; with_reducible exact keepEnc (hbt _).out hW)
                        | (go_at_call 52; with_reducible exact keepEnc (hone _).out hW)
                        | (go_at_call 53; with_reducible exact keepEnc (htx _).out hW))
               simp only [Act.put, List.setIfInBounds_toArray, List.set_cons_zero, List.set_cons_succ])
            | ((with_reducible refine wpQuiet_pass ?_ ?_)
               · (first | rfl | (go_simp; done))
               simp only [Act.put, List.setIfInBounds_toArray, List.set_cons_zero, List.set_cons_succ])
        with_reducible refine wpQuiet_nil ?_
        intro w5 hW5
        clear n1 n2 n3 n2' n3' n2a n3a n3b
        go_wp2
        go_ret
        exact ⟨by rw [hrr.out]; simp, by first | exact hW5.bel | (rw [← hg]; exact hW5.bel)⟩
      · have hrr : Hid (r = s) := by
          show r = _
          rw [hr.out, bodyR, if_neg h3, if_neg h4, hse.out]
          simp
        have e3 : (o.kind == 3) = false := by rw [beq_eq_false_iff_ne]; exact h3
        have e4 : (o.kind == 4) = false := by rw [beq_eq_false_iff_ne]; exact h4
        clear hr hse
        go_wp2
        go_ret
        exact ⟨by rw [hrr.out]; rfl, by first | exact hE.bel | (rw [← hg]; exact hE.bel)⟩
end Go.Proofs.YtnehabcopjgklaaDoor
/- The walk of layer 4: knapsackref04.May, at the other kinds. No condition. -/
namespace Go.Proofs.YtnehabcopjgklaaDoor
open Go.RowKit
attribute [local go_sem ↓] ldvI_eq
theorem kind_eq (n : Int) : (n < 1 → kindB n = false) ∧ (4 < n → kindB n = false) ∧ (¬ n < 1 → ¬ 4 < n → kindB n = true) := by
  unfold kindB
  refine ⟨fun h => ?_, fun h => ?_, fun h1 h2 => ?_⟩
  · rw [decide_eq_false (p := 1 ≤ n) (by omega)]; rfl
  · rw [decide_eq_false (p := n ≤ 4) (by omega)]; simp
  · rw [decide_eq_true (p := 1 ≤ n) (by omega), decide_eq_true (p := n ≤ 4) (by omega)]; rfl
set_option maxRecDepth 100000 in
set_option maxHeartbeats 4000000 in
theorem refMay_calls1 (o : ObjL) (hk : o.kind = 1) (A1 A2 : Option Addr) (k1 k2 : Nat) (w : World) (hv : ObjV w (.slice A1 o.ents.length k1) (.slice A2 o.pars.length k2) o) : Calls Tryd.prog 51 #[.agg (objC o (.slice A1 o.ents.length k1) (.slice A2 o.pars.length k2)).toArray] w fun e w' => e = .returned (.bool (mayB o)) ∧ Below w.heap.size w w' := by
  have ho := hv.ok
  have hO := boxed (w := w) (ve := .slice A1 o.ents.length k1) (vp := .slice A2 o.pars.length k2) ho
  have b0 : Below w.heap.size w (w.alloc (.cells (objC o (.slice A1 o.ents.length k1) (.slice A2 o.pars.length k2)).toArray 41)) := (Below.refl _ _).alloc (Nat.le_refl _) _
  have hv0 := hv.below b0
  obtain ⟨W0, hW0⟩ : ∃ W0, w.alloc (.cells (objC o (.slice A1 o.ents.length k1) (.slice A2 o.pars.length k2)).toArray 41) = W0 := ⟨_, rfl⟩
  rw [hW0] at hO b0 hv0
  have c0 := hO.kind
  have g1 := fun W => run_ldvI_at (w := W) (g := w.heap.size) (o := 3) (l := o.tree)
  have g2 := fun W => run_ldvI_at (w := W) (g := w.heap.size) (o := 38) (l := o.target)
  have z1 := fun W => equalIn_zero o.tree ho.tree W
  have z2 := fun W => equalIn_zero o.target ho.target W
  have e1 := Lib.hid (commit_eq o)
  have e2 := Lib.hid (tag_eq o)
  have ht : o.time < 4294967296 := ho.time
  obtain ⟨r, hr⟩ : ∃ r, Hid (r = mayB o) := ⟨_, Lib.hid rfl⟩
  rw [← hr.out]
  have hr2 := hr.out
  rw [may_one o hk, commit_eq, tag_eq] at hr2
  replace hr2 := Lib.hid hr2
  rw [hk] at c0
  have htr := Lib.hid ho.tree
  have hta := Lib.hid ho.target
  obtain ⟨Ez, hEz⟩ : ∃ Ez, treeN o = Ez := ⟨_, rfl⟩
  have hE1 : Hid (0 < o.ents.length → Ez = false) := fun h => by rw [← hEz]; unfold treeN; rw [beq_eq_false_iff_ne]; omega
  have hE2 : Hid (¬ 0 < o.ents.length → Ez = true) := fun h => by rw [← hEz]; unfold treeN; rw [beq_iff_eq]; omega
  have hr1 := hr2.out
  rw [hEz] at hr1
  replace hr2 := Lib.hid hr1
  clear hEz hr1
  clear hr ho hv e1 e2
  generalize decide (o.tree = List.replicate 32 0) = T at *
  generalize decide (o.target = List.replicate 32 0) = G at *
  obtain ⟨Pz, hPz⟩ : ∃ Pz, decide ((o.pars.length : Int) = 0) = Pz := ⟨_, rfl⟩
  have hP1 : 0 < o.pars.length → Pz = false := fun h => by rw [← hPz]; exact decide_eq_false (by omega)
  have hP2 : ¬ 0 < o.pars.length → Pz = true := fun h => by rw [← hPz]; exact decide_eq_true (by omega)
  replace hP1 := Lib.hid hP1
  replace hP2 := Lib.hid hP2
  have hr3 := hr2.out
  rw [hPz] at hr3
  replace hr2 := Lib.hid hr3
  clear hPz hr3
  generalize hcs : (objC o (.slice A1 o.ents.length k1) (.slice A2 o.pars.length k2)).toArray = cs at *
  clear hcs
  have s0 := b0.size
  go_enter Tryd.func51, Tryd.ntmps51
  go_upto_region 4 with (first
    | ((with_reducible refine lit_new_zero (.tmp 3) (.tmp 16) _ ?_ ?_ ?_ ?_); rfl; rfl; rfl
       intro W1 hb1 hbl1
       have hO1 := hO.below hbl1
       have c1 := hO1.data
       have c2 := hO1.ents
       have c35 := hO1.pars
       have c36 := hO1.time
       have c37 := hO1.text
       have c70 := hO1.of_
       have c71 := hO1.name
       have c0' := hO1.kind
       rw [hk] at c0'
       have q1 := g1 W1 hO1.tree htr.out
       have q2 := g2 W1 hO1.target hta.out
       have q3 := run_zero hb1))
  clear c0 hO hb1 htr hta g1 g2 hW0
  have b1 := b0.trans (hbl1.mono s0)
  have sz1 := Nat.le_trans s0 hbl1.size
  clear b0 hbl1 hv0
  go_upto_region 16 with fail
  all_goals try (exfalso; omega)
  all_goals try
    (go_ret
     refine ⟨?_, b1⟩
     rw [hr2.out]
     have hP1 := hP1.out
     have hP2 := hP2.out
     have hE1 := hE1.out
     have hE2 := hE2.out
     clear z1 z2 c1 c2 c35 c36 c37 c70 c71 q1 q2 q3 hO1 c0' hr2
     simp_all
     done)
  have hrT : Hid (r = true) := by
    show r = true
    rw [hr2.out]
    have hP1 := hP1.out
    have hP2 := hP2.out
    have hE1 := hE1.out
    have hE2 := hE2.out
    clear z1 z2 c1 c2 c35 c36 c37 c70 c71 q1 q2 q3 hO1 c0' hr2
    simp_all
  have hn0 : ¬ 0 < o.ents.length := by assumption
  have hni : ¬ (0 : Int) < (o.ents.length : Int) := by omega
  clear hr2 z1 z2 c1 c35 c36 c37 c70 c71 q1 q2 q3 c0' ht
  go_cut [5] (fun s5 wx => s5 = .int .i64 0 ∧ wx = W1)
  case first =>
    go_wp2
    go_meet
    case rel => exact ⟨rfl, rfl⟩
  obtain ⟨rfl, rfl⟩ := hcut
  go_wp2
  go_loopw [5] (fun vi wr => vi = .int .i64 0 ∧ wr = wc) (fun _ _ => 0)
  case atStart => exact ⟨rfl, rfl⟩
  case round =>
    obtain ⟨rfl, rfl⟩ := hrel
    go_wp2
    go_ret
    exact ⟨by rw [hrT.out]; rfl, b1⟩
set_option maxRecDepth 100000 in
set_option maxHeartbeats 4000000 in
theorem refMay_calls3 (o : ObjL) (hk : o.kind = 3) (A1 A2 : Option Addr) (k1 k2 : Nat) (w : World) (hv : ObjV w (.slice A1 o.ents.length k1) (.slice A2 o.pars.length k2) o) : Calls Tryd.prog 51 #[.agg (objC o (.slice A1 o.ents.length k1) (.slice A2 o.pars.length k2)).toArray] w fun e w' => e = .returned (.bool (mayB o)) ∧ Below w.heap.size w w' := by
  have ho := hv.ok
  have hO := boxed (w := w) (ve := .slice A1 o.ents.length k1) (vp := .slice A2 o.pars.length k2) ho
  have b0 : Below w.heap.size w (w.alloc (.cells (objC o (.slice A1 o.ents.length k1) (.slice A2 o.pars.length k2)).toArray 41)) := (Below.refl _ _).alloc (Nat.le_refl _) _
  have hv0 := hv.below b0
  obtain ⟨W0, hW0⟩ : ∃ W0, w.alloc (.cells (objC o (.slice A1 o.ents.length k1) (.slice A2 o.pars.length k2)).toArray 41) = W0 := ⟨_, rfl⟩
  rw [hW0] at hO b0 hv0
  have c0 := hO.kind
  have g1 := fun W => run_ldvI_at (w := W) (g := w.heap.size) (o := 3) (l := o.tree)
  have g2 := fun W => run_ldvI_at (w := W) (g := w.heap.size) (o := 38) (l := o.target)
  have z1 := fun W => equalIn_zero o.tree ho.tree W
  have z2 := fun W => equalIn_zero o.target ho.target W
  have e1 := Lib.hid (commit_eq o)
  have e2 := Lib.hid (tag_eq o)
  have ht : o.time < 4294967296 := ho.time
  obtain ⟨r, hr⟩ : ∃ r, Hid (r = mayB o) := ⟨_, Lib.hid rfl⟩
  rw [← hr.out]
  have hr2 := hr.out
  rw [may_three o hk, tag_eq] at hr2
  have hX : blobN o = List.isEmpty o.data := rfl
  rw [hX] at hr2
  replace hr2 := Lib.hid hr2
  rw [hk] at c0
  have htr := Lib.hid ho.tree
  have hta := Lib.hid ho.target
  obtain ⟨Ez, hEz⟩ : ∃ Ez, treeN o = Ez := ⟨_, rfl⟩
  have hE1 : Hid (0 < o.ents.length → Ez = false) := fun h => by rw [← hEz]; unfold treeN; rw [beq_eq_false_iff_ne]; omega
  have hE2 : Hid (¬ 0 < o.ents.length → Ez = true) := fun h => by rw [← hEz]; unfold treeN; rw [beq_iff_eq]; omega
  have hr1 := hr2.out
  rw [hEz] at hr1
  replace hr2 := Lib.hid hr1
  clear hEz hr1
  clear hr ho hX hv e1 e2
  generalize decide (o.tree = List.replicate 32 0) = T at *
  generalize decide (o.target = List.replicate 32 0) = G at *
  obtain ⟨Pz, hPz⟩ : ∃ Pz, decide (o.pars.length ≤ 8) = Pz := ⟨_, rfl⟩
  have hP1 : (8 : Int) < (o.pars.length : Int) → Pz = false := fun h => by rw [← hPz]; exact decide_eq_false (by omega)
  have hP2 : (o.pars.length : Int) ≤ 8 → Pz = true := fun h => by rw [← hPz]; exact decide_eq_true (by omega)
  replace hP1 := Lib.hid hP1
  replace hP2 := Lib.hid hP2
  have hr3 := hr2.out
  rw [hPz] at hr3
  replace hr2 := Lib.hid hr3
  clear hPz hr3
  generalize hcs : (objC o (.slice A1 o.ents.length k1) (.slice A2 o.pars.length k2)).toArray = cs at *
  clear hcs
  have s0 := b0.size
  go_enter Tryd.func51, Tryd.ntmps51
  go_upto_region 4 with (first
    | ((with_reducible refine lit_new_zero (.tmp 3) (.tmp 16) _ ?_ ?_ ?_ ?_); rfl; rfl; rfl
       intro W1 hb1 hbl1
       have hO1 := hO.below hbl1
       have c1 := hO1.data
       have c2 := hO1.ents
       have c35 := hO1.pars
       have c36 := hO1.time
       have c37 := hO1.text
       have c70 := hO1.of_
       have c71 := hO1.name
       have c0' := hO1.kind
       rw [hk] at c0'
       have q1 := g1 W1 hO1.tree htr.out
       have q2 := g2 W1 hO1.target hta.out
       have q3 := run_zero hb1))
  clear c0 hO hb1 htr hta g1 g2 hW0
  have b1 := b0.trans (hbl1.mono s0)
  have sz1 := Nat.le_trans s0 hbl1.size
  clear b0 hbl1 hv0
  go_upto_region 16 with fail
  all_goals try (exfalso; omega)
  all_goals try
    (go_ret
     refine ⟨?_, b1⟩
     rw [hr2.out]
     have hP1 := hP1.out
     have hP2 := hP2.out
     have hE1 := hE1.out
     have hE2 := hE2.out
     clear z1 z2 c1 c2 c35 c36 c37 c70 c71 q1 q2 q3 hO1 c0' hr2
     simp_all
     done)
  have hrT : Hid (r = true) := by
    show r = true
    rw [hr2.out]
    have hP1 := hP1.out
    have hP2 := hP2.out
    have hE1 := hE1.out
    have hE2 := hE2.out
    clear z1 z2 c1 c2 c35 c36 c37 c70 c71 q1 q2 q3 hO1 c0' hr2
    simp_all
  have hn0 : ¬ 0 < o.ents.length := by assumption
  have hni : ¬ (0 : Int) < (o.ents.length : Int) := by omega
  clear hr2 z1 z2 c1 c35 c36 c37 c70 c71 q1 q2 q3 c0' ht
  go_cut [5] (fun s5 wx => s5 = .int .i64 0 ∧ wx = W1)
  case first =>
    go_wp2
    go_meet
    case rel => exact ⟨rfl, rfl⟩
  obtain ⟨rfl, rfl⟩ := hcut
  go_wp2
  go_loopw [5] (fun vi wr => vi = .int .i64 0 ∧ wr = wc) (fun _ _ => 0)
  case atStart => exact ⟨rfl, rfl⟩
  case round =>
    obtain ⟨rfl, rfl⟩ := hrel
    go_wp2
    go_ret
    exact ⟨by rw [hrT.out]; rfl, b1⟩
set_option maxRecDepth 100000 in
set_option maxHeartbeats 4000000 in
theorem refMay_calls4 (o : ObjL) (hk : o.kind = 4) (A1 A2 : Option Addr) (k1 k2 : Nat) (w : World) (hv : ObjV w (.slice A1 o.ents.length k1) (.slice A2 o.pars.length k2) o) : Calls Tryd.prog 51 #[.agg (objC o (.slice A1 o.ents.length k1) (.slice A2 o.pars.length k2)).toArray] w fun e w' => e = .returned (.bool (mayB o)) ∧ Below w.heap.size w w' := by
  have ho := hv.ok
  have hO := boxed (w := w) (ve := .slice A1 o.ents.length k1) (vp := .slice A2 o.pars.length k2) ho
  have b0 : Below w.heap.size w (w.alloc (.cells (objC o (.slice A1 o.ents.length k1) (.slice A2 o.pars.length k2)).toArray 41)) := (Below.refl _ _).alloc (Nat.le_refl _) _
  have hv0 := hv.below b0
  obtain ⟨W0, hW0⟩ : ∃ W0, w.alloc (.cells (objC o (.slice A1 o.ents.length k1) (.slice A2 o.pars.length k2)).toArray 41) = W0 := ⟨_, rfl⟩
  rw [hW0] at hO b0 hv0
  have c0 := hO.kind
  have g1 := fun W => run_ldvI_at (w := W) (g := w.heap.size) (o := 3) (l := o.tree)
  have g2 := fun W => run_ldvI_at (w := W) (g := w.heap.size) (o := 38) (l := o.target)
  have z1 := fun W => equalIn_zero o.tree ho.tree W
  have z2 := fun W => equalIn_zero o.target ho.target W
  have e1 := Lib.hid (commit_eq o)
  have e2 := Lib.hid (tag_eq o)
  have ht : o.time < 4294967296 := ho.time
  obtain ⟨r, hr⟩ : ∃ r, Hid (r = mayB o) := ⟨_, Lib.hid rfl⟩
  rw [← hr.out]
  have hr2 := hr.out
  rw [may_four o hk, commit_eq] at hr2
  have hX : blobN o = List.isEmpty o.data := rfl
  rw [hX] at hr2
  replace hr2 := Lib.hid hr2
  rw [hk] at c0
  have htr := Lib.hid ho.tree
  have hta := Lib.hid ho.target
  obtain ⟨Ez, hEz⟩ : ∃ Ez, treeN o = Ez := ⟨_, rfl⟩
  have hE1 : Hid (0 < o.ents.length → Ez = false) := fun h => by rw [← hEz]; unfold treeN; rw [beq_eq_false_iff_ne]; omega
  have hE2 : Hid (¬ 0 < o.ents.length → Ez = true) := fun h => by rw [← hEz]; unfold treeN; rw [beq_iff_eq]; omega
  have hr1 := hr2.out
  rw [hEz] at hr1
  replace hr2 := Lib.hid hr1
  clear hEz hr1
  clear hr ho hX hv e1 e2
  generalize decide (o.tree = List.replicate 32 0) = T at *
  generalize decide (o.target = List.replicate 32 0) = G at *
  obtain ⟨Pz, hPz⟩ : ∃ Pz, decide ((o.pars.length : Int) = 0) = Pz := ⟨_, rfl⟩
  have hP1 : 0 < o.pars.length → Pz = false := fun h => by rw [← hPz]; exact decide_eq_false (by omega)
  have hP2 : ¬ 0 < o.pars.length → Pz = true := fun h => by rw [← hPz]; exact decide_eq_true (by omega)
  replace hP1 := Lib.hid hP1
  replace hP2 := Lib.hid hP2
  have hr3 := hr2.out
  rw [hPz] at hr3
  replace hr2 := Lib.hid hr3
  clear hPz hr3
  obtain ⟨k1', k2', k3'⟩ := kind_eq o.of_
  have hK1 := Lib.hid k1'
  have hK2 := Lib.hid k2'
  have hK3 := Lib.hid k3'
  have hnm := fun W => Lib.hid (refName_calls o.name hv0.ok.name W)
  clear k1' k2' k3'
  generalize kindB o.of_ = K at *
  generalize nameB o.name = N at *
  generalize hcs : (objC o (.slice A1 o.ents.length k1) (.slice A2 o.pars.length k2)).toArray = cs at *
  clear hcs
  have s0 := b0.size
  go_enter Tryd.func51, Tryd.ntmps51
  go_upto_region 4 with (first
    | ((with_reducible refine lit_new_zero (.tmp 3) (.tmp 16) _ ?_ ?_ ?_ ?_); rfl; rfl; rfl
       intro W1 hb1 hbl1
       have hO1 := hO.below hbl1
       have c1 := hO1.data
       have c2 := hO1.ents
       have c35 := hO1.pars
       have c36 := hO1.time
       have c37 := hO1.text
       have c70 := hO1.of_
       have c71 := hO1.name
       have c0' := hO1.kind
       rw [hk] at c0'
       have q1 := g1 W1 hO1.tree htr.out
       have q2 := g2 W1 hO1.target hta.out
       have q3 := run_zero hb1))
  clear c0 hO hb1 htr hta g1 g2 hW0
  have b1 := b0.trans (hbl1.mono s0)
  have sz1 := Nat.le_trans s0 hbl1.size
  clear b0 hbl1 hv0
  go_upto_region 16 with (first
    | ((with_reducible refine (hnm _).out.mono ?_); rintro e w3 ⟨rfl, hw3⟩; rw [hw3]; clear hw3))
  all_goals try (exfalso; omega)
  all_goals try
    (go_ret
     refine ⟨?_, b1⟩
     rw [hr2.out]
     have hP1 := hP1.out
     have hP2 := hP2.out
     have hE1 := hE1.out
     have hE2 := hE2.out
     have hK1 := hK1.out
     have hK2 := hK2.out
     have hK3 := hK3.out
     clear z1 z2 c1 c2 c35 c36 c37 c70 c71 q1 q2 q3 hO1 c0' hr2
     simp_all
     done)
  have hrT : Hid (r = true) := by
    show r = true
    rw [hr2.out]
    have hP1 := hP1.out
    have hP2 := hP2.out
    have hE1 := hE1.out
    have hE2 := hE2.out
    have hK1 := hK1.out
    have hK2 := hK2.out
    have hK3 := hK3.out
    clear z1 z2 c1 c2 c35 c36 c37 c70 c71 q1 q2 q3 hO1 c0' hr2
    simp_all
  have hn0 : ¬ 0 < o.ents.length := by assumption
  have hni : ¬ (0 : Int) < (o.ents.length : Int) := by omega
  clear hr2 z1 z2 c1 c35 c36 c37 c70 c71 q1 q2 q3 c0' ht
  go_cut [5] (fun s5 wx => s5 = .int .i64 0 ∧ wx = W1)
  case first =>
    go_wp2
    go_meet
    case rel => exact ⟨rfl, rfl⟩
  obtain ⟨rfl, rfl⟩ := hcut
  go_wp2
  go_loopw [5] (fun vi wr => vi = .int .i64 0 ∧ wr = wc) (fun _ _ => 0)
  case atStart => exact ⟨rfl, rfl⟩
  case round =>
    obtain ⟨rfl, rfl⟩ := hrel
    go_wp2
    go_ret
    exact ⟨by rw [hrT.out]; rfl, b1⟩
set_option maxRecDepth 100000 in
set_option maxHeartbeats 4000000 in
theorem refMay_calls0 (o : ObjL) (hk : o.kind < 1 ∨ 4 < o.kind) (A1 A2 : Option Addr) (k1 k2 : Nat) (w : World) (hv : ObjV w (.slice A1 o.ents.length k1) (.slice A2 o.pars.length k2) o) : Calls Tryd.prog 51 #[.agg (objC o (.slice A1 o.ents.length k1) (.slice A2 o.pars.length k2)).toArray] w fun e w' => e = .returned (.bool (mayB o)) ∧ Below w.heap.size w w' := by
  have ho := hv.ok
  have hO := boxed (w := w) (ve := .slice A1 o.ents.length k1) (vp := .slice A2 o.pars.length k2) ho
  have b0 : Below w.heap.size w (w.alloc (.cells (objC o (.slice A1 o.ents.length k1) (.slice A2 o.pars.length k2)).toArray 41)) := (Below.refl _ _).alloc (Nat.le_refl _) _
  obtain ⟨W0, hW0⟩ : ∃ W0, w.alloc (.cells (objC o (.slice A1 o.ents.length k1) (.slice A2 o.pars.length k2)).toArray 41) = W0 := ⟨_, rfl⟩
  rw [hW0] at hO b0
  have c0 := hO.kind
  obtain ⟨r, hr⟩ : ∃ r, Hid (r = mayB o) := ⟨_, Lib.hid rfl⟩
  rw [← hr.out]
  have hf : Hid (r = false) := by show r = false; rw [hr.out]; exact may_none o hk
  clear hr hv ho hO
  generalize (objC o (.slice A1 o.ents.length k1) (.slice A2 o.pars.length k2)).toArray = cs at *
  generalize o.kind = n at *
  go_enter Tryd.func51, Tryd.ntmps51
  by_cases h1 : n < 1
  · clear hk
    go_wp2
    all_goals try (exfalso; omega)
    go_ret
    exact ⟨by rw [hf.out]; rfl, b0⟩
  · have h4 : 4 < n := by omega
    clear hk
    go_wp2
    all_goals try (exfalso; omega)
    go_ret
    exact ⟨by rw [hf.out]; rfl, b0⟩
theorem refMay_calls (o : ObjL) (A1 A2 : Option Addr) (k1 k2 : Nat) (w : World) (hv : ObjV w (.slice A1 o.ents.length k1) (.slice A2 o.pars.length k2) o) : Calls Tryd.prog 51 #[.agg (objC o (.slice A1 o.ents.length k1) (.slice A2 o.pars.length k2)).toArray] w fun e w' => e = .returned (.bool (mayB o)) ∧ Below w.heap.size w w' := by
  by_cases h1 : o.kind = 1
  · exact refMay_calls1 o h1 A1 A2 k1 k2 w hv
  by_cases h2 : o.kind = 2
  · exact refMay_calls2 o h2 A1 A2 k1 k2 w hv
  by_cases h3 : o.kind = 3
  · exact refMay_calls3 o h3 A1 A2 k1 k2 w hv
  by_cases h4 : o.kind = 4
  · exact refMay_calls4 o h4 A1 A2 k1 k2 w hv
  exact refMay_calls0 o (by omega) A1 A2 k1 k2 w hv
end Go.Proofs.YtnehabcopjgklaaDoor
/- The walk of layer 4: knapsackref04.Encode. Condition: an object that is not great. -/
namespace Go.Proofs.YtnehabcopjgklaaDoor
open Go.RowKit
attribute [local go_sem ↓] ldvO_eq
def encD (o : ObjL) : Value := match encO o with
  | some t => .tuple #[.string (B t), .bool true]
  | none => .tuple #[.string (B []), .bool false]
theorem encD_none {o : ObjL} (h : encO o = none) : encD o = .tuple #[.string (B []), .bool false] := by unfold encD; rw [h]
theorem encD_some {o : ObjL} {t : Txt} (h : encO o = some t) : encD o = .tuple #[.string (B t), .bool true] := by unfold encD; rw [h]
set_option maxRecDepth 100000 in
set_option maxHeartbeats 4000000 in
theorem refEncode_calls (o : ObjL) (hs : Small o) (A1 A2 : Option Addr) (k1 k2 : Nat) (w : World) (hv : ObjV w (.slice A1 o.ents.length k1) (.slice A2 o.pars.length k2) o) : Calls Tryd.prog 33 #[.agg (objC o (.slice A1 o.ents.length k1) (.slice A2 o.pars.length k2)).toArray] w fun e w' => e = .returned (encD o) ∧ Below w.heap.size w w' := by
  have ho := hv.ok
  have hO := boxed (w := w) (ve := .slice A1 o.ents.length k1) (vp := .slice A2 o.pars.length k2) ho
  have b0 : Below w.heap.size w (w.alloc (.cells (objC o (.slice A1 o.ents.length k1) (.slice A2 o.pars.length k2)).toArray 41)) := (Below.refl _ _).alloc (Nat.le_refl _) _
  have hv0 := hv.below b0
  obtain ⟨W0, hW0⟩ : ∃ W0, w.alloc (.cells (objC o (.slice A1 o.ents.length k1) (.slice A2 o.pars.length k2)).toArray 41) = W0 := ⟨_, rfl⟩
  rw [hW0] at hO b0 hv0
  have hE0 : EncC w w.heap.size o (.slice A1 o.ents.length k1) (.slice A2 o.pars.length k2) W0 := ⟨hO, hv0, b0⟩
  have hmay := Lib.hid (refMay_calls o A1 A2 k1 k2 W0 hv0)
  have q0 := hE0.whole
  obtain ⟨r, hr⟩ : ∃ r, Hid (r = encD o) := ⟨_, Lib.hid rfl⟩
  rw [← hr.out]
  have hbl := whole_len hs ho
  have hem : mayB o = false → encO o = none := fun h => by unfold encO; rw [h]; simp
  have hbody := fun W (h : EncC w w.heap.size o (.slice A1 o.ents.length k1) (.slice A2 o.pars.length k2) W) => Lib.hid (refBody_calls o hs A1 A2 k1 k2 W h.val)
  have hone := fun W => Lib.hid (one_calls o.kind W)
  have hew : Hid (mayB o = true → encO o = if (byteK o.kind :: textE (bodyO o)).length ≤ 4096 then some (byteK o.kind :: textE (bodyO o)) else none) := fun h => by
    unfold encO wholeO
    rw [h]; simp
  have hsame := @body_same o
  have htext := fun W => Lib.hid (refText_calls (bodyO o) (by omega) W)
  have htl : (textE (bodyO o)).length ≤ 400010 := by have := put_length (bodyO o).length; unfold textE; rw [List.length_append]; omega
  have hsz : (Tryd.prog.info? 41).map (·.size) = some (objC o (.slice A1 o.ents.length k1) (.slice A2 o.pars.length k2)).length := by rw [objC_len ho]; exact szObj
  clear hv ho hs hv0 hO hbl
  cases hM : mayB o with
  | false =>
    rw [hM] at hmay
    have hf : Hid (r = _) := hr.out.trans (encD_none (hem hM))
    clear hr hem hew hbody htext hM hsz hsame
    generalize (objC o (.slice A1 o.ents.length k1) (.slice A2 o.pars.length k2)).toArray = cs at *
    go_enter Tryd.func33, Tryd.ntmps33
    go_wp2_with (first
      | ((with_reducible refine hmay.out.mono ?_); rintro e w1 ⟨rfl, hb1⟩))
    go_ret2
    exact ⟨by rw [hf.out]; rfl, bthen b0 b0.size hb1⟩
  | true =>
    rw [hM] at hmay
    rw [hsame hM] at hbody
    have hew := Lib.hid (hew.out hM)
    clear hem hM hsame
    generalize textE (bodyO o) = TX at *
    generalize bodyO o = BD at *
    have n1 : ¬ 9223372036854775807 < 1 + TX.length := by omega
    have n2 : ¬ 9223372036854775807 < TX.length + 1 := by omega
    go_enter Tryd.func33, Tryd.ntmps33
    go_upto_region 4 with (first
      | ((with_reducible refine hmay.out.mono ?_); rintro e w1 ⟨rfl, hb1⟩))
    have hE1 := hE0.below hb1
    clear hE0 hmay q0 hb1 b0 hW0
    obtain ⟨g, hg⟩ : ∃ g, w.heap.size = g := ⟨_, rfl⟩
    simp only [hg] at hbody hE1 ⊢
    go_cut [5] (fun s5 wx => s5 = .string (B (byteK o.kind :: TX)) ∧ Below w.heap.size w wx)
    case first =>
      refine wp_region_class (C := EncC w g o (.slice A1 o.ents.length k1) (.slice A2 o.pars.length k2)) (by kernel_rfl) (by kernel_rfl) hE1.drew ?_
      repeat
        first
          | ((with_reducible refine wpQuiet_ex ?_ ?_)
             · (go_simp; done)
             apply Exists.intro
             refine ⟨fun W hW => ?_, ?_⟩
             · first
                 | exact quiet_load_mid _ _ rfl g 0 rfl (objC o (.slice A1 o.ents.length k1) (.slice A2 o.pars.length k2)) _ hW.obj.whole Tryd.underlying41 rfl hsz rfl
                 | (have f2 := hW.obj.kind
                    go_simp
                    first
                      | rfl
                      | (go_at_call 52; with_reducible exact keepEnc (hone _).out hW)
                      | (go_at_call 54; with_reducible exact keepEnc (hbody _ hW).out hW)
                      | (go_at_call 53; with_reducible exact keepEnc (htext _).out hW))
             simp only [Act.put, List.setIfInBounds_toArray, List.set_cons_zero, List.set_cons_succ])
          | ((with_reducible refine wpQuiet_pass ?_ ?_)
             · (first | rfl | (go_simp; done))
             simp only [Act.put, List.setIfInBounds_toArray, List.set_cons_zero, List.set_cons_succ])
      with_reducible refine wpQuiet_nil ?_
      intro w5 hW5
      go_wp2
      go_meet
      case rel => exact ⟨rfl, hW5.bel⟩
    obtain ⟨rfl, hbx⟩ := hcut
    clear hbody htext hE1 n1 n2 hsz hone
    generalize hn : byteK o.kind :: TX = TT at *
    by_cases h4 : TT.length ≤ 4096
    · have i4 : ¬ (4096 : Int) < (TT.length : Int) := by omega
      have hf : Hid (r = _) := hr.out.trans (encD_some (t := TT) (by rw [hew.out, if_pos h4]))
      clear hr hew h4 hn
      go_wp2
      all_goals try (exfalso; omega)
      go_ret2
      exact ⟨by rw [hf.out]; rfl, by first | exact hbx | (rw [← hg]; exact hbx)⟩
    · have i4 : (4096 : Int) < (TT.length : Int) := by omega
      have hf : Hid (r = _) := hr.out.trans (encD_none (by rw [hew.out, if_neg h4]))
      clear hr hew h4 hn
      go_wp2
      all_goals try (exfalso; omega)
      go_ret2
      exact ⟨by rw [hf.out]; rfl, by first | exact hbx | (rw [← hg]; exact hbx)⟩
end Go.Proofs.YtnehabcopjgklaaDoor
