/- The walk of layer 9's reference: Get. No condition. -/
import Derived.Test.YtlpiefopegjgjaaGetO
import Derived.Test.YtlpiefopegjgjaaPutX
import Derived.Test.YtlpiefopegjgjaaRefG
namespace Go.Proofs.Ytlpiefopegjgjaa
open Go.RowKit
attribute [local go_sem ↓] ldvI_eq
theorem grown_refl (w : World) (row : Option Nat) : w.grownBy w row := ⟨rfl, rfl, rfl, Nat.le_refl _, fun _ _ _ => rfl⟩
/-- What the region that takes one ref on leaves. -/
def GetR (V : Nat → Value) (base : Nat) (vo : Value) (acc : List RefL) (x : RefL) (i : Nat) (v : Value) (w : World) : Prop :=
  if i < 5 then v = V i else if i = 5 then (∃ b, v = .slice (some ⟨b, 0, none⟩) 1 1 ∧ Blk w b 54 (refC x).toArray ∧ some b ≠ vo.ownBlock) else OwnRefs w base v (acc ++ [x])
section
variable {V : Nat → Value} {base : Nat} {vo : Value} {acc : List RefL} {x : RefL} {i : Nat} {v : Value} {w w' : World}
theorem getR_at (hi : i < 5) (h : GetR V base vo acc x i v w) : v = V i := by unfold GetR at h; rwa [if_pos hi] at h
theorem getR_mk (hi : i < 5) (h : v = V i) : GetR V base vo acc x i v w := by unfold GetR; rwa [if_pos hi]
theorem getR_5 {b : Nat} (h : Blk w b 54 (refC x).toArray) (hne : some b ≠ vo.ownBlock) : GetR V base vo acc x 5 (.slice (some ⟨b, 0, none⟩) 1 1) w := by
  unfold GetR; rw [if_neg (by omega), if_pos rfl]; exact ⟨b, rfl, h, hne⟩
theorem getR_5at (h : GetR V base vo acc x 5 v w) : ∃ b, v = .slice (some ⟨b, 0, none⟩) 1 1 ∧ Blk w b 54 (refC x).toArray ∧ some b ≠ vo.ownBlock := by
  unfold GetR at h; rwa [if_neg (by omega), if_pos rfl] at h
theorem getR_own (hi : 6 ≤ i) (h : OwnRefs w base v (acc ++ [x])) : GetR V base vo acc x i v w := by unfold GetR; rwa [if_neg (by omega), if_neg (by omega)]
theorem getR_ownAt (hi : 6 ≤ i) (h : GetR V base vo acc x i v w) : OwnRefs w base v (acc ++ [x]) := by unfold GetR at h; rwa [if_neg (by omega), if_neg (by omega)] at h
theorem getR_alloc (h : GetR V base vo acc x i v w) (o : Obj) : GetR V base vo acc x i v (w.alloc o) := by
  by_cases h5 : i < 5
  · exact getR_mk h5 (getR_at h5 h)
  · by_cases h6 : i = 5
    · subst h6
      obtain ⟨b, rfl, h1, h2⟩ := getR_5at h
      exact getR_5 (h1.alloc o) h2
    · exact getR_own (by omega) (World.ownsRow.alloc (getR_ownAt (by omega) h) o)
theorem getR_append (hi : ¬ 6 ≤ i) (h : GetR V base vo acc x i v w) (hg : w.grownBy w' vo.ownBlock) : GetR V base vo acc x i v w' := by
  by_cases h5 : i < 5
  · exact getR_mk h5 (getR_at h5 h)
  · obtain rfl : i = 5 := by omega
    obtain ⟨b, rfl, h1, h2⟩ := getR_5at h
    exact getR_5 (h1.grown hg h2) h2
end
structure GetC (w0 : World) (g : Nat) (id : List UInt8) (vo : Value) (acc : List RefL) (listed : Array Bool) (w : World) : Prop where
  blk : Blk w g 37 (u8s id)
  bel : Below w0.heap.size w0 w
  own : listed.getD 6 false = false → OwnRefs w w0.heap.size vo acc
section
variable {w0 w w' : World} {g : Nat} {id : List UInt8} {vo : Value} {acc : List RefL} {listed : Array Bool}
theorem GetC.same (h : GetC w0 g id vo acc listed w) {i : Nat} (hsz : listed.size = 8) (hi : i < 8) (h6 : i ≠ 6) : GetC w0 g id vo acc (listed.setIfInBounds i true) w :=
  ⟨h.blk, h.bel, fun hl => h.own (by rwa [getD_set (by omega), if_neg (fun e => h6 e.symm)] at hl)⟩
theorem GetC.alloc (h : GetC w0 g id vo acc listed w) (o : Obj) : GetC w0 g id vo acc listed (w.alloc o) :=
  ⟨h.blk.alloc o, h.bel.alloc h.bel.size o, fun hl => World.ownsRow.alloc (h.own hl) o⟩
theorem GetC.drew (h : GetC w0 g id vo acc listed w) : GetC w0 g id vo acc listed w.drew := ⟨h.blk, h.bel.drew, h.own⟩
theorem GetC.fresh (h : GetC w0 g id vo acc listed w) (hl : listed.getD 6 false = false) : some w.heap.size ≠ vo.ownBlock := fun e => by
  have := (World.ownsRow.lt (h.own hl) _ e.symm).2
  omega
theorem GetC.grown (h : GetC w0 g id vo acc listed w) (hsz : listed.size = 8) (hi : 6 < 8) (hl : listed.getD 6 false = false) (hb : Below w0.heap.size w0 w') (hg : w.grownBy w' vo.ownBlock) : GetC w0 g id vo acc (listed.setIfInBounds 6 true) w' :=
  ⟨h.blk.grown hg (own_blk_ne (h.own hl) h.blk (by decide)), hb, fun hl' => by rw [getD_set (by omega), if_pos rfl] at hl'; cases hl'⟩
end
theorem wp_build_refK {o : Oper} {a : Act} {w : World} {Q : Exit → Act → World → Prop} {K : Act → World → Prop} (x y : Operand) (ho : o.op = .build 54 #[(0, x), (1, y)])
    (name id : List UInt8) (hid : id.length = 32) (hx : a.eval x = .string (B name)) (hy : a.eval y = .agg (u8s id)) (h : K (a.put o.dst (.agg (refC ⟨name, id⟩).toArray)) w) : o.wp Try.prog a w K Q := by
  have hb := built_ref name id hid
  have e : ((#[(0, x), (1, y)] : Array (Nat × Operand)).map fun (i, x) => (i, a.eval x)).toList = [(0, .string (B name)), (1, .agg (u8s id))] := by simp [hx, hy]
  exact wp_build _ _ ho (by rw [e, hb]; rfl) (by rw [e, hb]; exact h)
theorem wp_slice_refK {o : Oper} {a : Act} {w : World} {Q : Exit → Act → World → Prop} {K : Act → World → Prop} (x : Operand) (ho : o.op = .buildSlice 22 1 #[(0, x)]) (r : RefL) (hr : RefOk r) (hx : a.eval x = .agg (refC r).toArray)
    (h : K (a.put o.dst (.slice (some ⟨w.heap.size, 0, none⟩) 1 1)) (w.alloc (.cells (refC r).toArray 54))) : o.wp Try.prog a w K Q := by
  have e : ((#[(0, x)] : Array (Nat × Operand)).map fun (i, x) => (i, a.eval x)) = #[(0, .agg (refC r).toArray)] := by simp [hx]
  have hr' := run_buildSlice_ref w r hr
  unfold Oper.wp execOp
  simp only [ho, Sem.run_bind, e, hr', Result.andThen_ok]
  exact h
def NoTen (s : List UInt8) (at_ i : Nat) : Prop := (10 : UInt8) ∉ (s.drop at_).take (i - at_)
theorem NoTen.nil {s : List UInt8} {at_ : Nat} : NoTen s at_ at_ := by simp [NoTen]
theorem NoTen.step {s : List UInt8} {at_ i : Nat} (h : NoTen s at_ i) (h1 : at_ ≤ i) (hi : i < s.length) (hne : s[i] ≠ 10) : NoTen s at_ (i + 1) := by
  unfold NoTen at *
  rw [show i + 1 - at_ = (i - at_) + 1 by omega, List.take_succ_eq_append_getElem (by rw [List.length_drop]; omega)]
  rw [List.mem_append]
  rintro (h2 | h2)
  · exact h h2
  · simp only [List.getElem_drop, List.mem_singleton] at h2
    have e : at_ + (i - at_) = i := by omega
    simp only [e] at h2
    exact hne h2.symm
theorem NoTen.cut {s : List UInt8} {at_ i : Nat} (h : NoTen s at_ i) (h1 : at_ ≤ i) (hi : i < s.length) (he : s[i] = 10) : cutB 10 (s.drop at_) = some ((s.drop at_).take (i - at_), s.drop (i + 1)) := by
  rw [cutB_some]
  refine ⟨?_, h⟩
  have e1 : s.drop at_ = (s.drop at_).take (i - at_) ++ (s.drop at_).drop (i - at_) := (List.take_append_drop _ _).symm
  rw [List.drop_drop, show at_ + (i - at_) = i by omega, List.drop_eq_getElem_cons hi, he] at e1
  exact e1
theorem NoTen.end_ {s : List UInt8} {at_ : Nat} (h : NoTen s at_ s.length) : cutB 10 (s.drop at_) = none := by
  rw [cutB_none]
  unfold NoTen at h
  rwa [List.take_of_length_le (by rw [List.length_drop]; omega)] at h
theorem ref_end {n : Nat} {s : List UInt8} {acc : List RefL} {G : Option (List RefL)} (h : refGo n s acc = G) (hc : cutB 10 s = none) : G = some acc := by
  cases n with
  | zero => rw [← h]; rfl
  | succ n => rw [← h, refGo, hc]
theorem ref_short {n : Nat} {s line rest : List UInt8} {acc : List RefL} {G : Option (List RefL)} (h : refGo n s acc = G) (hn : s.length ≤ n) (hc : cutB 10 s = some (line, rest)) (hl : line.length < 65) : G = none := by
  have := cutB_len hc
  cases n with
  | zero => omega
  | succ n => rw [← h, refGo, hc]; simp only [if_pos hl]
theorem ref_bad {n : Nat} {s line rest : List UInt8} {acc : List RefL} {G : Option (List RefL)} (h : refGo n s acc = G) (hn : s.length ≤ n) (hc : cutB 10 s = some (line, rest)) (hl : ¬ line.length < 65) (hx : isHex (line.take 64) = false) : G = none := by
  have := cutB_len hc
  cases n with
  | zero => omega
  | succ n => rw [← h, refGo, hc]; simp only [if_neg hl, hx]; rfl
theorem ref_good {n : Nat} {s line rest : List UInt8} {acc : List RefL} {G : Option (List RefL)} (h : refGo n s acc = G) (hn : s.length ≤ n) (hc : cutB 10 s = some (line, rest)) (hl : ¬ line.length < 65) (hx : isHex (line.take 64) = true) :
    ∃ n', rest.length ≤ n' ∧ refGo n' rest (acc ++ [⟨line.drop 65, unhexId (line.take 64)⟩]) = G := by
  have := cutB_len hc
  cases n with
  | zero => omega
  | succ n =>
    rw [refGo, hc] at h
    simp only [if_neg hl, hx, if_true] at h
    exact ⟨n, by omega, h⟩
theorem fine_names' {l : List RefL} (h : fineL l = true) : ∀ r ∈ l, r.name.length ≤ 40 := fun r hr => by
  have := fine_each' h r hr
  simp only [nameOk, Bool.and_eq_true, decide_eq_true_eq] at this
  omega
theorem fine_few {l : List RefL} (h : fineL l = true) : l.length ≤ 64 := by
  unfold fineL at h
  rw [Bool.and_eq_true, decide_eq_true_eq] at h
  exact h.1
theorem getR_no {s : List UInt8} (h : refGo s.length s [] = none) : getR s = none := by unfold getR; rw [h]
theorem getR_some {s : List UInt8} {l : List RefL} (h : refGo s.length s [] = some l) : getR s = if fineL l && decide (putT l = s) then some l else none := by unfold getR; rw [h]
set_option maxRecDepth 100000 in
set_option maxHeartbeats 4000000 in
theorem refGet_calls (s : List UInt8) (hs : s.length ≤ 100000) (w : World) :
    Calls Try.prog 18 #[.string (B s)] w fun e w' => GetPost w.heap.size (.bool false) (.bool true) (getR s) e w' ∧ Below w.heap.size w w' := by
  go_enter Try.func18, Try.ntmps18
  go_wp2
  go_loopw [4, 5, 6] (fun vo va vi wr => ∃ (n at_ i : Nat) (acc : List RefL), va = .int .i64 at_ ∧ vi = .int .i64 i ∧ at_ ≤ i ∧ i ≤ s.length ∧ s.length - at_ ≤ n ∧ acc.length ≤ i ∧ OwnRefs wr w.heap.size vo acc ∧ RefsOk acc ∧ NoTen s at_ i ∧ Hid (refGo n (s.drop at_) acc = refGo s.length s []) ∧ Below w.heap.size w wr) (fun _ _ vi _ => s.length - (intOf vi).toNat)
  case atStart => exact ⟨s.length, 0, 0, [], rfl, rfl, Nat.le_refl _, by omega, by omega, by simp, World.ownsRow_nil _ _ _ _, fun x hx => by simp at hx, NoTen.nil, rfl, Below.refl _ _⟩
  case round =>
    obtain ⟨n, at_, i, acc, rfl, rfl, hai, his, hn, hal, hown, hoo, hten, hgo, hbel⟩ := hrel
    have hsz := hbel.size
    by_cases hlt : i < s.length
    · have hii : (i : Int) < (s.length : Int) := by omega
      by_cases hc : s[i] = 10
      · have ht : (((s[i]).toNat : Int) != 10) = false := by rw [hc]; rfl
        have hcut := Lib.hid (hten.cut hai hlt hc)
        have hll : ((s.drop at_).take (i - at_)).length ≤ s.length := by rw [List.length_take, List.length_drop]; omega
        have hlr : (s.drop at_).length ≤ n := by rw [List.length_drop]; omega
        have haii : (at_ : Int) ≤ (i : Int) := by omega
        clear hc
        generalize hline : (s.drop at_).take (i - at_) = line at *
        by_cases h65 : line.length < 65
        · have h65i : (line.length : Int) < 65 := by omega
          have hno := Lib.hid (getR_no (ref_short hgo.out hlr hcut.out h65))
          clear h65 hgo hten hcut
          go_wp2
          go_ret2
          exact ⟨GetPost.no_ hno.out rfl, hbel⟩
        · have h65i : ¬ (line.length : Int) < 65 := by omega
          have hux := fun W => Lib.hid (refUnhex_calls (line.take 64) (by rw [List.length_take]; omega) W)
          have hlx := unhexOr_length (line.take 64)
          cases hx : isHex (line.take 64) with
          | false =>
            have hno := Lib.hid (getR_no (ref_bad hgo.out hlr hcut.out h65 hx))
            rw [hx] at hux
            clear h65 hgo hten hcut hx
            go_wp2_with (first
              | (go_at_call 34; go_must (refine (hux _).out.mono ?_); rintro e w3 ⟨rfl, hb3⟩)
              | ((with_reducible refine lit_new_id (.tmp 8) (.tmp 34) (unhexOr (line.take 64)) hlx _ ?_ ?_ ?_ ?_); rfl; rfl; rfl; intro W4 hb4 hbl4))
            go_ret2
            exact ⟨GetPost.no_ hno.out rfl, bthen (bthen hbel hsz hb3) (by have := hb3.size; omega) hbl4⟩
          | true =>
            obtain ⟨n', hn', hgo'⟩ := ref_good hgo.out hlr hcut.out h65 hx
            have hn' : s.length - (i + 1) ≤ n' := by rw [List.length_drop] at hn'; exact hn'
            have hgo' := Lib.hid hgo'
            rw [hx, show unhexOr (line.take 64) = unhexId (line.take 64) by rw [unhexOr, hx]; rfl] at hux
            have hid := unhexId_length (line.take 64)
            generalize unhexId (line.take 64) = id at *
            have hrok : RefOk ⟨line.drop 65, id⟩ := ⟨hid, by show (line.drop 65).length ≤ _; rw [List.length_drop]; omega⟩
            have k1 : acc.length + 1 ≤ 9223372036854775807 := by omega
            have k2 : (acc.length + 1) * 48 ≤ 140737488355328 := by omega
            clear h65 hgo hten hcut hx hlx
            go_wp2_with (first
              | (go_at_call 34; go_must (refine (hux _).out.mono ?_); rintro e w3 ⟨rfl, hb3⟩)
              | ((with_reducible refine lit_new_id (.tmp 8) (.tmp 34) id hid _ ?_ ?_ ?_ ?_); rfl; rfl; rfl; intro W4 hb4 hbl4))
            have bel4 := bthen (bthen hbel hsz hb3) (by have := hb3.size; omega) hbl4
            have own4 := own_below (own_below hown hb3) hbl4
            obtain ⟨g, hg⟩ : ∃ g, w3.heap.size = g := ⟨_, rfl⟩
            have hC0 : GetC w g id u4 acc (Array.replicate 8 false) W4 := ⟨hg ▸ hb4, bel4, fun _ => own4⟩
            rw [hg]
            clear hbl4 own4 bel4 hb4 hg hux hb3 hown hbel
            obtain ⟨V, hV⟩ : ∃ V : Nat → Value, V = fun i => [u4, (.string (B line)), (.string (B (line.drop 65))), (.agg (u8s id)), (.agg (refC ⟨line.drop 65, id⟩).toArray), undef, undef, undef].getD i undef := ⟨_, rfl⟩
            have v0 : V 0 = u4 := by rw [hV]; rfl
            have v1 : V 1 = (.string (B line)) := by rw [hV]; rfl
            have v2 : V 2 = (.string (B (line.drop 65))) := by rw [hV]; rfl
            have v3 : V 3 = (.agg (u8s id)) := by rw [hV]; rfl
            have v4 : V 4 = (.agg (refC ⟨line.drop 65, id⟩).toArray) := by rw [hV]; rfl
            clear hV
            refine wp_region_listed (C := GetC w g id u4 acc) (R := GetR V w.heap.size u4 acc ⟨line.drop 65, id⟩) (by kernel_rfl) (by kernel_rfl) (by kernel_rfl) ?_ hC0.drew ?_ ?_
            · exact sizes_spec (n := 56) (by kernel_rfl)
            · intro i o listed a w1 ho hi hL
              have hin := (ready_spec hi).1
              have hsz : listed.size = 8 := hL.size
              match i, ho with
              | 0, ho =>
                obtain rfl := (Option.some.inj ho).symm
                have e0 : a.tmps[4]?.getD undef = u4 := (slot_eval a 4).trans (hL.get_old hi (by kernel_rfl))
                have hc := hL.cls
                refine step_wp rfl rfl ?_
                clear ho hL
                refine wp_val (v := u4) ?_ ⟨_, rfl, getR_mk (by omega) v0.symm, hc.same hsz hin (by omega), fun _ _ _ h => h⟩
                clear hi hin hsz v0 v1 v2 v3 v4  hc
                unfold execOp
                go_simp
              | 1, ho =>
                obtain rfl := (Option.some.inj ho).symm
                have e0 : a.tmps[7]?.getD undef = (.string (B line)) := (slot_eval a 7).trans (hL.get_old hi (by kernel_rfl))
                have hc := hL.cls
                refine step_wp rfl rfl ?_
                clear ho hL
                refine wp_val (v := (.string (B line))) ?_ ⟨_, rfl, getR_mk (by omega) v1.symm, hc.same hsz hin (by omega), fun _ _ _ h => h⟩
                clear hi hin hsz v0 v1 v2 v3 v4  hc
                unfold execOp
                go_simp
              | 2, ho =>
                obtain rfl := (Option.some.inj ho).symm
                have e0 : a.tmps[39]?.getD undef = (.string (B line)) := (slot_eval a 39).trans ((getR_at (by omega) (hL.get_new (j := 1) hi (by kernel_rfl))).trans v1)
                have hc := hL.cls
                refine step_wp rfl rfl ?_
                clear ho hL
                refine wp_val (v := (.string (B (line.drop 65)))) ?_ ⟨_, rfl, getR_mk (by omega) v2.symm, hc.same hsz hin (by omega), fun _ _ _ h => h⟩
                clear hi hin hsz v0 v1 v2 v3 v4  hc
                unfold execOp
                go_simp
              | 3, ho =>
                obtain rfl := (Option.some.inj ho).symm
                have e0 : a.tmps[8]?.getD undef = (.pointer (some ⟨g, 0, none⟩)) := (slot_eval a 8).trans (hL.get_old hi (by kernel_rfl))
                have hc := hL.cls
                refine step_wp rfl rfl ?_
                clear ho hL
                refine wp_val (v := (.agg (u8s id))) ?_ ⟨_, rfl, getR_mk (by omega) v3.symm, hc.same hsz hin (by omega), fun _ _ _ h => h⟩
                have q2 := run_ldvI_mid (range_blk hc.blk) hid
                clear hi hin hsz v0 v1 v2 v3 v4  hc
                unfold execOp
                go_simp
              | 4, ho =>
                obtain rfl := (Option.some.inj ho).symm
                have e0 : a.tmps[40]?.getD undef = (.string (B (line.drop 65))) := (slot_eval a 40).trans ((getR_at (by omega) (hL.get_new (j := 2) hi (by kernel_rfl))).trans v2)
                have e1 : a.tmps[41]?.getD undef = (.agg (u8s id)) := (slot_eval a 41).trans ((getR_at (by omega) (hL.get_new (j := 3) hi (by kernel_rfl))).trans v3)
                have hc := hL.cls
                refine step_wp rfl rfl ?_
                refine wp_build_refK (.tmp 40) (.tmp 41) rfl (line.drop 65) id hid ((slot_eval a 40).symm.trans e0) ((slot_eval a 41).symm.trans e1) ⟨_, rfl, getR_mk (by omega) v4.symm, hc.same hsz hin (by omega), fun _ _ _ h => h⟩
              | 5, ho =>
                obtain rfl := (Option.some.inj ho).symm
                have e0 : a.tmps[42]?.getD undef = (.agg (refC ⟨line.drop 65, id⟩).toArray) := (slot_eval a 42).trans ((getR_at (by omega) (hL.get_new (j := 4) hi (by kernel_rfl))).trans v4)
                have hc := hL.cls
                have hl6 := hL.later (j := 6) hi (by kernel_rfl)
                clear ho hL
                refine step_wp rfl rfl ?_
                refine wp_slice_refK (.tmp 42) rfl ⟨line.drop 65, id⟩ hrok ((slot_eval a 42).symm.trans e0) ⟨_, rfl, getR_5 (Blk.new _ _ _) (hc.fresh hl6), (hc.same hsz hin (by omega)).alloc _, fun j u _ h => getR_alloc h _⟩
              | 6, ho =>
                obtain rfl := (Option.some.inj ho).symm
                have e0 : a.tmps[38]?.getD undef = u4 := (slot_eval a 38).trans ((getR_at (by omega) (hL.get_new (j := 0) hi (by kernel_rfl))).trans v0)
                have e1 := hL.get_new (j := 5) (t := 43) hi (by kernel_rfl)
                have hc := hL.cls
                have hl6 : listed.getD 6 false = false := by rw [getD_of_size (by rw [hsz]; exact hin)]; exact (ready_spec hi).2.1
                have hl7 := hL.later (j := 7) hi (by kernel_rfl)
                obtain ⟨b5, h5, hb5, hne5⟩ := getR_5at e1
                clear ho hL
                refine step_wp rfl rfl ?_
                refine wp_append_blk (.tmp 38) (.tmp 43) 22 rfl _ _ 33 48 Try.refTy w.heap.size u4 acc.length (rowsOf refC acc) ((slot_eval a 38).symm.trans e0) (hc.own hl6) b5 1 1 _ _ h5 hb5 (refC_size hrok) (refC_all _) k1 k2 w hc.bel hc.bel.size ?_
                intro v6 w6 hown6 hbel6 hg6
                refine ⟨_, rfl, getR_own (by omega) (own_ref_more hown6), hc.grown hsz hin hl6 hbel6 hg6, fun j u hj h => getR_append ?_ h hg6⟩
                intro hj6
                have : j = 6 ∨ j = 7 ∨ 8 ≤ j := by omega
                rcases this with rfl | rfl | h8
                · rw [hl6] at hj; cases hj
                · rw [hl7] at hj; cases hj
                · simp [Array.getD, hsz, show ¬ j < 8 by omega] at hj
              | 7, ho =>
                obtain rfl := (Option.some.inj ho).symm
                have e0 := hL.get_new (j := 6) (t := 44) hi (by kernel_rfl)
                have hc := hL.cls
                clear ho hL
                refine step_wp rfl rfl ?_
                have e1 : a.tmps[44]?.getD undef = a.eval (.tmp 44) := slot_eval a 44
                generalize a.eval (.tmp 44) = v6 at e0 e1
                refine wp_val (v := v6) ?_ ⟨_, rfl, getR_own (by omega) (getR_ownAt (by omega) e0), hc.same hsz hin (by omega), fun _ _ _ h => h⟩
                clear hc hi hin hsz v0 v1 v2 v3 v4 e0
                unfold execOp
                go_simp
              | (n + 8), ho => exact absurd hin (by simp)
            · intro a w1 listed hL hall
              have hc := hL.cls
              obtain ⟨vs, rfl, hR⟩ := hL.frame (by kernel_rfl) (sizes_spec (n := 56) (by kernel_rfl)) hall
              simp only [putAll, Act.put, List.setIfInBounds_toArray, List.set_cons_zero, List.set_cons_succ]
              simp only [Nat.zero_add, Nat.reduceAdd]
              have h7 := getR_ownAt (by omega) (hR 7 _ 4 rfl rfl)
              have hbel5 := hc.bel
              generalize vs 7 = v7 at h7
              clear hR hc hL
              go_wp2
              go_roundw
              case rel => exact ⟨n', i + 1, i + 1, _, by go_num, by go_num, Nat.le_refl _, by omega, hn', by simp; omega, h7, refsOk_one hoo hrok, NoTen.nil, hgo', hbel5⟩
              case measure => simp [intOf]; omega
      · have ht : (((s[i]).toNat : Int) != 10) = true := by
          rw [bne_iff_ne]
          intro e
          exact hc (UInt8.toNat_inj.1 (by have : (s[i]).toNat = 10 := by omega
                                          rw [this]; rfl))
        have hten' := hten.step hai hlt hc
        clear hc
        go_wp2
        go_roundw
        case rel => exact ⟨n, at_, i + 1, acc, rfl, by go_num, by omega, by omega, hn, by omega, hown, hoo, hten', hgo, hbel⟩
        case measure => simp [intOf]; omega
    · have hii : ¬ (i : Int) < (s.length : Int) := by omega
      obtain rfl : i = s.length := by omega
      have hend := Lib.hid (getR_some (ref_end hgo.out hten.end_))
      have hfin := Lib.hid (refFine_calls acc hoo _ wr (OwnRefs.refs hoo hown))
      clear hgo hten
      cases hfl : fineL acc
      · have hno : Hid (getR s = none) := by show _ = _; rw [hend.out, hfl]; rfl
        rw [hfl] at hfin
        clear hfl hend
        go_wp2_with (first
          | (go_at_call 11; go_must (refine hfin.out.mono ?_); rintro e w2 ⟨rfl, hb2⟩))
        go_ret2
        exact ⟨GetPost.no_ hno.out rfl, bthen hbel hsz hb2⟩
      · have hput := fun W (hb : Below wr.heap.size wr W) => Lib.hid (refPut_calls acc hoo (fine_names' hfl) (fine_few hfl) u4 W (OwnRefs.refs hoo (own_below hown hb)))
        rw [hfl] at hfin
        by_cases he : putT acc = s
        · have hyes : Hid (getR s = some acc) := by show _ = _; rw [hend.out, hfl]; simp [he]
          have he1 : (putT acc == s) = true := by simp [he]
          clear hfl hend he
          go_wp2_with (first
            | (go_at_call 11; go_must (refine hfin.out.mono ?_); rintro e w2 ⟨rfl, hb2⟩)
            | (go_at_call 16; go_must (refine (hput _ hb2).out.mono ?_); rintro e w3 ⟨rfl, hb3⟩))
          go_ret2
          exact ⟨GetPost.yes_ hyes.out _ rfl (own_below (own_below hown hb2) hb3) hoo, bthen (bthen hbel hsz hb2) (by have := hb2.size; omega) hb3⟩
        · have hno : Hid (getR s = none) := by show _ = _; rw [hend.out, hfl]; simp [he]
          have he1 : (putT acc == s) = false := by simp [he]
          clear hfl hend he
          go_wp2_with (first
            | (go_at_call 11; go_must (refine hfin.out.mono ?_); rintro e w2 ⟨rfl, hb2⟩)
            | (go_at_call 16; go_must (refine (hput _ hb2).out.mono ?_); rintro e w3 ⟨rfl, hb3⟩))
          go_ret2
          exact ⟨GetPost.no_ hno.out rfl, bthen (bthen hbel hsz hb2) (by have := hb2.size; omega) hb3⟩
end Go.Proofs.Ytlpiefopegjgjaa
