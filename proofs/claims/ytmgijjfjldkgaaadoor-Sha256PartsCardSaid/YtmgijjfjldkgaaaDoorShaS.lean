/- The walk of layer 2's Sum (sha256). Conditions: the table of constants is as the program laid it; the parts together have at most 2^40 bytes. -/
import Derived.Test.YtmgijjfjldkgaaaDoorShaB
import Derived.Test.YtmgijjfjldkgaaaDoorShelf
namespace Go.Proofs.YtmgijjfjldkgaaaDoor
open Go.RowKit
attribute [local go_sem ↓] Go.wp_at_zero Go.wp_at_succ

/-- A slice of strings lies there. -/
def Strs (w : World) (v : Value) (ls : List (List UInt8)) : Prop :=
  (ls = [] ∧ ∃ a c, v = .slice a 0 c) ∨
  ∃ bk o c, v = .slice (some ⟨bk, o, none⟩) ls.length c ∧ (∀ (j : Nat) l, ls[j]? = some l → w.cell? ⟨bk, o + j, none⟩ = some (.string (B l))) ∧ bk < w.heap.size ∧ ls.length ≤ c ∧ ls.length ≤ 140737488355328
theorem Strs.below {w w' : World} {v : Value} {ls : List (List UInt8)} (h : Strs w v ls) (hb : Below w.heap.size w w') : Strs w' v ls := by
  rcases h with h | ⟨bk, o, c, h1, h2, h3, h4, h5⟩
  · exact .inl h
  · exact .inr ⟨bk, o, c, h1, fun j l hj => (hb.cell (p := ⟨bk, o + j, none⟩) h3).trans (h2 j l hj), Nat.lt_of_lt_of_le h3 hb.size, h4, h5⟩
theorem join_flatten (ls : List (List UInt8)) : Lib.join ls [] = ls.flatten := by
  have : ∀ l : List (List UInt8), (l.intersperse []).flatten = l.flatten := by
    intro l
    induction l with
    | nil => rfl
    | cons a r ih =>
      cases r with
      | nil => rfl
      | cons b r => rw [List.intersperse_cons_cons, List.flatten_cons, List.flatten_cons, ih]; rfl
  exact this ls
theorem join_calls (ls : List (List UInt8)) (v : Value) (w : World) (hv : Strs w v ls) (hlen : ls.flatten.length ≤ 140737488355328) :
    Calls Tryd.prog 15 #[v, .string ⟨#[]⟩] w fun e w' => e = .returned (.string (B ls.flatten)) ∧ Below w.heap.size w w' := by
  rcases hv with ⟨rfl, a, c, rfl⟩ | ⟨bk, o, c, rfl, h1, h2, h3, h4⟩
  · exact (Tryd.strings_Join_none a c ⟨#[]⟩ w).mono fun e w' h => ⟨h.1, h.2 ▸ Below.refl _ _⟩
  · have hm : (ls.map B).map (·.data.toList) = ls := by simp [List.map_map, Function.comp_def, B]
    have := Tryd.strings_Join bk o c (ls.map B) ⟨#[]⟩ w (fun j x hj => by
      rw [List.getElem?_map] at hj
      obtain ⟨l, hl, rfl⟩ := Option.map_eq_some_iff.1 hj
      exact h1 j l hl) h2 (by simpa using h4) (by simpa using h3) (by rw [hm, join_flatten]; exact hlen)
    rw [List.length_map, hm, join_flatten] at this
    exact this
theorem repeat_zeros (n : Nat) : Lib.repeatL [0] n = List.replicate n 0 := by
  induction n with
  | zero => rfl
  | succ n ih => rw [Lib.repeatL, ih, List.replicate_succ]; rfl
theorem zeros_calls (n : Nat) (hn : n ≤ 64) (w : World) :
    Calls Tryd.prog 16 #[.string ⟨#[0]⟩, .int .i64 n] w fun e w' => e = .returned (.string (B (List.replicate n 0))) ∧ Below w.heap.size w w' := by
  have := Tryd.strings_Repeat ⟨#[0]⟩ n w (by omega) (by show 1 * n ≤ _; omega)
  rw [show (⟨#[0]⟩ : ByteArray).data.toList = [0] from rfl, repeat_zeros] at this
  exact this
/-- The load and the store of eight words, not to be opened by the walk. -/
def ldv8 (p : Addr) : Sem Value := loadVar 42 p
def stv8 (p : Addr) (v : Value) : Sem Unit := storeVar 42 p v
theorem ldv8_eq (p : Addr) : loadVar 42 p = ldv8 p := rfl
theorem stv8_eq (p : Addr) (v : Value) : storeVar 42 p v = stv8 p v := rfl
theorem run_ldv8 (w : World) (g : Nat) (hh : HasRow w g 42 8) : (ldv8 ⟨g, 0, none⟩).run Tryd.prog w = .ok (.agg (RowOf w g)) w := by
  obtain ⟨cs, hn, h⟩ := hh
  rw [rowOf_blk h]
  exact run_loadVar_row w g _ _ _ _ _ h Tryd.underlying42 rfl (by rw [hn]; exact sz8)
theorem run_stv8 (w : World) (g : Nat) (r : H8) (hh : HasRow w g 42 8) : (stv8 ⟨g, 0, none⟩ (.agg (u32s r.list))).run Tryd.prog w = .ok () (w.setRow g (u32s r.list)) := by
  obtain ⟨cs, hn, h⟩ := hh
  exact run_storeVar_row w g _ _ _ _ h (by rw [u32s_list_size]; exact sz8) (by rw [u32s_list_size, hn]) (u32s_one _)
attribute [local go_sem ↓] ldv8_eq stv8_eq
attribute [local go_sem] run_ldv8 run_stv8
theorem lenBytes_step (n k : Nat) (hk : k < 8) : (lenBytes n).take k ++ [UInt8.ofNat ((n : Int) * 8 / 2 ^ (56 - 8 * k) % 256).toNat] = (lenBytes n).take (k + 1) := by
  have hlen : (lenBytes n).length = 8 := by simp [lenBytes]
  have e : ((n : Int) * 8 / 2 ^ (56 - 8 * k) % 256).toNat = 8 * n / 2 ^ (56 - 8 * k) % 256 := by
    have : (n : Int) * 8 / 2 ^ (56 - 8 * k) % 256 = ((8 * n / 2 ^ (56 - 8 * k) % 256 : Nat) : Int) := by
      rw [Int.mul_comm]; simp
    rw [this]; rfl
  rw [e, List.take_add_one, List.getElem?_eq_getElem (by omega)]
  simp [lenBytes]
theorem lenBytes_length (n : Nat) : (lenBytes n).length = 8 := by simp [lenBytes]
theorem padded_length (l : List UInt8) : ∃ m, (padded l).length = 64 * m := by
  refine ⟨(padded l).length / 64, ?_⟩
  have : (padded l).length = l.length + 1 + padLen l.length + 8 := by simp [padded, lenBytes_length]; omega
  rw [this]
  unfold padLen
  omega
theorem take_set (L : List UInt8) (i n : Nat) (hi : i < L.length) (hn : n = L.length) : (L.take i ++ List.replicate (n - i) 0).set i (L.getD i 0) = L.take (i + 1) ++ List.replicate (n - (i + 1)) 0 := by
  subst hn
  have hl : (L.take i).length = i := by simp; omega
  rw [List.set_append_right _ _ (by omega), hl, Nat.sub_self, show L.length - i = (L.length - (i + 1)) + 1 from by omega, List.replicate_succ, List.set_cons_zero, List.take_add_one, List.append_assoc, List.getElem?_eq_getElem hi]
  simp [List.getD, List.getElem?_eq_getElem hi]
theorem idOf_length (s : H8) : (idOf s).length = 32 := by simp [idOf]
theorem idOf_get (s : H8) (i : Nat) (hi : i < 32) : (idOf s).getD i 0 = (s.list.getD (i / 4) 0 / 2 ^ (24 - 8 * (i % 4)) % 256).toUInt8 := by
  have : i < (idOf s).length := by rw [idOf_length]; exact hi
  rw [List.getD, List.getElem?_eq_getElem this]
  simp only [idOf, List.getElem_map, List.getElem_range, Option.getD_some]
set_option maxRecDepth 100000 in
set_option maxHeartbeats 2000000 in
theorem sum_calls (ls : List (List UInt8)) (v : Value) (w : World) (hK : TabK w) (hv : Strs w v ls) (hlen : ls.flatten.length ≤ 1099511627776) :
    Calls Tryd.prog 7 #[v] w fun e w' => e = .returned (.agg (u8s (shaOf ls.flatten))) ∧ Below w.heap.size w w' := by
  go_enter Tryd.func7, Tryd.ntmps7
  obtain ⟨l, hl⟩ : ∃ l, ls.flatten = l := ⟨_, rfl⟩
  rw [hl] at hlen ⊢
  have hll : (l.length : Int) ≤ 1099511627776 := by omega
  obtain ⟨p, hpe⟩ : ∃ p, Hid (padLen l.length = p) := ⟨_, rfl⟩
  have hp64 : p ≤ 64 := by rw [← hpe.out]; unfold padLen; omega
  have hp1 : (120 - ((l.length : Int) + 1)) % 64 = (p : Int) := by rw [← hpe.out]; unfold padLen; omega
  have hp2 : (120 - ((l.length : Int) + 1) % 64) % 64 = (p : Int) := by rw [← hpe.out]; unfold padLen; omega
  go_wp2_with (first
    | (go_at_call 15; go_must (refine (join_calls ls v _ (hv.below ((Below.refl _ _).alloc (Nat.le_refl _) _)) (by rw [hl]; omega)).mono ?_); rw [hl]; rintro e w1 ⟨rfl, hb1⟩)
    | (go_at_call 16; go_must (refine (zeros_calls p hp64 _).mono ?_); rintro e w2 ⟨rfl, hb2⟩))
  have hr1 : Blk w1 w.heap.size 24 (u8s (List.replicate 32 0)) := Blk.below (Blk.new w _ _) hb1 (by rw [size_alloc']; omega)
  have hl1 : Below w.heap.size w w1 := bthen ((Below.refl _ _).alloc (Nat.le_refl _) _) (by rw [size_alloc']; omega) hb1
  have hr2 : Blk w2 w.heap.size 24 (u8s (List.replicate 32 0)) := hr1.below hb2 hr1.lt
  have hl2 : Below w.heap.size w w2 := bthen hl1 hl1.size hb2
  clear hb1 hb2 hr1 hl1
  have hbase0 : (l ++ 128 :: List.replicate p 0).length = l.length + 1 + p := by simp; omega
  generalize hbs : l ++ 128 :: List.replicate p 0 = bs at *
  have hbsh := Lib.hid hbs
  have hbase := Lib.hid hbase0
  have hbl : bs.length ≤ 1099511627776 + 100 := by omega
  clear hbs hbase0
  go_loopw [25, 3] (fun i tx wr => ∃ k : Nat, i = .int .i64 k ∧ k ≤ 8 ∧ tx = .string (B (bs ++ (lenBytes l.length).take k)) ∧ Blk wr w.heap.size 24 (u8s (List.replicate 32 0)) ∧ Below w.heap.size w wr) (fun i _ _ => 8 - (intOf i).toNat)
  case atStart => exact ⟨0, rfl, by omega, by rw [List.take_zero, List.append_nil], hr2, hl2⟩
  case round =>
    obtain ⟨k, rfl, hk, rfl, hr, hbel⟩ := hrel
    have hrl := hr.lt
    by_cases hk8 : k < 8
    · have hki : (k : Int) < 8 := by omega
      have hst1 := Tryd.str_of_one
      go_wp2
      have hstep := Lib.hid (lenBytes_step l.length k hk8)
      go_roundw
      case rel => exact ⟨k + 1, by go_num, by omega, by rw [hstep.out], hr.alloc _, hbel.alloc (by omega) _⟩
      case measure => simp [intOf]; omega
    · have hk8' : k = 8 := by omega
      have hki : ¬ (k : Int) < 8 := by omega
      have hpd : bs ++ (lenBytes l.length).take k = padded l := by
        rw [hk8', List.take_of_length_le (by rw [lenBytes_length]; omega), ← hbsh.out, ← hpe.out]
        simp [padded]
      rw [hpd]
      clear hk8' hpd
      obtain ⟨m0, hm0⟩ := padded_length l
      have hst0 : Hid (blocks m0 H0 (padded l) = stateOf l) := by
        show _ = _
        rw [stateOf, hm0, Nat.mul_div_cancel_left _ (by omega)]
      have hpdl : (padded l).length ≤ 1099511627976 := by
        have : (padded l).length = l.length + 1 + padLen l.length + 8 := by simp [padded, lenBytes_length]; omega
        rw [this, hpe.out]; omega
      generalize padded l = pd at *
      have hi8 : (Tryd.prog.info? 42).map (·.size) = some (u32s H0.list).size := by rw [u32s_list_size]; exact sz8
      have hall := u32s_one H0.list
      have hold : (u32s (List.replicate 8 0)).size = (u32s H0.list).size := rfl
      have hv0 := Blk.new wr 42 (u32s (List.replicate 8 0))
      go_wp2_with (first
        | (refine wpList_store_row rfl 42 (.tmp 6) (.tmp 39) rfl wr.heap.size (u32s H0.list) rfl rfl _ _ hv0 hi8 hold hall ?_))
      have h1 : Blk (World.setRow (wr.alloc (.cells (u32s (List.replicate 8 0)) 42)) wr.heap.size (u32s H0.list)) wr.heap.size 42 (u32s H0.list) := setRow_heap _ _ _ _ _ _ hv0
      have h2 : Blk (World.setRow (wr.alloc (.cells (u32s (List.replicate 8 0)) 42)) wr.heap.size (u32s H0.list)) w.heap.size 24 (u8s (List.replicate 32 0)) := by
        unfold Blk; rw [setRow_other _ _ _ _ (by omega)]; exact hr.alloc _
      have h3 : Below w.heap.size w (World.setRow (wr.alloc (.cells (u32s (List.replicate 8 0)) 42)) wr.heap.size (u32s H0.list)) := below_setRow (hbel.alloc (by omega) _) (by omega) _
      clear hv0 hr hbel
      obtain ⟨vb, hvb⟩ : ∃ vb, wr.heap.size = vb := ⟨_, rfl⟩
      have hvw : w.heap.size < vb := by omega
      go_loopw [3] (fun tx wr => ∃ (m : Nat) (rest : List UInt8) (s : H8), tx = .string (B rest) ∧ Hid (rest.length = 64 * m) ∧ rest.length ≤ 1099511627976 ∧ Hid (blocks m s rest = stateOf l) ∧ s.Fit ∧ Blk wr vb 42 (u32s s.list) ∧ Blk wr w.heap.size 24 (u8s (List.replicate 32 0)) ∧ Below w.heap.size w wr) (fun tx _ => (strOf tx).length)
      case atStart => exact ⟨m0, pd, H0, rfl, hm0, hpdl, hst0, H0_fit, hvb ▸ h1, h2, h3⟩
      case round =>
        rw [hvb]
        clear h1 h2 h3 hvb
        obtain ⟨m, rest, s, rfl, hm, hrl2, hst, hfit, h1, h2, h3⟩ := hrel
        have hbs1 := h1.lt
        by_cases hre : rest = []
        · have hemp : rest.isEmpty = true := by rw [hre]; rfl
          have hsl : Hid (s = stateOf l) := by
            have hm0' : m = 0 := by have := hm.out; rw [hre] at this; simp at this; omega
            have := hst.out
            rw [hm0'] at this
            exact this
          clear hst hm hre
          have hg0 := Blk.new wr 24 (u8s (List.replicate 32 0))
          have k1 := h1.alloc (.cells (u8s (List.replicate 32 0)) 24)
          have k2 := h2.alloc (.cells (u8s (List.replicate 32 0)) 24)
          have k3 := h3.alloc (Nat.le_of_lt h2.lt) (.cells (u8s (List.replicate 32 0)) 24)
          go_wp2
          obtain ⟨ib, hib⟩ : ∃ ib, wr.heap.size = ib := ⟨_, rfl⟩
          rw [hib] at hg0 ⊢
          have hvi : vb < ib := by omega
          clear h1 h2 h3 hib
          go_loopw [48] (fun i wr => ∃ k : Nat, i = .int .i64 k ∧ k ≤ 32 ∧ Blk wr ib 24 (u8s ((idOf s).take k ++ List.replicate (32 - k) 0)) ∧ Blk wr vb 42 (u32s s.list) ∧ Blk wr w.heap.size 24 (u8s (List.replicate 32 0)) ∧ Below w.heap.size w wr) (fun i _ => 32 - (intOf i).toNat)
          case atStart => exact ⟨0, rfl, by omega, hg0, k1, k2, k3⟩
          case round =>
            clear hg0 k1 k2 k3
            obtain ⟨i, rfl, hi, h0, h1, h2, h3⟩ := hrel
            have hbi := h0.lt
            by_cases hi32 : i < 32
            · have hii : (i : Int) < 32 := by omega
              have hq : (i : Int) / 4 < 8 := by omega
              have hq0 : (0 : Int) ≤ (i : Int) / 4 := by omega
              have hqn : i / 4 < 8 := by omega
              have cw : wr.cell? ⟨vb, i / 4, none⟩ = some (.int .u32 (s.list.getD (i / 4) 0 : Nat)) := by
                rw [h1.cell, u32s_get _ _ hqn]
              have cz : wr.cell? ⟨ib, i, none⟩ = some (.int .u8 ((((idOf s).take i ++ List.replicate (32 - i) 0).getD i 0).toNat : Nat)) := by
                rw [h0.cell, u8s_get _ _ (by rw [List.length_append, List.length_take, idOf_length, List.length_replicate]; omega)]
              have fz := h0.frozen i
              have hset := Lib.hid (take_set (idOf s) i 32 (by rw [idOf_length]; exact hi32) (idOf_length s).symm)
              have hget := Lib.hid (idOf_get s i hi32)
              generalize (((idOf s).take i ++ List.replicate (32 - i) 0).getD i 0).toNat = oz at *
              generalize s.list.getD (i / 4) 0 = x at *
              go_wp2
              have hvv : (x : Int) / 2 ^ (24 - 8 * (i % 4)) % 256 = ((x / 2 ^ (24 - 8 * (i % 4)) % 256 : Nat) : Int) := by simp
              rw [hvv]
              have hlt := Nat.mod_lt (x / 2 ^ (24 - 8 * (i % 4))) (show 0 < 256 by omega)
              have hn := h0.set_ i (.int .u8 ((x / 2 ^ (24 - 8 * (i % 4)) % 256 : Nat) : Int))
              rw [u8s_set _ _ _ hlt, ← hget.out, hset.out] at hn
              go_roundw
              case rel => exact ⟨i + 1, by go_num, by omega, hn, h1.far (by simp; omega) _, h2.far (by simp; omega) _, h3.setCell (by simp; omega) _⟩
              case measure => simp [intOf]; omega
            · have hi32' : i = 32 := by omega
              have hii : ¬ (i : Int) < 32 := by omega
              have h0' : Blk wr ib 24 (u8s (idOf s)) := by
                rw [hi32', List.take_of_length_le (by rw [idOf_length]; omega), Nat.sub_self, List.replicate_zero, List.append_nil] at h0
                exact h0
              clear hi32' h0
              have hid : (idOf s).length = 32 := idOf_length s
              have hfin : Hid (shaOf l = idOf s) := by show _ = _; rw [hsl.out]; rfl
              clear hsl
              generalize idOf s = id at *
              have hi' : (Tryd.prog.info? 24).map (·.size) = some (u8s id).size := by rw [u8s_size, hid]; exact sz32
              have hall' := u8s_one id
              have hold' : (u8s (List.replicate 32 0)).size = (u8s id).size := by rw [u8s_size, u8s_size, hid, List.length_replicate]
              go_wp2_with (first
                | (refine wpList_load_row rfl 24 (.tmp 7) rfl ib rfl _ _ _ _ h0' Tryd.underlying24 rfl hi' ?_)
                | (refine wpList_store_row rfl 24 (.tmp 2) (.tmp 64) rfl w.heap.size (u8s id) rfl rfl _ _ h2 hi' hold' hall' ?_))
              exact bodyPost_ret (results_cell_row rfl _ _ w.heap.size _ _ _ _ rfl (setRow_heap _ _ _ _ _ _ h2) Tryd.underlying24 rfl hi') rfl ⟨by rw [hfin.out], below_setRow h3 (Nat.le_refl _) _⟩
        · have hemp : rest.isEmpty = false := by cases rest with | nil => exact absurd rfl hre | cons => rfl
          have h64 : 64 ≤ rest.length := by
            have := hm.out
            have h0 : rest.length ≠ 0 := fun h => hre (List.length_eq_zero_iff.1 h)
            omega
          have h64i : (64 : Int) ≤ (rest.length : Int) := by omega
          have hR : HasRow wr vb 42 8 := hasRow_blk h1 (u32s_list_size s)
          have hO : RowOf wr vb = u32s s.list := rowOf_blk h1
          have hRd : HasRow wr.drew vb 42 8 := hR
          have hOd : RowOf wr.drew vb = u32s s.list := hO
          have hKd : TabK wr.drew := hK.below h3.drew
          have h1d : Blk wr.drew vb 42 (u32s s.list) := h1
          have hbs1d : vb < wr.drew.heap.size := hbs1
          go_wp2
          go_region_with (first
              | (go_at_call 17; go_must (refine (block_calls s hfit (rest.take 64) (by rw [List.length_take]; omega) _ hKd).mono ?_); rintro e w1 ⟨rfl, hb1⟩; have hRc := hasRow_blk (h1d.below hb1 hbs1d) (u32s_list_size s); have hOc := rowOf_blk (h1d.below hb1 hbs1d)))
          have e1 := setRow_heap w1 vb _ (u32s (blockOf s (rest.take 64)).list) _ _ (h1d.below hb1 hbs1d)
          have e2 : Blk (w1.setRow vb (u32s (blockOf s (rest.take 64)).list)) w.heap.size 24 (u8s (List.replicate 32 0)) := by
            unfold Blk; rw [setRow_other _ _ _ _ (by omega)]; exact Blk.below (w := wr.drew) h2 hb1 h2.lt
          have e3 := below_setRow (bthen h3.drew (Nat.le_of_lt h2.lt) hb1) (Nat.le_of_lt hvw) (u32s (blockOf s (rest.take 64)).list)
          have hnst : Hid (blocks (m - 1) (blockOf s (rest.take 64)) (rest.drop 64) = stateOf l) := by
            have := hst.out
            obtain ⟨m', rfl⟩ : ∃ m', m = m' + 1 := ⟨m - 1, by have := hm.out; omega⟩
            exact this
          have hnm : Hid ((rest.drop 64).length = 64 * (m - 1)) := by have := hm.out; show _ = _; rw [List.length_drop]; omega
          have hdl : (rest.drop 64).length = rest.length - 64 := List.length_drop
          have hfit2 : (blockOf s (rest.take 64)).Fit := plus_fit _ _
          generalize blockOf s (rest.take 64) = s' at *
          clear hRc hOc hb1
          generalize w1.setRow vb (u32s s'.list) = wz at *
          go_wp2
          go_roundw
          case rel => exact ⟨m - 1, rest.drop 64, s', rfl, hnm, by omega, hnst, hfit2, e1, e2, e3⟩
          case measure => rw [strOf_B, strOf_B]; omega
end Go.Proofs.YtmgijjfjldkgaaaDoor
